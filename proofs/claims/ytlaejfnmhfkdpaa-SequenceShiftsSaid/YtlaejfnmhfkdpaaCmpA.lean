/- What is proved here: what the comparisons of package cmp come to. They ask nothing. -/
import Derived.Test.YtlaejfnmhfkdpaaSqT
import Derived.Test.YtlaejfnmhfkdpaaPlA
import Derived.Test.YtlaejfnmhfkdpaaStrA
namespace Go.Proofs.Ytlaejfnmhfkdpaa.RT
open Go Go.R

theorem cmpi_eq (k : Nat) (a b : Int) : cmp_Compare_int.F k a b = some (icmp a b) := by
  unfold cmp_Compare_int.F cmp_isNaN_int.F icmp
  simp only [Option.bind_some, bne_self_eq_false, cond_false]
  by_cases h : a < b
  · rw [decide_eq_true h, if_pos h]; rfl
  · rw [decide_eq_false h, if_neg h]
    by_cases g : b < a
    · rw [decide_eq_true (p := a > b) g, if_pos g]; rfl
    · rw [decide_eq_false (p := a > b) g, if_neg g]; rfl

theorem cmps_eq (k : Nat) (a b : ByteArray) : cmp_Compare_string.F k a b = some (scmp a b) := by
  unfold cmp_Compare_string.F cmp_isNaN_string.F scmp
  simp only [Option.bind_some, beq_self_eq_true, Bool.not_true, cond_false]
  cases h : Op.bytesLess a.toList b.toList with
  | true => rfl
  | false =>
    cases h' : Op.bytesLess b.toList a.toList with
    | true =>
      have : ¬ a.toList = b.toList := fun e => by rw [e, bl_irrefl] at h'; cases h'
      rw [show (a.toList == b.toList) = false by simpa using this]; rfl
    | false =>
      have := bl_tri _ _ h h'
      rw [show (a.toList == b.toList) = true by simpa using this]; rfl

theorem or2_eq (m : Nat) (a b : Int) : cmp_Or_int.F (m + 5) [a, b] = some (if a = 0 then b else a) := by
  unfold cmp_Or_int.F
  rw [cmp_Or_int.l0_succ]
  unfold cmp_Or_int.l0b
  by_cases h : a = 0
  · subst h
    rw [if_pos rfl, cond_pos (c := decide ((0 : Int) < (([0, b] : List Int).length : Nat))) (by rfl), cond_pos (by rfl), cond_neg (by rfl)]
    show cmp_Or_int.l0 (m + 5) [0, b] ((m + 3) + 1) 1 = some b
    rw [cmp_Or_int.l0_succ]
    unfold cmp_Or_int.l0b
    by_cases g : b = 0
    · subst g; rfl
    · rw [cond_pos (c := decide ((1 : Int) < (([0, b] : List Int).length : Nat))) (by rfl), cond_pos (by rfl), cond_pos (by simpa using g)]; rfl
  · rw [if_neg h, cond_pos (c := decide ((0 : Int) < (([a, b] : List Int).length : Nat))) (by rfl), cond_pos (by rfl), cond_pos (by simpa using h)]; rfl

end Go.Proofs.Ytlaejfnmhfkdpaa.RT
