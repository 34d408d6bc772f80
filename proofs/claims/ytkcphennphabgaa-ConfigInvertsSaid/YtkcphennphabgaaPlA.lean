/- What is proved here: plain lemmas about options, conditions, bounded rounds and whole numbers. They ask nothing. -/
import Derived.Test.YtkcphennphabgaaRc
import Derived.IntWalk
namespace Go.Proofs.Ytkcphennphabgaa.RT
open Go Go.R

theorem cond_some {α : Type} (c : Bool) (a b : α) : (bif c then some a else some b) = some (bif c then a else b) := by cases c <;> rfl
theorem cond_if {α : Type} (c : Bool) (a b : α) : (bif c then a else b) = if c = true then a else b := by cases c <;> rfl
theorem cond_pos {α : Type} {c : Bool} {a b : α} (h : c = true) : (bif c then a else b) = a := by rw [h]; rfl
theorem cond_neg {α : Type} {c : Bool} {a b : α} (h : c = false) : (bif c then a else b) = b := by rw [h]; rfl
theorem bind_eta {α : Type} (o : Option α) : (o.bind fun x => some x) = o := by cases o <;> rfl

theorem w64_id {n : Int} (h : -9223372036854775808 ≤ n) (h' : n ≤ 9223372036854775807) : w64 n = n := by
  rw [w64, IntKind.wrap_i64]; omega

theorem i64_bounds {n : Int} (h : (Lit.int .i64 n).wf = true) : -9223372036854775808 ≤ n ∧ n ≤ 9223372036854775807 := by
  simpa [Lit.wf, IntKind.min, IntKind.max, IntKind.bits, IntKind.signed] using h

/-- Bounded rounds come to what 'spec' says, where each round does. -/
theorem iterT_eq {X R : Type} {F : (X → Option R) → X → Option R} (spec : X → Option R) (meas : X → Nat) (Inv : X → Prop)
    (h : ∀ (x : X) (self : X → Option R), Inv x → (∀ y, Inv y → meas y < meas x → self y = spec y) → F self x = spec x) : ∀ (n : Nat) (x : X), Inv x → meas x < n → iterT n F x = spec x
  | 0, _, _, hm => by omega
  | n + 1, x, hi, hm => h x (fun y => iterT n F y) hi fun y hy hlt => iterT_eq spec meas Inv h n y hy (by omega)

theorem inIdx {i : Int} {n : Nat} (h0 : 0 ≤ i) (h1 : i < n) : (decide (0 ≤ i) && decide (i < ((n : Nat) : Int))) = true := by
  rw [decide_eq_true h0, decide_eq_true h1]; rfl

theorem getD_nat {α : Type} (l : List α) (d : α) (k : Nat) : l.getD ((k : Int)).toNat d = l.getD k d := by simp

theorem drop_cons {α : Type} {l : List α} {k : Nat} (h : k < l.length) (d : α) : l.drop k = l.getD k d :: l.drop (k + 1) := by
  rw [List.drop_eq_getElem_cons h]
  simp [List.getD, h]

end Go.Proofs.Ytkcphennphabgaa.RT
