/- What is proved here: the plain law HandoverRepeats, about plain Lean functions. It asks nothing. -/
import Derived.Test.YtdchminahimfhaaHrT
import Derived.IntWalk
namespace Go.Proofs.Ytdchminahimfhaa.RT
open Go Go.R

theorem cond_some {α : Type} (c : Bool) (a b : α) : (bif c then some a else some b) = some (bif c then a else b) := by cases c <;> rfl
theorem cond_if {α : Type} (c : Bool) (a b : α) : (bif c then a else b) = if c = true then a else b := by cases c <;> rfl
theorem w64_id {n : Int} (h : -9223372036854775808 ≤ n) (h' : n ≤ 9223372036854775807) : w64 n = n := by
  rw [w64, IntKind.wrap_i64]; omega

theorem check_eq (k : Nat) (s : Int × Int) : handover_Check.F k s = some (if s.1 < 0 ∨ 2 < s.1 then 1 else if s.2 < 0 ∨ 2000 < s.2 then 4 else 0) := by
  unfold handover_Check.F
  simp only [cond_some, Option.bind_some, Bool.cond_true_left]
  simp only [cond_if, Bool.or_eq_true, decide_eq_true_eq, gt_iff_lt]

def hears (s : Int × Int) (m : Bool × Int) : (Int × Int) × (Bool × Int) × Bool × Int :=
  if m.2 < 1 ∨ 2000 < m.2 then ((0, 0), (false, 0), false, 4)
  else if m.1 = true then (if s.1 = 2 ∧ m.2 = s.2 + 1 then (0, m.2) else s, (false, 0), false, 0)
  else if s.1 = 2 ∧ m.2 = s.2 + 2 then ((1, m.2), (true, m.2), true, 0)
  else if s.1 = 0 ∧ m.2 = s.2 + 1 then ((1, m.2), (true, m.2), true, 0)
  else if m.2 ≤ s.2 then (s, (true, m.2), true, 0) else (s, (false, 0), false, 0)

theorem hear_eq (k : Nat) (s : Int × Int) (m : Bool × Int) (h1 : 0 ≤ s.1) (h2 : s.1 ≤ 2) (h3 : 0 ≤ s.2) (h4 : s.2 ≤ 2000) : handover_Hear.F k s m = some (hears s m) := by
  obtain ⟨a, n⟩ := s
  obtain ⟨b, i⟩ := m
  simp only at h1 h2 h3 h4
  unfold handover_Hear.F handover_hearAck.F
  rw [check_eq]
  rw [w64_id (n := n + 2) (by omega) (by omega), w64_id (n := n + 1) (by omega) (by omega), w64_id (n := n + 1 + 1) (by omega) (by omega)]
  simp only [cond_some, Option.bind_some, Bool.cond_true_left, Bool.cond_false_right]
  rw [if_neg (by omega), if_neg (by omega)]
  unfold hears
  simp only [cond_if, Bool.or_eq_true, Bool.and_eq_true, decide_eq_true_eq, gt_iff_lt, bne_iff_ne, beq_iff_eq]
  (repeat' split) <;> first | rfl | (exfalso; omega) | simp_all

theorem repeats (s : Int × Int) (m : Bool × Int) (h1 : 0 ≤ s.1) (h2 : s.1 ≤ 2) (h3 : 0 ≤ s.2) (h4 : s.2 ≤ 2000) (he : (hears s m).2.2.2 = 0) :
    0 ≤ (hears s m).1.1 ∧ (hears s m).1.1 ≤ 2 ∧ 0 ≤ (hears s m).1.2 ∧ (hears s m).1.2 ≤ 2000 ∧ s.2 ≤ (hears s m).1.2 ∧ (hears (hears s m).1 m).2.2.2 = 0 ∧ (hears (hears s m).1 m).1 = (hears s m).1 ∧
    ((hears s m).2.2.1 = true → (hears (hears s m).1 m).2.2.1 = true ∧ (hears (hears s m).1 m).2.1 = (hears s m).2.1) := by
  obtain ⟨a, n⟩ := s
  obtain ⟨b, i⟩ := m
  simp only at h1 h2 h3 h4
  by_cases c0 : i < 1 ∨ 2000 < i
  · simp [hears, c0] at he
  · cases b with
    | true =>
      by_cases c1 : a = 2 ∧ i = n + 1
      · have e : hears (a, n) (true, i) = ((0, i), (false, 0), false, 0) := by unfold hears; simp only [if_neg c0, if_pos c1, if_true]
        have e2 : hears (0, i) (true, i) = ((0, i), (false, 0), false, 0) := by unfold hears; simp only [if_neg c0, if_true]; simp
        rw [e]; simp only [e2]; simp; omega
      · have e : hears (a, n) (true, i) = ((a, n), (false, 0), false, 0) := by unfold hears; simp only [if_neg c0, if_neg c1, if_true]
        rw [e]; simp only [e]; simp; omega
    | false =>
      by_cases c1 : a = 2 ∧ i = n + 2
      · have e : hears (a, n) (false, i) = ((1, i), (true, i), true, 0) := by unfold hears; simp only [if_neg c0, if_pos c1, Bool.false_eq_true, if_false]
        have e2 : hears (1, i) (false, i) = ((1, i), (true, i), true, 0) := by unfold hears; simp only [if_neg c0, Bool.false_eq_true, if_false]; simp
        rw [e]; simp only [e2]; simp; omega
      · by_cases c2 : a = 0 ∧ i = n + 1
        · have e : hears (a, n) (false, i) = ((1, i), (true, i), true, 0) := by unfold hears; simp only [if_neg c0, if_neg c1, if_pos c2, Bool.false_eq_true, if_false]
          have e2 : hears (1, i) (false, i) = ((1, i), (true, i), true, 0) := by unfold hears; simp only [if_neg c0, Bool.false_eq_true, if_false]; simp
          rw [e]; simp only [e2]; simp; omega
        · by_cases c3 : i ≤ n
          · have e : hears (a, n) (false, i) = ((a, n), (true, i), true, 0) := by simp [hears, c0, c1, c2, c3]
            rw [e]; simp only [e]; simp; omega
          · have e : hears (a, n) (false, i) = ((a, n), (false, 0), false, 0) := by simp [hears, c0, c1, c2, c3]
            rw [e]; simp only [e]; simp; omega

theorem fact (m : Nat) : skywaykeep3_handoverFact.F m = some true := by kernel_rfl

theorem HandoverRepeats_plain (s : Int × Int) (m : Bool × Int) : skywaykeep3_HandoverRepeats.F 0 s m = some true := by
  unfold skywaykeep3_HandoverRepeats.F
  rw [fact]
  simp only [Option.bind_some, Bool.not_true, cond_false]
  by_cases c : s.1 < 0 ∨ 2 < s.1
  · have : handover_Hear.F 0 s m = some ((0, 0), (false, 0), false, 1) := by
      unfold handover_Hear.F; rw [check_eq, if_pos c]; rfl
    rw [this]; rfl
  · by_cases c' : s.2 < 0 ∨ 2000 < s.2
    · have : handover_Hear.F 0 s m = some ((0, 0), (false, 0), false, 4) := by
        unfold handover_Hear.F; rw [check_eq, if_neg c, if_pos c']; rfl
      rw [this]; rfl
    · rw [hear_eq 0 s m (by omega) (by omega) (by omega) (by omega)]
      simp only [Option.bind_some]
      by_cases he : (hears s m).2.2.2 = 0
      · obtain ⟨k1, k2, k3, k4, k5, k6, k7, k8⟩ := repeats s m (by omega) (by omega) (by omega) (by omega) he
        rw [hear_eq 0 _ m k1 k2 k3 k4]
        simp only [Option.bind_some, he, k6, k7]
        have h5 : decide ((hears s m).1.2 ≥ s.2) = true := decide_eq_true k5
        cases hb : (hears s m).2.2.1 with
        | false => simp [h5]
        | true =>
          obtain ⟨q1, q2⟩ := k8 hb
          simp [h5, q1, q2]
      · have : ((hears s m).2.2.2 != 0) = true := by simpa using he
        rw [this]
        have hb : (hears s m).2.2.1 = false := by
          revert he
          unfold hears
          (repeat' split) <;> simp
        simp [hb]

theorem HandoverRepeats_law (x : DatPs (skywaykeep3_HandoverRepeats.C 0).ats) (_ : FitPs (skywaykeep3_HandoverRepeats.C 0).ats x) : ∃ k, (skywaykeep3_HandoverRepeats.C k).F x = some true := ⟨0, HandoverRepeats_plain x.1 x.2⟩

end Go.Proofs.Ytdchminahimfhaa.RT
