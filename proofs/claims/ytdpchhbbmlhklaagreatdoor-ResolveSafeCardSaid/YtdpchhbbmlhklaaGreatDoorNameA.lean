/- What is proved here: whether a text is a name is always told. It asks nothing. -/
import Derived.Test.YtdpchhbbmlhklaaGreatDoorRsT
import Derived.Test.YtdpchhbbmlhklaaGreatDoorPlA
namespace Go.Proofs.YtdpchhbbmlhklaaGreatDoor.RT
open Go Go.R

theorem name_loop (k : Nat) (s : ByteArray) (hs : s.size ≤ 8) : ∀ n i : Nat, i ≤ s.size → s.size - i < n → ∃ b, chart_Name.l0 k s n i = some b := by
  intro n
  induction n with
  | zero => intro i _ h; omega
  | succ n ih =>
    intro i hi hm
    rw [chart_Name.l0_succ]
    unfold chart_Name.l0b
    by_cases hlt : i < s.size
    · rw [decide_eq_true (p := (i : Int) < (s.size : Int)) (by omega), decide_eq_true (p := 0 ≤ (i : Int)) (by omega), w64_id (n := (i : Int) + 1) (by omega) (by omega)]
      simp only [Bool.and_self, cond_true]
      have h := ih (i + 1) (by omega) (by omega)
      have e : ((i + 1 : Nat) : Int) = (i : Int) + 1 := by omega
      rw [e] at h
      cases decide (bt s i < 65) <;> cases decide (bt s i > 90) <;> cases decide (bt s i < 48) <;> cases decide (bt s i > 57) <;> first | exact h | exact ⟨false, rfl⟩
    · rw [decide_eq_false (p := (i : Int) < (s.size : Int)) (by omega)]
      exact ⟨true, rfl⟩

theorem cname_total (k : Nat) (hk : 10 ≤ k) (s : ByteArray) : ∃ b, chart_Name.F k s = some b := by
  unfold chart_Name.F
  by_cases h0 : s.size = 0
  · rw [cond_pos (c := (s.size : Int) == 0) (by simp [h0])]
    exact ⟨false, rfl⟩
  rw [cond_neg (c := (s.size : Int) == 0) (by simpa using h0)]
  by_cases h8 : 8 < s.size
  · rw [decide_eq_true (p := (s.size : Int) > 8) (by omega)]
    exact ⟨false, rfl⟩
  rw [decide_eq_false (p := (s.size : Int) > 8) (by omega), decide_eq_true (p := (0 : Int) < (s.size : Int)) (by omega)]
  obtain ⟨b, hb⟩ := name_loop k s (by omega) k 0 (by omega) (by omega)
  rw [show ((0 : Nat) : Int) = 0 from rfl] at hb
  cases decide (bt s 0 < 65) <;> cases decide (bt s 0 > 90) <;> first | exact ⟨b, hb⟩ | exact ⟨false, rfl⟩

end Go.Proofs.YtdpchhbbmlhklaaGreatDoor.RT
