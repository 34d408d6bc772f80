/- What is proved here: the plain law LinkForgets. It asks nothing. -/
import Derived.Test.YtdchminahimfhaaLpT
import Derived.Test.YtdchminahimfhaaPlA
namespace Go.Proofs.Ytdchminahimfhaa.RT
open Go Go.R

/-- A state of the link that is in order. -/
structure LkOk (s : Int × List ByteArray) : Prop where
  few : s.2.length ≤ 32
  lo : 1 ≤ s.1
  hi : s.1 ≤ 100000 - s.2.length
  small : ∀ j, j < s.2.length → (s.2.getD j ByteArray.empty).size ≤ 120

theorem link_loop (k : Nat) (s : Int × List ByteArray) (hl : s.2.length ≤ 32) : ∀ n i, i ≤ s.2.length → s.2.length - i < n →
    (link_Check.l0 k s n i = some 0 ∧ ∀ j, i ≤ j → j < s.2.length → (s.2.getD j ByteArray.empty).size ≤ 120) ∨ (link_Check.l0 k s n i = some 2 ∧ ∃ j, j < s.2.length ∧ 120 < (s.2.getD j ByteArray.empty).size) := by
  intro n
  induction n with
  | zero => intro i _ h; omega
  | succ n ih =>
    intro i hi hm
    rw [link_Check.l0_succ]
    unfold link_Check.l0b
    by_cases hlt : i < s.2.length
    · have e1 : (decide (0 ≤ (i : Int)) && decide ((i : Int) < ((s.2.length : Nat) : Int))) = true := inIdx (by omega) (by omega)
      rw [decide_eq_true (p := (i : Int) < ((s.2.length : Nat) : Int)) (by omega)]
      simp only [cond_true, getD_nat]
      by_cases c1 : 120 < (s.2.getD i ByteArray.empty).size
      · rw [decide_eq_true (p := _ > (120 : Int)) (by omega)]
        exact .inr ⟨rfl, i, hlt, c1⟩
      · rw [decide_eq_false (p := _ > (120 : Int)) (by omega), w64_id (n := (i : Int) + 1) (by omega) (by omega)]
        rcases ih (i + 1) (by omega) (by omega) with ⟨h1, h2⟩ | ⟨h1, h2⟩
        · refine .inl ⟨h1, fun j hj hj' => ?_⟩
          rcases Nat.lt_or_ge i j with g | g
          · exact h2 j (by omega) hj'
          · have : j = i := by omega
            subst this; omega
        · exact .inr ⟨h1, h2⟩
    · rw [decide_eq_false (p := (i : Int) < ((s.2.length : Nat) : Int)) (by omega)]
      exact .inl ⟨rfl, fun j hj hj' => by omega⟩

theorem lcheck_cases (k : Nat) (hk : 33 ≤ k) (s : Int × List ByteArray) : (link_Check.F k s = some 0 ∧ LkOk s) ∨ ((∃ e, e ≠ 0 ∧ link_Check.F k s = some e) ∧ ¬ LkOk s) := by
  unfold link_Check.F
  by_cases h1 : 32 < s.2.length
  · rw [decide_eq_true (p := ((s.2.length : Nat) : Int) > 32) (by omega)]
    exact .inr ⟨⟨2, by omega, rfl⟩, fun h => by have := h.few; omega⟩
  rw [decide_eq_false (p := ((s.2.length : Nat) : Int) > 32) (by omega), w64_id (n := 100000 - ((s.2.length : Nat) : Int)) (by omega) (by omega)]
  by_cases h2 : s.1 < 1
  · rw [decide_eq_true h2]
    exact .inr ⟨⟨4, by omega, rfl⟩, fun h => by have := h.lo; omega⟩
  rw [decide_eq_false h2]
  by_cases h3 : s.1 > 100000 - ((s.2.length : Nat) : Int)
  · rw [decide_eq_true h3]
    exact .inr ⟨⟨4, by omega, rfl⟩, fun h => by have := h.hi; omega⟩
  rw [decide_eq_false h3]
  simp only [cond_false, Option.bind_some]
  rcases link_loop k s (by omega) k 0 (by omega) (by omega) with ⟨g1, g2⟩ | ⟨g1, j, g2, g3⟩
  · exact .inl ⟨g1, by omega, by omega, by omega, fun j hj => g2 j (by omega) hj⟩
  · exact .inr ⟨⟨2, by omega, g1⟩, fun h => by have := h.small j g2; omega⟩

theorem equal_loop (k : Nat) (l : List ByteArray) (hl : l.length ≤ 32) : ∀ n i, i ≤ l.length → l.length - i < n → slices_Equal_string.l0 k l l n i = some true := by
  intro n
  induction n with
  | zero => intro i _ h; omega
  | succ n ih =>
    intro i hi hm
    rw [slices_Equal_string.l0_succ]
    unfold slices_Equal_string.l0b
    by_cases hlt : i < l.length
    · have e1 : (decide (0 ≤ (i : Int)) && decide ((i : Int) < ((l.length : Nat) : Int))) = true := inIdx (by omega) (by omega)
      rw [decide_eq_true (p := (i : Int) < ((l.length : Nat) : Int)) (by omega)]
      simp only [cond_true, beq_self_eq_true, Bool.not_true, cond_false]
      rw [w64_id (n := (i : Int) + 1) (by omega) (by omega)]
      exact ih (i + 1) (by omega) (by omega)
    · rw [decide_eq_false (p := (i : Int) < ((l.length : Nat) : Int)) (by omega)]
      rfl

theorem equal_refl (k : Nat) (hk : 33 ≤ k) (l : List ByteArray) (hl : l.length ≤ 32) : slices_Equal_string.F k l l = some true := by
  unfold slices_Equal_string.F
  have : (((l.length : Nat) : Int) != ((l.length : Nat) : Int)) = false := by simp
  rw [this]
  exact equal_loop k l hl k 0 (by omega) (by omega)

theorem clone_str (k : Nat) (l : List ByteArray) (h : l.length ≤ 32) : slices_Clone_string.F k l = some l := by
  unfold slices_Clone_string.F
  rw [cond_pos (Nat.ble_eq_true_of_le (by omega)), List.nil_append]

theorem lfact (m : Nat) : skywaykeep3_linkFact.F (m + 40) = some true := by kernel_rfl

attribute [local irreducible] link_Check.F slices_Clone_string.F slices_Equal_string.F

/-- What is heard of an acknowledgement. -/
theorem heard_eq (k : Nat) (hk : 33 ≤ k) (s : Int × List ByteArray) (h : LkOk s) (a : Int) (h1 : 1 ≤ a) (h2 : a ≤ s.1 + s.2.length) : link_Heard.F k s a = some ((s.1 + mx (a - s.1) 0, s.2.drop (mx (a - s.1) 0).toNat), 0) := by
  unfold link_Heard.F
  rcases lcheck_cases k hk s with ⟨g, _⟩ | ⟨_, g⟩
  · rw [g]
    have h3 := h.few
    have h4 := h.lo
    have h5 := h.hi
    have m0 : 0 ≤ mx (a - s.1) 0 ∧ mx (a - s.1) 0 ≤ s.2.length := by unfold mx; split <;> omega
    simp only [Option.bind_some]
    rw [cond_neg (c := (0 : Int) != 0) (by rfl), w64_id (n := s.1 + _) (by omega) (by omega), w64_id (n := a - s.1) (by omega) (by omega), decide_eq_false (p := a < 1) (by omega), decide_eq_false (p := a > _) (by omega), decide_eq_true m0.1, decide_eq_true m0.2, w64_id (n := s.1 + mx (a - s.1) 0) (by omega) (by omega), clone_str _ _ (by rw [List.length_drop]; omega)]
    rfl
  · exact absurd h g

attribute [local irreducible] link_Heard.F skywaykeep3_linkFact.F

theorem LinkForgets_plain (s : Int × List ByteArray) (a : Int) : skywaykeep3_LinkForgets.F (20 + 40) s a = some true := by
  unfold skywaykeep3_LinkForgets.F
  rw [lfact]
  simp only [Option.bind_some, Bool.not_true, cond_false]
  rcases lcheck_cases (20 + 40) (by omega) s with ⟨_, h⟩ | ⟨⟨e, he, g⟩, _⟩
  · by_cases hb : a < 1 ∨ s.1 + s.2.length < a
    · have h3 := h.few
      have h4 := h.lo
      have h5 := h.hi
      have : link_Heard.F (20 + 40) s a = some ((0, []), 4) := by
        unfold link_Heard.F
        rcases lcheck_cases (20 + 40) (by omega) s with ⟨g, _⟩ | ⟨_, g⟩
        · rw [g]
          simp only [Option.bind_some]
          rw [cond_neg (c := (0 : Int) != 0) (by rfl), w64_id (n := s.1 + _) (by omega) (by omega)]
          by_cases h1 : a < 1
          · rw [decide_eq_true h1]; rfl
          · rw [decide_eq_false h1, decide_eq_true (p := a > _) (by omega)]; rfl
        · exact absurd h g
      rw [this]; rfl
    · rw [heard_eq _ (by omega) s h a (by omega) (by omega)]
      have h3 := h.few
      have h4 := h.lo
      have h5 := h.hi
      have m0 : 0 ≤ mx (a - s.1) 0 ∧ mx (a - s.1) 0 ≤ s.2.length := by unfold mx; split <;> omega
      have ok2 : LkOk (s.1 + mx (a - s.1) 0, s.2.drop (mx (a - s.1) 0).toNat) := by
        refine ⟨?_, ?_, ?_, fun j hj => ?_⟩
        · simp only [List.length_drop]; omega
        · simp only; omega
        · simp only [List.length_drop]; omega
        · simp only [List.length_drop] at hj
          have := h.small ((mx (a - s.1) 0).toNat + j) (by omega)
          rw [List.getD_eq_getElem?_getD] at this ⊢
          rwa [List.getElem?_drop]
      simp only [Option.bind_some]
      rw [cond_neg (c := (0 : Int) != 0) (by rfl), heard_eq _ (by omega) _ ok2 a (by omega) (by simp only [List.length_drop]; omega)]
      have z : mx (a - (s.1 + mx (a - s.1) 0)) 0 = 0 := by unfold mx; (repeat' split) <;> omega
      simp only [Option.bind_some, z, Int.toNat_zero, List.drop_zero, Int.add_zero]
      rw [equal_refl _ (by omega) _ (by simp only [List.length_drop]; omega)]
      have w : (w64 (s.1 + mx (a - s.1) 0 + (((s.2.drop (mx (a - s.1) 0).toNat).length : Nat) : Int)) == w64 (s.1 + ((s.2.length : Nat) : Int))) = true := by
        rw [beq_iff_eq]
        congr 1
        simp only [List.length_drop]; omega
      rw [w]
      simp
  · have : link_Heard.F (20 + 40) s a = some ((0, []), e) := by
      unfold link_Heard.F
      rw [g]
      simp only [Option.bind_some]
      rw [cond_pos (by simpa using he)]
    rw [this]
    simp only [Option.bind_some]
    rw [cond_pos (by simpa using he)]
    rfl

attribute [local irreducible] skywaykeep3_LinkForgets.F
theorem forgets_cal (k : Nat) (x : DatPs (skywaykeep3_LinkForgets.C 0).ats) : (skywaykeep3_LinkForgets.C k).F x = skywaykeep3_LinkForgets.F k x.1 x.2 := rfl
theorem LinkForgets_law (x : DatPs (skywaykeep3_LinkForgets.C 0).ats) (_ : FitPs (skywaykeep3_LinkForgets.C 0).ats x) : ∃ k, (skywaykeep3_LinkForgets.C k).F x = some true :=
  ⟨_, (forgets_cal _ x).trans (LinkForgets_plain x.1 x.2)⟩

end Go.Proofs.Ytdchminahimfhaa.RT
