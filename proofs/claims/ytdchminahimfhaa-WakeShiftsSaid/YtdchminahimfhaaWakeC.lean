/- What is proved here: the plain law WakeShifts. It asks nothing but the input's own bounds. -/
import Derived.Test.YtdchminahimfhaaWakeA
namespace Go.Proofs.Ytdchminahimfhaa.RT
open Go Go.R

/-- One list is the other, later by d. -/
structure Sh (d : Int) (s s' : List Int) : Prop where
  len : s'.length = s.length
  at_ : ∀ i, i < s.length → s'.getD i 0 = s.getD i 0 + d
  lo : ∀ i, i < s.length → 0 ≤ s.getD i 0 ∧ s.getD i 0 ≤ 200000 - d
  d0 : 0 ≤ d

theorem valid_l0 (k : Nat) (d : Int) (c s s' : List Int) (h : Sh d s s') (hl : c.length = s.length) (hb : c.length ≤ 256) : ∀ n i, i ≤ c.length → c.length - i < n →
    ∃ y, wake_Valid.l0 k c s n i = some y ∧ wake_Valid.l0 k c s' n i = some y ∧ (y = .inl () → ∀ j, i ≤ j → j < c.length → cls (c.getD j 0)) := by
  intro n
  induction n with
  | zero => intro i _ h; omega
  | succ n ih =>
    intro i hi hm
    rw [wake_Valid.l0_succ, wake_Valid.l0_succ]
    unfold wake_Valid.l0b
    have hlen := h.len
    by_cases hlt : i < c.length
    · have e1 : (decide (0 ≤ (i : Int)) && decide ((i : Int) < ((s.length : Nat) : Int))) = true := inIdx (by omega) (by omega)
      have e2 : (decide (0 ≤ (i : Int)) && decide ((i : Int) < ((s'.length : Nat) : Int))) = true := inIdx (by omega) (by omega)
      have e3 : (decide (0 ≤ (i : Int)) && decide ((i : Int) < ((c.length : Nat) : Int))) = true := inIdx (by omega) (by omega)
      obtain ⟨a1, a2⟩ := h.lo i (by omega)
      have a3 := h.at_ i (by omega)
      have d0 := h.d0
      rw [decide_eq_true (p := (i : Int) < ((c.length : Nat) : Int)) (by omega)]
      simp only [e1, e2, cond_true, getD_nat]
      by_cases hc : cls (c.getD i 0)
      · rw [class_pos hc]
        simp only [Option.bind_some]
        rw [a3, decide_eq_false (p := s.getD i 0 < 0) (by omega), decide_eq_false (p := s.getD i 0 > 200000) (by omega), decide_eq_false (p := s.getD i 0 + d < 0) (by omega), decide_eq_false (p := s.getD i 0 + d > 200000) (by omega), w64_id (n := (i : Int) + 1) (by omega) (by omega)]
        obtain ⟨y, y1, y2, y3⟩ := ih (i + 1) (by omega) (by omega)
        refine ⟨y, y1, y2, fun hy j hj hj' => ?_⟩
        rcases Nat.lt_or_ge i j with g | g
        · exact y3 hy j (by omega) hj'
        · have : j = i := by omega
          subst this; exact hc
      · rw [class_neg hc]
        exact ⟨.inr (false, 1), rfl, rfl, fun h => by cases h⟩
    · rw [decide_eq_false (p := (i : Int) < ((c.length : Nat) : Int)) (by omega)]
      exact ⟨.inl (), rfl, rfl, fun _ j hj hj' => by omega⟩

theorem valid_l1 (k : Nat) (t : Tab) (d : Int) (c s s' : List Int) (h : Sh d s s') (hl : c.length = s.length) (hb : c.length ≤ 256) (hc : ∀ j, j < c.length → cls (c.getD j 0)) : ∀ n i : Nat, 1 ≤ i → c.length - i < n →
    ∃ y, wake_Valid.l1 k t c s n i = some y ∧ wake_Valid.l1 k t c s' n i = some y := by
  intro n
  induction n with
  | zero => intro i _ h; omega
  | succ n ih =>
    intro i hi hm
    rw [wake_Valid.l1_succ, wake_Valid.l1_succ]
    unfold wake_Valid.l1b
    have hlen := h.len
    by_cases hlt : i < s.length
    · have e1 : (decide (0 ≤ (i : Int)) && decide ((i : Int) < ((s.length : Nat) : Int))) = true := inIdx (by omega) (by omega)
      have e2 : (decide (0 ≤ (i : Int)) && decide ((i : Int) < ((s'.length : Nat) : Int))) = true := inIdx (by omega) (by omega)
      have e3 : (decide (0 ≤ (i : Int)) && decide ((i : Int) < ((c.length : Nat) : Int))) = true := inIdx (by omega) (by omega)
      have f1 : (decide (0 ≤ (i : Int) - 1) && decide ((i : Int) - 1 < ((s.length : Nat) : Int))) = true := inIdx (by omega) (by omega)
      have f2 : (decide (0 ≤ (i : Int) - 1) && decide ((i : Int) - 1 < ((s'.length : Nat) : Int))) = true := inIdx (by omega) (by omega)
      have f3 : (decide (0 ≤ (i : Int) - 1) && decide ((i : Int) - 1 < ((c.length : Nat) : Int))) = true := inIdx (by omega) (by omega)
      have q : ((i : Int) - 1).toNat = i - 1 := by omega
      have c1 := hc i (by omega)
      have c0 := hc (i - 1) (by omega)
      have g0 : (decide (0 ≤ c.getD (i - 1) 0) && decide (c.getD (i - 1) 0 < ((4 : Nat) : Int))) = true := inIdx c0.1 (by have := c0.2; omega)
      have g1 : (decide (0 ≤ c.getD i 0) && decide (c.getD i 0 < ((4 : Nat) : Int))) = true := inIdx c1.1 (by have := c1.2; omega)
      rw [decide_eq_true (p := (i : Int) < ((s.length : Nat) : Int)) (by omega), decide_eq_true (p := (i : Int) < ((s'.length : Nat) : Int)) (by omega), w64_id (n := (i : Int) - 1) (by omega) (by omega), w64_id (n := (i : Int) + 1) (by omega) (by omega)]
      simp only [e3, f1, f2, f3, cond_true, getD_nat, q, g0, g1, tab_in c0 c1]
      rw [h.at_ i hlt, h.at_ (i - 1) (by omega), show s.getD i 0 + d - (s.getD (i - 1) 0 + d) = s.getD i 0 - s.getD (i - 1) 0 by omega]
      obtain ⟨y, y1, y2⟩ := ih (i + 1) (by omega) (by omega)
      cases decide (w64 (s.getD i 0 - s.getD (i - 1) 0) < _) with
      | true => exact ⟨_, rfl, rfl⟩
      | false => exact ⟨y, y1, y2⟩
    · rw [decide_eq_false (p := (i : Int) < ((s.length : Nat) : Int)) (by omega), decide_eq_false (p := (i : Int) < ((s'.length : Nat) : Int)) (by omega)]
      exact ⟨_, rfl, rfl⟩

attribute [local irreducible] wake_Check.F wake_Class.F wake_Valid.l0 wake_Valid.l1

theorem valid_same (m : Nat) (t : Tab) (d : Int) (c s s' : List Int) (h : Sh d s s') (hm : c.length < m + 5) : ∃ y, wake_Valid.F (m + 5) t c s = some y ∧ wake_Valid.F (m + 5) t c s' = some y := by
  unfold wake_Valid.F
  rcases wcheck_cases m t with ⟨hk, _⟩ | ⟨e, he, hk⟩
  · rw [hk, h.len]
    simp only [Option.bind_some]
    rw [cond_neg (c := (0 : Int) != 0) (by rfl), cond_neg (c := (0 : Int) != 0) (by rfl)]
    by_cases h1 : 256 < c.length
    · rw [decide_eq_true (p := ((c.length : Nat) : Int) > 256) (by omega)]; exact ⟨_, rfl, rfl⟩
    rw [decide_eq_false (p := ((c.length : Nat) : Int) > 256) (by omega)]
    by_cases h2 : 256 < s.length
    · rw [decide_eq_true (p := ((s.length : Nat) : Int) > 256) (by omega)]; exact ⟨_, rfl, rfl⟩
    rw [decide_eq_false (p := ((s.length : Nat) : Int) > 256) (by omega)]
    simp only [Option.bind_some, cond_false]
    by_cases h3 : c.length = s.length
    · have : (((c.length : Nat) : Int) != ((s.length : Nat) : Int)) = false := by simp [h3]
      simp only [this, cond_false]
      obtain ⟨y, y1, y2, y3⟩ := valid_l0 (m + 5) d c s s' h h3 (by omega) (m + 5) 0 (by omega) (by omega)
      rw [show ((0 : Nat) : Int) = 0 from rfl] at y1 y2
      rw [y1, y2]
      cases y with
      | inr y => exact ⟨_, rfl, rfl⟩
      | inl y =>
        obtain ⟨z, z1, z2⟩ := valid_l1 (m + 5) t d c s s' h h3 (by omega) (fun j hj => y3 rfl j (by omega) hj) (m + 5) 1 (by omega) (by omega)
        exact ⟨z, z1, z2⟩
    · have : (((c.length : Nat) : Int) != ((s.length : Nat) : Int)) = true := by simp; omega
      simp only [this, cond_true]
      exact ⟨_, rfl, rfl⟩
  · rw [hk]
    simp only [Option.bind_some]
    rw [cond_pos (c := e != 0) (by simpa using he)]
    exact ⟨_, rfl, cond_pos (by simpa using he)⟩

theorem pick_eq (k : Nat) (n : Int) : ∃ d, skywaykeep3_pick.F k n 1000 = some d ∧ 0 ≤ d ∧ d ≤ 999 := by
  unfold skywaykeep3_pick.F
  have h1 : IntKind.u64.wrap 1000 = 1000 := by rw [IntKind.wrap_u64]; omega
  rw [h1, cond_pos (by rfl)]
  have h2 : IntKind.u64.wrap n = n % 18446744073709551616 := by rw [IntKind.wrap_u64]
  have h3 : 0 ≤ IntKind.u64.wrap n := by omega
  have h4 : Int.tmod (IntKind.u64.wrap n) 1000 = IntKind.u64.wrap n % 1000 := Int.tmod_eq_emod_of_nonneg h3
  rw [h4, w64_id (by omega) (by omega)]
  exact ⟨_, rfl, by omega, by omega⟩

theorem shift_loop (k : Nat) (d : Int) (d0 : 0 ≤ d) (d1 : d ≤ 999) (s : List Int) (hs : s.length * 8 ≤ 140737488351232) : ∀ (n i : Nat) (l : List Int), i ≤ s.length → s.length - i < n → l.length = s.length →
    (∀ j, j < i → l.getD j 0 = s.getD j 0 + d ∧ 0 ≤ s.getD j 0 ∧ s.getD j 0 ≤ 200000 - d) → (∀ j, i ≤ j → l.getD j 0 = s.getD j 0) →
    (∃ l', skywaykeep3_WakeShifts.l0 k d s n (i, l) = some (.inl l') ∧ Sh d s l') ∨ skywaykeep3_WakeShifts.l0 k d s n (i, l) = some (.inr true) := by
  intro n
  induction n with
  | zero => intro i l _ h; omega
  | succ n ih =>
    intro i l hi hm hl ha hb
    rw [skywaykeep3_WakeShifts.l0_succ]
    unfold skywaykeep3_WakeShifts.l0b
    dsimp only
    by_cases hlt : i < s.length
    · have e1 : (decide (0 ≤ (i : Int)) && decide ((i : Int) < ((l.length : Nat) : Int))) = true := inIdx (by omega) (by omega)
      rw [decide_eq_true (p := (i : Int) < ((s.length : Nat) : Int)) (by omega)]
      have hbi := hb i (Nat.le_refl i)
      simp only [e1, cond_true, getD_nat, hbi, w64_id (n := 200000 - d) (by omega) (by omega)]
      by_cases c1 : s.getD i 0 < 0
      · rw [decide_eq_true c1]; exact .inr rfl
      by_cases c2 : s.getD i 0 > 200000 - d
      · rw [decide_eq_false c1, decide_eq_true c2]; exact .inr rfl
      rw [decide_eq_false c1, decide_eq_false c2]
      simp only [cond_false, Option.bind_some]
      rw [w64_id (n := (i : Int) + 1) (by omega) (by omega), w64_id (n := s.getD i 0 + d) (by omega) (by omega)]
      have gs : ∀ j, (l.set i (s.getD i 0 + d)).getD j 0 = if i = j then s.getD i 0 + d else l.getD j 0 := fun j => by
        rw [List.getD_eq_getElem?_getD, List.getElem?_set, List.getD_eq_getElem?_getD (l := l)]
        by_cases hij : i = j
        · subst hij; rw [if_pos rfl, if_pos rfl, if_pos (by omega)]; rfl
        · rw [if_neg hij, if_neg hij]
      exact ih (i + 1) (l.set i (s.getD i 0 + d)) (by omega) (by omega) (by rw [List.length_set]; exact hl)
        (fun j hj => by
          rw [gs]
          by_cases hij : i = j
          · subst hij; rw [if_pos rfl]; exact ⟨rfl, by omega, by omega⟩
          · rw [if_neg hij]; exact ha j (by omega))
        (fun j hj => by rw [gs, if_neg (by omega)]; exact hb j (by omega))
    · rw [decide_eq_false (p := (i : Int) < ((s.length : Nat) : Int)) (by omega)]
      exact .inl ⟨l, rfl, hl, fun j hj => (ha j (by omega)).1, fun j hj => (ha j (by omega)).2, d0⟩

attribute [local irreducible] skywaykeep3_wakeFact.F skywaykeep3_pick.F slices_Clone_int.F wake_Valid.F skywaykeep3_WakeShifts.l0

theorem WakeShifts_plain (t : Tab) (c s : List Int) (n : Int) (hs : s.length * 8 ≤ 140737488351232) : skywaykeep3_WakeShifts.F (c.length + s.length + 1 + 20) t c s n = some true := by
  unfold skywaykeep3_WakeShifts.F
  obtain ⟨d, hd, d0, d1⟩ := pick_eq (c.length + s.length + 1 + 20) n
  rw [wfact, hd, clone_int _ s hs]
  simp only [Option.bind_some, Bool.not_true, cond_false]
  rcases shift_loop (c.length + s.length + 1 + 20) d d0 d1 s hs (c.length + s.length + 1 + 20) 0 s (by omega) (by omega) rfl (fun j hj => by omega) (fun j _ => rfl) with ⟨l', h1, h2⟩ | h1
  · rw [show ((0 : Nat) : Int) = 0 from rfl] at h1
    rw [h1]
    simp only [Option.bind_some]
    obtain ⟨y, y1, y2⟩ := valid_same (c.length + s.length + 1 + 15) t d c s l' h2 (by omega)
    have z1 : wake_Valid.F (c.length + s.length + 1 + 20) t c s = some y := y1
    have z2 : wake_Valid.F (c.length + s.length + 1 + 20) t c l' = some y := y2
    rw [z1, z2]
    simp
  · rw [show ((0 : Nat) : Int) = 0 from rfl] at h1
    rw [h1]
    rfl

attribute [local irreducible] skywaykeep3_WakeShifts.F
theorem shifts_cal (k : Nat) (x : DatPs (skywaykeep3_WakeShifts.C 0).ats) : (skywaykeep3_WakeShifts.C k).F x = skywaykeep3_WakeShifts.F k x.1 x.2.1 x.2.2.1 x.2.2.2 := rfl
theorem WakeShifts_law (x : DatPs (skywaykeep3_WakeShifts.C 0).ats) (h : FitPs (skywaykeep3_WakeShifts.C 0).ats x) : ∃ k, (skywaykeep3_WakeShifts.C k).F x = some true :=
  ⟨_, (shifts_cal _ x).trans (WakeShifts_plain x.1 x.2.1 x.2.2.1 x.2.2.2 h.2.2.1.1)⟩

end Go.Proofs.Ytdchminahimfhaa.RT
