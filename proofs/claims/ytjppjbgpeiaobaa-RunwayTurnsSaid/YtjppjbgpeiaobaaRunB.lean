/- What is proved here: the plain law RunwayTurns. They ask nothing. -/
import Derived.Test.YtjppjbgpeiaobaaRuT
import Derived.Test.YtjppjbgpeiaobaaPlA
import Derived.Test.YtjppjbgpeiaobaaWakT
import Derived.Test.YtjppjbgpeiaobaaRunA
namespace Go.Proofs.Ytjppjbgpeiaobaa.RT
open Go Go.R

theorem sp_last {l : List Sp} (h : l ≠ []) (d : Sp) : l.getLastD d = sp l (l.length - 1) := by
  have : l.length - 1 < l.length := by have : l.length ≠ 0 := fun e => h (List.length_eq_zero_iff.1 e); omega
  unfold sp
  rw [List.getLastD_eq_getLast?, List.getLast?_eq_getElem?, List.getD_eq_getElem?_getD, List.getElem?_eq_getElem this]
  rfl

theorem spL_snoc (x : Sp) : ∀ (l : List Sp) (f e : Int), SpL f e (l ++ [x]) ↔ SpL f e l ∧ (0 ≤ x.2 ∧ x.2 ≤ 1) ∧ (0 ≤ x.1 ∧ x.1 ≤ 200000) ∧ (l.getLastD (f, e)).1 + 360 ≤ x.1 ∧ x.2 ≠ (l.getLastD (f, e)).2
  | [], f, e => by simp [SpL]
  | s :: r, f, e => by
    have : (s :: r).getLastD (f, e) = r.getLastD (s.1, s.2) := by cases r <;> simp [List.getLastD]
    rw [this]
    simp only [List.cons_append, SpL, spL_snoc x r]
    constructor
    · rintro ⟨h1, h2, h3, h4, h5, h6⟩; exact ⟨⟨h1, h2, h3, h4, h5⟩, h6⟩
    · rintro ⟨⟨h1, h2, h3, h4, h5⟩, h6⟩; exact ⟨h1, h2, h3, h4, h5, h6⟩

theorem spL_last : ∀ (l : List Sp) (f e : Int), SpL f e l → ∀ s ∈ (f, e) :: l, s.1 ≤ (l.getLastD (f, e)).1
  | [], f, e, _ => fun s hs => by simp at hs; subst hs; simp
  | a :: r, f, e, h => fun s hs => by
    have he : (a :: r).getLastD (f, e) = r.getLastD (a.1, a.2) := by cases r <;> simp [List.getLastD]
    have ih := spL_last r a.1 a.2 h.2.2.2.2
    rw [he]
    rcases List.mem_cons.1 hs with rfl | hs
    · have := ih (a.1, a.2) (by simp)
      have := h.2.2.1
      simp only at *
      omega
    · exact ih s hs

theorem openL_early (x : Sp) (t : Int) (h : t ≤ x.1 - 180) : ∀ (r : List Sp) (e : Int), openL t (r ++ [x]) e = openL t r e
  | [], e => by
    simp only [List.nil_append, openL]
    rw [if_neg (by omega), if_neg (by omega)]
  | s :: r, e => by
    simp only [List.cons_append, openL, openL_early x t h r]

theorem openL_at (a v : Int) : ∀ (r : List Sp) (e : Int), (∀ s ∈ r, s.1 + 360 ≤ a) → openL a (r ++ [(a, v)]) e = (0, a + 180)
  | [], e, _ => by
    simp only [List.nil_append, openL]
    rw [if_pos (by omega)]
  | s :: r, e, h => by
    simp only [List.cons_append, openL]
    have := h s (by simp)
    rw [if_neg (by omega)]
    exact openL_at a v r _ fun x hx => h x (List.mem_cons_of_mem _ hx)

theorem openL_after (a v : Int) : ∀ (r : List Sp) (e : Int), (∀ s ∈ r, s.1 + 360 ≤ a) → openL (a + 180) (r ++ [(a, v)]) e = (v, -1)
  | [], e, _ => by
    simp only [List.nil_append, openL]
    rw [if_neg (by omega), if_pos (by omega)]
  | s :: r, e, h => by
    simp only [List.cons_append, openL]
    have := h s (by simp)
    rw [if_neg (by omega)]
    exact openL_after a v r _ fun x hx => h x (List.mem_cons_of_mem _ hx)

theorem direction_eq (k : Nat) (hk : 100 ≤ k) (l : List Sp) (h : SpOk l) (t : Int) (h0 : 0 ≤ t) (h1 : t ≤ 200000) : runway_Direction.F k l t = some (if 0 ≤ (opn l t).2 then (0, 14) else ((opn l t).1, 0)) := by
  unfold runway_Direction.F
  obtain ⟨e, he, hz⟩ := rspans_eq k hk l
  rw [he, hz.2 h, opened_eq k hk l h t]
  simp only [Option.bind_some]
  rw [cond_neg (c := (0 : Int) != 0) (by rfl), cond_neg (c := decide (t < 0)) (decide_eq_false (by omega))]
  simp only [Option.bind_some]
  rw [cond_neg (c := decide (t > 200000)) (decide_eq_false (by omega))]
  by_cases h2 : 0 ≤ (opn l t).2
  · rw [if_pos h2, cond_pos (decide_eq_true h2)]
  · rw [if_neg h2, cond_neg (decide_eq_false h2)]

theorem change_loop (k : Nat) (l : List Mm) (hl : l.length ≤ 24) (a : Int) (h0 : 0 ≤ a) (h1 : a ≤ 200000) : ∀ n i : Nat, i ≤ l.length → l.length - i < n →
    (runway_Change.l0 k l a n i = some (Sum.inl ()) ∧ ∀ m ∈ l.drop i, m.1 ≤ a - 180) ∨ runway_Change.l0 k l a n i = some (Sum.inr ([], 15)) := by
  intro n
  induction n with
  | zero => intro i _ h; omega
  | succ n ih =>
    intro i hi hn
    rw [runway_Change.l0_succ]
    unfold runway_Change.l0b
    by_cases hlt : i < l.length
    · have hd := drop_cons hlt ((0, (0, (false, 0))) : Mm)
      rw [mm_eq] at hd
      rw [decide_eq_true (p := (i : Int) < ((l.length : Nat) : Int)) (by omega), decide_eq_true (p := 0 ≤ (i : Int)) (by omega)]
      simp only [Bool.and_self, cond_true, getD_nat, mm_eq]
      rw [w64_id (n := a - 180) (by omega) (by omega), show w64 ((i : Int) + 1) = ((i + 1 : Nat) : Int) from w64_id (by omega) (by omega), hd]
      by_cases h2 : (mm l i).1 > a - 180
      · rw [decide_eq_true h2]
        exact .inr rfl
      · rw [decide_eq_false h2]
        rcases ih (i + 1) (by omega) (by omega) with ⟨g1, g2⟩ | g
        · refine .inl ⟨g1, fun m hm => ?_⟩
          rcases List.mem_cons.1 hm with rfl | hm
          · omega
          · exact g2 m hm
        · exact .inr g
    · rw [decide_eq_false (p := (i : Int) < ((l.length : Nat) : Int)) (by omega), List.drop_eq_nil_of_le (by omega)]
      exact .inl ⟨rfl, fun m hm => by cases hm⟩

theorem change_cases (k : Nat) (hk : 100 ≤ k) (l : List Mm) (s : List Sp) (a : Int) : (∃ e, e ≠ 0 ∧ runway_Change.F k l s a = some ([], e)) ∨
    (ChkOk l ∧ SpOk s ∧ s.length ≠ 24 ∧ 0 ≤ a ∧ a ≤ 200000 ∧ (sp s (s.length - 1)).1 + 360 ≤ a ∧ (∀ m ∈ l, m.1 ≤ a - 180) ∧ runway_Change.F k l s a = some (s ++ [(a, 1 - (sp s (s.length - 1)).2)], 0)) := by
  unfold runway_Change.F
  obtain ⟨e1, h1, g1⟩ := rcheck_eq k hk l
  obtain ⟨e2, h2, g2⟩ := rspans_eq k hk s
  rw [h1, h2]
  simp only [Option.bind_some]
  by_cases z1 : e1 ≠ 0
  · rw [cond_pos (c := e1 != 0) (by simpa using z1)]
    exact .inl ⟨e1, z1, rfl⟩
  replace z1 := Decidable.not_not.1 z1
  subst z1
  rw [cond_neg (c := (0 : Int) != 0) (by rfl)]
  by_cases z2 : e2 ≠ 0
  · rw [cond_pos (c := e2 != 0) (by simpa using z2)]
    exact .inl ⟨e2, z2, rfl⟩
  replace z2 := Decidable.not_not.1 z2
  subst z2
  have hc := g1.1 rfl
  have hs := g2.1 rfl
  have hlen := hs.len
  have hne : s.length ≠ 0 := fun e => hs.ne (List.length_eq_zero_iff.1 e)
  rw [cond_neg (c := (0 : Int) != 0) (by rfl)]
  by_cases h3 : s.length = 24
  · rw [cond_pos (beq_iff_eq.2 (by omega))]
    exact .inl ⟨9, by decide, rfl⟩
  rw [cond_neg (beq_false_of_ne (by omega)), w64_id (n := ((s.length : Nat) : Int) - 1) (by omega) (by omega), cond_pos (inIdx (by omega) (by omega)), show (((s.length : Nat) : Int) - 1).toNat = s.length - 1 by omega, sp_eq]
  have hb := spL_bnd _ _ _ hs.all (sp s (s.length - 1)) (getD_mem _ (by omega))
  rw [w64_id (n := (sp s (s.length - 1)).1 + 360) (by omega) (by omega), w64_id (n := 1 - (sp s (s.length - 1)).2) (by omega) (by omega)]
  by_cases h4 : a < 0
  · rw [decide_eq_true h4]
    exact .inl ⟨12, by decide, rfl⟩
  rw [decide_eq_false h4]
  by_cases h5 : a > 200000
  · rw [decide_eq_true h5]
    exact .inl ⟨12, by decide, rfl⟩
  rw [decide_eq_false h5]
  by_cases h6 : a < (sp s (s.length - 1)).1 + 360
  · rw [decide_eq_true h6]
    exact .inl ⟨12, by decide, rfl⟩
  rw [decide_eq_false h6]
  simp only [cond_false, Option.bind_some]
  rcases change_loop k l hc.len a (by omega) (by omega) k 0 (by omega) (by have := hc.len; omega) with ⟨k1, k2⟩ | k1
  · rw [show ((0 : Nat) : Int) = 0 from rfl] at k1
    rw [k1]
    simp only [Option.bind_some]
    rw [show slices_Clone_api_RunwaySpan.F k s = some s by unfold slices_Clone_api_RunwaySpan.F; rw [cond_pos (Nat.ble_eq_true_of_le (by omega)), List.nil_append]]
    simp only [Option.bind_some]
    rw [cond_pos (Nat.ble_eq_true_of_le (by omega))]
    exact .inr ⟨hc, hs, h3, by omega, by omega, by omega, k2, rfl⟩
  · rw [show ((0 : Nat) : Int) = 0 from rfl] at k1
    rw [k1]
    exact .inl ⟨15, by decide, rfl⟩

/-- Where what is open is alike at all movements, the plan reads alike. -/
theorem safe_congr (k : Nat) (hk : 100 ≤ k) (l : List Mm) (s s' : List Sp) (t : Tab) (hs : SpOk s) (hs' : SpOk s') (hc : ChkOk l) (h : ∀ m ∈ l, opn s m.1 = opn s' m.1) : runway_Safe.F k l s t = runway_Safe.F k l s' t := by
  have hall : runway_all.F k l s t = runway_all.F k l s' t := by
    unfold runway_all.F
    obtain ⟨e2, h2, g2⟩ := rspans_eq k hk s
    obtain ⟨e3, h3, g3⟩ := rspans_eq k hk s'
    rw [h2, h3, g2.2 hs, g3.2 hs']
  have hloop : ∀ n i : Nat, i ≤ l.length → l.length - i < n → runway_Safe.l0 k l s n i = runway_Safe.l0 k l s' n i := by
    intro n
    induction n with
    | zero => intro i _ h; omega
    | succ n ih =>
      intro i hi hn
      have hlen := hc.len
      rw [runway_Safe.l0_succ, runway_Safe.l0_succ]
      unfold runway_Safe.l0b
      by_cases hlt : i < l.length
      · rw [decide_eq_true (p := (i : Int) < ((l.length : Nat) : Int)) (by omega), decide_eq_true (p := 0 ≤ (i : Int)) (by omega)]
        simp only [Bool.and_self, cond_true, getD_nat, mm_eq]
        rw [opened_eq k hk s hs, opened_eq k hk s' hs', h _ (mm_mem hlt), show w64 ((i : Int) + 1) = ((i + 1 : Nat) : Int) from w64_id (by omega) (by omega)]
        simp only [ih (i + 1) (by omega) (by omega)]
      · rw [decide_eq_false (p := (i : Int) < ((l.length : Nat) : Int)) (by omega)]
        rfl
  unfold runway_Safe.F
  rw [hall]
  have := hloop k 0 (by omega) (by have := hc.len; omega)
  rw [show ((0 : Nat) : Int) = 0 from rfl] at this
  rw [this]

attribute [local irreducible] runway_Change.F runway_Safe.F runway_Direction.F

theorem RunwayTurns_plain (k : Nat) (hk : 100 ≤ k) (hf : skywaykeep3_runwayFact.F k = some true) (l : List Mm) (s : List Sp) (t : Tab) (a : Int) : skywaykeep3_RunwayTurns.F k l s t a = some true := by
  unfold skywaykeep3_RunwayTurns.F
  rw [hf]
  simp only [Option.bind_some, Bool.not_true, cond_false]
  rcases change_cases k hk l s a with ⟨e, he, h⟩ | ⟨hc, hs, h24, a0, a1, hla, hm, h⟩
  · rw [h]
    simp only [Option.bind_some]
    rw [cond_pos (c := e != 0) (by simpa using he)]
    rfl
  · rw [h]
    simp only [Option.bind_some]
    have hlen := hs.len
    have hne : s.length ≠ 0 := fun e => hs.ne (List.length_eq_zero_iff.1 e)
    rw [cond_neg (c := (0 : Int) != 0) (by rfl)]
    simp only [Option.bind_some]
    rw [cond_neg (c := ((s.length : Nat) : Int) == 0) (beq_false_of_ne (by omega))]
    have hlast := sp_last hs.ne (-360, -1)
    have hb := spL_bnd _ _ _ hs.all (sp s (s.length - 1)) (getD_mem _ (by omega))
    generalize hv : 1 - (sp s (s.length - 1)).2 = v at *
    have hs' : SpOk (s ++ [(a, v)]) := by
      refine ⟨by simp, by simp; omega, (spL_snoc _ _ _ _).2 ⟨hs.all, ⟨by simp only; omega, by simp only; omega⟩, ⟨a0, a1⟩, ?_, ?_⟩⟩
      · rw [hlast]; exact hla
      · rw [hlast]; simp only; omega
    obtain ⟨f, r, rfl⟩ := List.exists_cons_of_ne_nil hs.ne
    have hin : ∀ x ∈ f :: r, x.1 + 360 ≤ a := fun x hx => by
      have := spL_last _ _ _ hs.all x (List.mem_cons_of_mem _ hx)
      rw [hlast] at this
      omega
    have hf1 := hin f (by simp)
    have hr1 : ∀ x ∈ r, x.1 + 360 ≤ a := fun x hx => hin x (List.mem_cons_of_mem _ hx)
    have hop : ∀ m ∈ l, opn (f :: r) m.1 = opn (f :: r ++ [(a, v)]) m.1 := fun m hm' => by
      simp only [List.cons_append, opn]
      rw [openL_early (a, v) m.1 (hm m hm')]
    obtain ⟨q, hq, _⟩ := safe_eq k hk l (f :: r) t
    rw [← safe_congr k hk l (f :: r) (f :: r ++ [(a, v)]) t hs hs' hc hop, hq]
    have o1 : opn (f :: r ++ [(a, v)]) a = (0, a + 180) := by
      simp only [List.cons_append, opn]
      rw [if_neg (by omega), openL_at a v r _ hr1]
    have o2 : opn (f :: r ++ [(a, v)]) (a + 180) = (v, -1) := by
      simp only [List.cons_append, opn]
      rw [if_neg (by omega), openL_after a v r _ hr1]
    rw [direction_eq k hk _ hs' a a0 a1, o1, if_pos (by simp only; omega), w64_id (n := a + 180) (by omega) (by omega)]
    simp only [Option.bind_some, bne_self_eq_false, cond_false]
    by_cases h5 : a + 180 > 200000
    · rw [cond_pos (decide_eq_true h5)]
      rfl
    · rw [cond_neg (decide_eq_false h5), direction_eq k hk _ hs' (a + 180) (by omega) (by omega), o2, if_neg (by simp)]
      simp only [Option.bind_some, beq_self_eq_true, cond_true]
      rw [w64_id (n := (((f :: r).length : Nat) : Int) - 1) (by omega) (by omega), cond_pos (inIdx (by omega) (by omega)), show ((((f :: r).length : Nat) : Int) - 1).toNat = (f :: r).length - 1 by omega, sp_eq, w64_id (n := 1 - (sp (f :: r) ((f :: r).length - 1)).2) (by omega) (by omega), hv, beq_self_eq_true]
      rfl

end Go.Proofs.Ytjppjbgpeiaobaa.RT
