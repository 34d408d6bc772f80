/- What is proved here: what checks, demands and excesses of capacities come to. They ask nothing. -/
import Derived.Test.YtdfopdlmdminbaaSlT
import Derived.Test.YtdfopdlmdminbaaPlA
namespace Go.Proofs.Ytdfopdlmdminbaa.RT
open Go Go.R

/-- Capacities: windows of time with a number each. -/
abbrev Cps := List ((Int × Int) × Int)
/-- The entry at place j. -/
def ent (c : Cps) (j : Nat) : (Int × Int) × Int := c.getD j ((0, 0), 0)
/-- The entry at place j is in order. -/
def EnOk (c : Cps) (j : Nat) : Prop := 0 ≤ (ent c j).1.1 ∧ (ent c j).1.2 ≤ 200000 ∧ (ent c j).1.1 < (ent c j).1.2 ∧ 0 ≤ (ent c j).2 ∧ (ent c j).2 ≤ 24 ∧ (0 < j → (ent c (j - 1)).1.2 ≤ (ent c j).1.1)
/-- All are in order. -/
def CpOk (c : Cps) : Prop := c.length ≤ 256 ∧ ∀ j, j < c.length → EnOk c j

theorem ent_eq (c : Cps) (j : Nat) : c.getD j ((0, 0), 0) = ent c j := rfl

theorem flow_loop (k : Nat) (c : Cps) (hl : c.length ≤ 256) : ∀ n i, i ≤ c.length → c.length - i < n →
    (flow_Check.l0 k c n i = some 0 ∧ ∀ j, i ≤ j → j < c.length → EnOk c j) ∨ ((∃ e, e ≠ 0 ∧ flow_Check.l0 k c n i = some e) ∧ ∃ j, j < c.length ∧ ¬ EnOk c j) := by
  intro n
  induction n with
  | zero => intro i _ h; omega
  | succ n ih =>
    intro i hi hm
    rw [flow_Check.l0_succ]
    unfold flow_Check.l0b
    by_cases hlt : i < c.length
    · have e0 : decide ((i : Int) < ((c.length : Nat) : Int)) = true := decide_eq_true (by omega)
      have e1 : decide (0 ≤ (i : Int)) = true := decide_eq_true (by omega)
      simp only [e0, e1, Bool.and_self, cond_true, getD_nat, ent_eq]
      by_cases c1 : (ent c i).1.1 < 0
      · rw [decide_eq_true c1]; exact .inr ⟨⟨4, by omega, rfl⟩, i, hlt, fun h => by have := h.1; omega⟩
      by_cases c2 : (ent c i).1.2 > 200000
      · rw [decide_eq_false c1, decide_eq_true c2]; exact .inr ⟨⟨4, by omega, rfl⟩, i, hlt, fun h => by have := h.2.1; omega⟩
      by_cases c3 : (ent c i).1.1 ≥ (ent c i).1.2
      · rw [decide_eq_false c1, decide_eq_false c2, decide_eq_true c3]; exact .inr ⟨⟨4, by omega, rfl⟩, i, hlt, fun h => by have := h.2.2.1; omega⟩
      by_cases c4 : (ent c i).2 < 0
      · rw [decide_eq_false c1, decide_eq_false c2, decide_eq_false c3, decide_eq_true c4]; exact .inr ⟨⟨4, by omega, rfl⟩, i, hlt, fun h => by have := h.2.2.2.1; omega⟩
      by_cases c5 : (ent c i).2 > 24
      · rw [decide_eq_false c1, decide_eq_false c2, decide_eq_false c3, decide_eq_false c4, decide_eq_true c5]; exact .inr ⟨⟨4, by omega, rfl⟩, i, hlt, fun h => by have := h.2.2.2.2.1; omega⟩
      rw [decide_eq_false c1, decide_eq_false c2, decide_eq_false c3, decide_eq_false c4, decide_eq_false c5]
      have step : (0 < i → (ent c (i - 1)).1.2 ≤ (ent c i).1.1) → (flow_Check.l0 k c n (w64 ((i : Int) + 1)) = some 0 ∧ ∀ j, i ≤ j → j < c.length → EnOk c j) ∨ ((∃ e, e ≠ 0 ∧ flow_Check.l0 k c n (w64 ((i : Int) + 1)) = some e) ∧ ∃ j, j < c.length ∧ ¬ EnOk c j) := fun hp => by
        rw [w64_id (n := (i : Int) + 1) (by omega) (by omega)]
        rcases ih (i + 1) (by omega) (by omega) with ⟨h1, h2⟩ | h1
        · refine .inl ⟨h1, fun j hj hj' => ?_⟩
          rcases Nat.lt_or_ge i j with g | g
          · exact h2 j (by omega) hj'
          · have : j = i := by omega
            subst this
            exact ⟨by omega, by omega, by omega, by omega, by omega, hp⟩
        · exact .inr h1
      by_cases hz : 0 < i
      · have g0 : decide ((i : Int) > 0) = true := decide_eq_true (by omega)
        have g1 : decide (0 ≤ (i : Int) - 1) = true := decide_eq_true (by omega)
        have g2 : decide ((i : Int) - 1 < ((c.length : Nat) : Int)) = true := decide_eq_true (by omega)
        have q : ((i : Int) - 1).toNat = i - 1 := by omega
        rw [w64_id (n := (i : Int) - 1) (by omega) (by omega), g0, g1, g2, q]
        simp only [cond_true, cond_false, Option.bind_some, Bool.and_self]
        by_cases c6 : (ent c i).1.1 < (ent c (i - 1)).1.2
        · rw [decide_eq_true c6]; exact .inr ⟨⟨12, by omega, rfl⟩, i, hlt, fun h => by have := h.2.2.2.2.2 hz; omega⟩
        · rw [decide_eq_false c6]; exact step (fun _ => by omega)
      · rw [decide_eq_false (p := (i : Int) > 0) (by omega)]
        exact step (fun h => absurd h hz)
    · rw [decide_eq_false (p := (i : Int) < ((c.length : Nat) : Int)) (by omega)]
      exact .inl ⟨rfl, fun j hj hj' => by omega⟩

theorem fcheck_cases (k : Nat) (hk : 300 ≤ k) (c : Cps) : (flow_Check.F k c = some 0 ∧ CpOk c) ∨ ((∃ e, e ≠ 0 ∧ flow_Check.F k c = some e) ∧ ¬ CpOk c) := by
  unfold flow_Check.F
  by_cases h1 : 256 < c.length
  · rw [decide_eq_true (p := ((c.length : Nat) : Int) > 256) (by omega)]
    exact .inr ⟨⟨2, by omega, rfl⟩, fun h => by have := h.1; omega⟩
  rw [decide_eq_false (p := ((c.length : Nat) : Int) > 256) (by omega)]
  rcases flow_loop k c (by omega) k 0 (by omega) (by omega) with ⟨g1, g2⟩ | ⟨g1, j, g2, g3⟩
  · exact .inl ⟨g1, by omega, fun j hj => g2 j (by omega) hj⟩
  · exact .inr ⟨g1, fun h => g3 (h.2 j g2)⟩

theorem fcheck_ok (k : Nat) (hk : 300 ≤ k) (c : Cps) (h : CpOk c) : flow_Check.F k c = some 0 := by
  rcases fcheck_cases k hk c with ⟨g, _⟩ | ⟨_, g⟩
  · exact g
  · exact absurd h g

/-- The first window that holds t, from place i, with r places to go. -/
def wiN (c : Cps) (t : Int) : Nat → Nat → Int
  | 0, _ => -1
  | r + 1, i => if (ent c i).1.1 ≤ t ∧ t < (ent c i).1.2 then i else wiN c t r (i + 1)

theorem within_loop (k : Nat) (c : Cps) (hl : c.length ≤ 256) (t : Int) : ∀ n i, i ≤ c.length → c.length - i < n → flow_within.l0 k c t n i = some (wiN c t (c.length - i) i) := by
  intro n
  induction n with
  | zero => intro i _ h; omega
  | succ n ih =>
    intro i hi hm
    rw [flow_within.l0_succ]
    unfold flow_within.l0b
    by_cases hlt : i < c.length
    · have e0 : decide ((i : Int) < ((c.length : Nat) : Int)) = true := decide_eq_true (by omega)
      have e1 : decide (0 ≤ (i : Int)) = true := decide_eq_true (by omega)
      simp only [e0, e1, Bool.and_self, cond_true, getD_nat, ent_eq]
      rw [show c.length - i = (c.length - (i + 1)) + 1 by omega]
      simp only [wiN]
      by_cases c1 : (ent c i).1.1 ≤ t
      · by_cases c2 : t < (ent c i).1.2
        · rw [if_pos ⟨c1, c2⟩, decide_eq_true (p := t ≥ _) c1, decide_eq_true c2]; rfl
        · rw [if_neg (fun h => c2 h.2), decide_eq_true (p := t ≥ _) c1, decide_eq_false c2, w64_id (n := (i : Int) + 1) (by omega) (by omega)]
          exact ih (i + 1) (by omega) (by omega)
      · rw [if_neg (fun h => c1 h.1), decide_eq_false (p := t ≥ _) c1, w64_id (n := (i : Int) + 1) (by omega) (by omega)]
        exact ih (i + 1) (by omega) (by omega)
    · rw [decide_eq_false (p := (i : Int) < ((c.length : Nat) : Int)) (by omega), show c.length - i = 0 by omega]
      rfl

/-- The window of t, or -1. -/
def wi (c : Cps) (t : Int) : Int := wiN c t c.length 0

theorem within_eq (k : Nat) (hk : 300 ≤ k) (c : Cps) (hl : c.length ≤ 256) (t : Int) : flow_within.F k c t = some (wi c t) := by
  unfold flow_within.F
  exact within_loop k c hl t k 0 (by omega) (by omega)

theorem wiN_facts (c : Cps) (t : Int) : ∀ r i, wiN c t r i = -1 ∨ ∃ j : Nat, wiN c t r i = j ∧ i ≤ j ∧ j < i + r ∧ (ent c j).1.1 ≤ t ∧ t < (ent c j).1.2 := by
  intro r
  induction r with
  | zero => intro i; exact .inl rfl
  | succ r ih =>
    intro i
    simp only [wiN]
    by_cases h : (ent c i).1.1 ≤ t ∧ t < (ent c i).1.2
    · rw [if_pos h]; exact .inr ⟨i, rfl, by omega, by omega, h.1, h.2⟩
    · rw [if_neg h]
      rcases ih (i + 1) with g | ⟨j, g1, g2, g3, g4⟩
      · exact .inl g
      · exact .inr ⟨j, g1, by omega, by omega, g4⟩

theorem wi_facts (c : Cps) (t : Int) : wi c t = -1 ∨ ∃ j : Nat, wi c t = j ∧ j < c.length ∧ (ent c j).1.1 ≤ t ∧ t < (ent c j).1.2 := by
  rcases wiN_facts c t c.length 0 with g | ⟨j, g1, _, g3, g4⟩
  · exact .inl g
  · exact .inr ⟨j, g1, by omega, g4⟩

theorem wiN_congr {c c' : Cps} (h : ∀ j, (ent c' j).1 = (ent c j).1) (t : Int) : ∀ r i, wiN c' t r i = wiN c t r i := by
  intro r
  induction r with
  | zero => intro i; rfl
  | succ r ih => intro i; simp only [wiN, h, ih]

theorem wi_congr {c c' : Cps} (h : ∀ j, (ent c' j).1 = (ent c j).1) (hl : c'.length = c.length) (t : Int) : wi c' t = wi c t := by
  unfold wi; rw [hl]; exact wiN_congr h t _ _

/-- How many times fall into window j. -/
def cnt (c : Cps) (j : Nat) (l : List Int) : Nat := l.countP (fun t => wi c t == (j : Int))

theorem cnt_le (c : Cps) (j : Nat) (l : List Int) : cnt c j l ≤ l.length := List.countP_le_length

theorem cnt_snoc (c : Cps) (j : Nat) (l : List Int) (t : Int) : cnt c j (l ++ [t]) = cnt c j l + (if wi c t = (j : Int) then 1 else 0) := by
  unfold cnt
  rw [List.countP_append, List.countP_cons, List.countP_nil]
  simp

theorem cnt_cons (c : Cps) (j : Nat) (l : List Int) (t : Int) : cnt c j (t :: l) = cnt c j l + (if wi c t = (j : Int) then 1 else 0) := by
  unfold cnt
  rw [List.countP_cons]
  simp

theorem demand_loop (k : Nat) (hk : 300 ≤ k) (c : Cps) (h : CpOk c) (u : List Int) (hu : u.length ≤ 60) (hin : ∀ t ∈ u, wi c t ≠ -1) : ∀ (n i : Nat) (l : List Int), i ≤ u.length → u.length - i < n → l.length = c.length → (∀ j, j < c.length → 0 ≤ l.getD j 0 ∧ l.getD j 0 ≤ i) →
    ∃ l', flow_Demand.l0 k c u n ((0, i), l) = some (l', 0, 0) ∧ l'.length = c.length ∧ ∀ j, j < c.length → l'.getD j 0 = l.getD j 0 + cnt c j (u.drop i) := by
  intro n
  induction n with
  | zero => intro i _ _ h; omega
  | succ n ih =>
    intro i l hi hm hl hb
    rw [flow_Demand.l0_succ]
    unfold flow_Demand.l0b
    dsimp only
    by_cases hlt : i < u.length
    · have e0 : decide ((i : Int) < ((u.length : Nat) : Int)) = true := decide_eq_true (by omega)
      have e1 : decide (0 ≤ (i : Int)) = true := decide_eq_true (by omega)
      simp only [e0, e1, Bool.and_self, cond_true, getD_nat]
      rw [within_eq k hk c h.1]
      simp only [Option.bind_some]
      have hmem : u.getD i 0 ∈ u := by rw [List.getD_eq_getElem?_getD, List.getElem?_eq_getElem hlt]; exact List.getElem_mem _
      obtain ⟨j, g1, g2, _⟩ := (wi_facts c (u.getD i 0)).resolve_left (hin _ hmem)
      have hj := hb j g2
      rw [g1, decide_eq_true (p := (j : Int) ≥ 0) (by omega), decide_eq_true (p := (j : Int) < ((l.length : Nat) : Int)) (by omega), getD_nat, Int.toNat_natCast]
      simp only [Bool.and_self, cond_true]
      rw [w64_id (n := (i : Int) + 1) (by omega) (by omega), w64_id (n := l.getD j 0 + 1) (by omega) (by omega)]
      have gs : ∀ q, (l.set j (l.getD j 0 + 1)).getD q 0 = if j = q then l.getD j 0 + 1 else l.getD q 0 := fun q => by
        rw [List.getD_eq_getElem?_getD, List.getElem?_set, List.getD_eq_getElem?_getD (l := l)]
        by_cases hij : j = q
        · subst hij; rw [if_pos rfl, if_pos rfl, if_pos (by omega)]; rfl
        · rw [if_neg hij, if_neg hij]; exact (List.getD_eq_getElem?_getD).symm
      obtain ⟨l', h1, h2, h3⟩ := ih (i + 1) (l.set j (l.getD j 0 + 1)) (by omega) (by omega) (by rw [List.length_set]; exact hl) (fun q hq => by
        rw [gs]
        have := hb q hq
        split <;> omega)
      refine ⟨l', h1, h2, fun q hq => ?_⟩
      rw [h3 q hq, gs, drop_cons hlt 0, cnt_cons, g1]
      by_cases hjq : j = q
      · subst hjq; rw [if_pos rfl, if_pos rfl]; omega
      · rw [if_neg hjq, if_neg (by omega)]; omega
    · rw [decide_eq_false (p := (i : Int) < ((u.length : Nat) : Int)) (by omega), List.drop_eq_nil_of_le (by omega)]
      exact ⟨l, rfl, hl, fun j _ => by simp [cnt]⟩

theorem times_loop (k : Nat) (u : List Int) (hu : u.length ≤ 60) (hin : ∀ t ∈ u, 0 ≤ t ∧ t ≤ 200000) : ∀ n i : Nat, i ≤ u.length → u.length - i < n → flow_times.l0 k u n i = some 0 := by
  intro n
  induction n with
  | zero => intro i _ h; omega
  | succ n ih =>
    intro i hi hm
    rw [flow_times.l0_succ]
    unfold flow_times.l0b
    by_cases hlt : i < u.length
    · have e0 : decide ((i : Int) < ((u.length : Nat) : Int)) = true := decide_eq_true (by omega)
      have e1 : decide (0 ≤ (i : Int)) = true := decide_eq_true (by omega)
      simp only [e0, e1, Bool.and_self, cond_true, getD_nat]
      have hmem : u.getD i 0 ∈ u := by rw [List.getD_eq_getElem?_getD, List.getElem?_eq_getElem hlt]; exact List.getElem_mem _
      have := hin _ hmem
      rw [decide_eq_false (p := u.getD i 0 < 0) (by omega), decide_eq_false (p := u.getD i 0 > 200000) (by omega), w64_id (n := (i : Int) + 1) (by omega) (by omega)]
      exact ih (i + 1) (by omega) (by omega)
    · rw [decide_eq_false (p := (i : Int) < ((u.length : Nat) : Int)) (by omega)]
      rfl

theorem times_eq (k : Nat) (hk : 300 ≤ k) (u : List Int) (hu : u.length ≤ 60) (hin : ∀ t ∈ u, 0 ≤ t ∧ t ≤ 200000) : flow_times.F k u = some 0 := by
  unfold flow_times.F
  rw [decide_eq_false (p := ((u.length : Nat) : Int) > 256) (by omega)]
  exact times_loop k u hu hin k 0 (by omega) (by omega)

theorem wi_time {c : Cps} (h : CpOk c) {t : Int} (ht : wi c t ≠ -1) : 0 ≤ t ∧ t ≤ 200000 := by
  obtain ⟨j, _, g2, g3, g4⟩ := (wi_facts c t).resolve_left ht
  obtain ⟨h1, h2, _⟩ := h.2 j g2
  omega

attribute [local irreducible] flow_times.F

theorem demand_eq (k : Nat) (hk : 300 ≤ k) (c : Cps) (h : CpOk c) (u : List Int) (hu : u.length ≤ 60) (hin : ∀ t ∈ u, wi c t ≠ -1) : ∃ l', flow_Demand.F k c u = some (l', 0, 0) ∧ l'.length = c.length ∧ ∀ j, j < c.length → l'.getD j 0 = cnt c j u := by
  unfold flow_Demand.F
  have hl := h.1
  rw [fcheck_ok k hk c h]
  simp only [Option.bind_some]
  rw [times_eq k hk u hu (fun t ht => wi_time h (hin t ht))]
  simp only [Option.bind_some]
  rw [cond_neg (c := (0 : Int) != 0) (by rfl), cond_neg (c := (0 : Int) != 0) (by rfl), decide_eq_true (p := 0 ≤ ((c.length : Nat) : Int)) (by omega), decide_eq_true (p := ((c.length : Nat) : Int) ≤ _) (by omega), decide_eq_true (p := (8 : Int) * _ ≤ _) (by omega), Int.toNat_natCast]
  have gr : ∀ j, (List.replicate c.length (0 : Int)).getD j 0 = 0 := fun j => by
    rw [List.getD_eq_getElem?_getD, List.getElem?_replicate]; split <;> rfl
  obtain ⟨l', h1, h2, h3⟩ := demand_loop k hk c h u hu hin k 0 (List.replicate c.length 0) (by omega) (by omega) (by simp) (fun j _ => by rw [gr]; omega)
  refine ⟨l', h1, h2, fun j hj => ?_⟩
  rw [h3 j hj, gr, List.drop_zero, Int.zero_add]

theorem over_loop (k : Nat) (c : Cps) (hl : c.length ≤ 256) (r : List Int × Int × Int) (hr : r.1.length = c.length) (hle : ∀ j, j < c.length → r.1.getD j 0 ≤ (ent c j).2) : ∀ n i : Nat, i ≤ c.length → c.length - i < n → flow_Over.l0 k c r n (i, []) = some ([], 0) := by
  intro n
  induction n with
  | zero => intro i _ h; omega
  | succ n ih =>
    intro i hi hm
    rw [flow_Over.l0_succ]
    unfold flow_Over.l0b
    dsimp only
    by_cases hlt : i < c.length
    · have e0 : decide ((i : Int) < ((c.length : Nat) : Int)) = true := decide_eq_true (by omega)
      have e1 : decide (0 ≤ (i : Int)) = true := decide_eq_true (by omega)
      have := hle i hlt
      simp only [hr, e0, e1, Bool.and_self, cond_true, getD_nat, ent_eq]
      rw [decide_eq_false (p := r.1.getD i 0 > (ent c i).2) (by omega), w64_id (n := (i : Int) + 1) (by omega) (by omega)]
      exact ih (i + 1) (by omega) (by omega)
    · rw [decide_eq_false (p := (i : Int) < ((c.length : Nat) : Int)) (by omega)]
      rfl

attribute [local irreducible] flow_Demand.F

theorem over_eq (k : Nat) (hk : 300 ≤ k) (c : Cps) (h : CpOk c) (u : List Int) (hu : u.length ≤ 60) (hin : ∀ t ∈ u, wi c t ≠ -1) (hle : ∀ j, j < c.length → (cnt c j u : Int) ≤ (ent c j).2) : flow_Over.F k c u = some ([], 0) := by
  unfold flow_Over.F
  obtain ⟨l', h1, h2, h3⟩ := demand_eq k hk c h u hu hin
  have hl := h.1
  rw [h1]
  exact over_loop k c h.1 (l', 0, 0) h2 (fun j hj => by rw [show ((l', 0, 0) : List Int × Int × Int).1 = l' from rfl, h3 j hj]; exact hle j hj) k 0 (by omega) (by omega)

end Go.Proofs.Ytdfopdlmdminbaa.RT
