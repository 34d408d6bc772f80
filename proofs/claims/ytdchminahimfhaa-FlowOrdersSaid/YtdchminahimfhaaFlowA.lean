/- What is proved here: the plain law FlowUses. It asks nothing. -/
import Derived.Test.YtdchminahimfhaaFoT
import Derived.Test.YtdchminahimfhaaPlA
namespace Go.Proofs.Ytdchminahimfhaa.RT
open Go Go.R

/-- Capacities: windows of time with a number each. -/
abbrev Cps := List ((Int × Int) × Int)
/-- The entry at place j. -/
def ent (c : Cps) (j : Nat) : (Int × Int) × Int := c.getD j ((0, 0), 0)
/-- The entry at place j is in order. -/
def EnOk (c : Cps) (j : Nat) : Prop := 0 ≤ (ent c j).1.1 ∧ (ent c j).1.2 ≤ 200000 ∧ (ent c j).1.1 < (ent c j).1.2 ∧ 0 ≤ (ent c j).2 ∧ (ent c j).2 ≤ 24 ∧ (0 < j → (ent c (j - 1)).1.2 ≤ (ent c j).1.1)
/-- All are in order. -/
def CpOk (c : Cps) : Prop := c.length ≤ 256 ∧ ∀ j, j < c.length → EnOk c j

theorem ent_eq (c : Cps) (j : Nat) : c.getD j ((0, 0), 0) = ent c j := rfl

theorem flow_loop (k : Nat) (c : Cps) (hl : c.length ≤ 256) : ∀ n i, i ≤ c.length → c.length - i < n →
    (flow_Check.l0 k c n i = some 0 ∧ ∀ j, i ≤ j → j < c.length → EnOk c j) ∨ ((∃ e, e ≠ 0 ∧ flow_Check.l0 k c n i = some e) ∧ ∃ j, j < c.length ∧ ¬ EnOk c j) := by
  intro n
  induction n with
  | zero => intro i _ h; omega
  | succ n ih =>
    intro i hi hm
    rw [flow_Check.l0_succ]
    unfold flow_Check.l0b
    by_cases hlt : i < c.length
    · have e0 : decide ((i : Int) < ((c.length : Nat) : Int)) = true := decide_eq_true (by omega)
      have e1 : decide (0 ≤ (i : Int)) = true := decide_eq_true (by omega)
      simp only [e0, e1, Bool.and_self, cond_true, getD_nat, ent_eq]
      by_cases c1 : (ent c i).1.1 < 0
      · rw [decide_eq_true c1]; exact .inr ⟨⟨4, by omega, rfl⟩, i, hlt, fun h => by have := h.1; omega⟩
      by_cases c2 : (ent c i).1.2 > 200000
      · rw [decide_eq_false c1, decide_eq_true c2]; exact .inr ⟨⟨4, by omega, rfl⟩, i, hlt, fun h => by have := h.2.1; omega⟩
      by_cases c3 : (ent c i).1.1 ≥ (ent c i).1.2
      · rw [decide_eq_false c1, decide_eq_false c2, decide_eq_true c3]; exact .inr ⟨⟨4, by omega, rfl⟩, i, hlt, fun h => by have := h.2.2.1; omega⟩
      by_cases c4 : (ent c i).2 < 0
      · rw [decide_eq_false c1, decide_eq_false c2, decide_eq_false c3, decide_eq_true c4]; exact .inr ⟨⟨4, by omega, rfl⟩, i, hlt, fun h => by have := h.2.2.2.1; omega⟩
      by_cases c5 : (ent c i).2 > 24
      · rw [decide_eq_false c1, decide_eq_false c2, decide_eq_false c3, decide_eq_false c4, decide_eq_true c5]; exact .inr ⟨⟨4, by omega, rfl⟩, i, hlt, fun h => by have := h.2.2.2.2.1; omega⟩
      rw [decide_eq_false c1, decide_eq_false c2, decide_eq_false c3, decide_eq_false c4, decide_eq_false c5]
      have step : (0 < i → (ent c (i - 1)).1.2 ≤ (ent c i).1.1) → (flow_Check.l0 k c n (w64 ((i : Int) + 1)) = some 0 ∧ ∀ j, i ≤ j → j < c.length → EnOk c j) ∨ ((∃ e, e ≠ 0 ∧ flow_Check.l0 k c n (w64 ((i : Int) + 1)) = some e) ∧ ∃ j, j < c.length ∧ ¬ EnOk c j) := fun hp => by
        rw [w64_id (n := (i : Int) + 1) (by omega) (by omega)]
        rcases ih (i + 1) (by omega) (by omega) with ⟨h1, h2⟩ | h1
        · refine .inl ⟨h1, fun j hj hj' => ?_⟩
          rcases Nat.lt_or_ge i j with g | g
          · exact h2 j (by omega) hj'
          · have : j = i := by omega
            subst this
            exact ⟨by omega, by omega, by omega, by omega, by omega, hp⟩
        · exact .inr h1
      by_cases hz : 0 < i
      · have g0 : decide ((i : Int) > 0) = true := decide_eq_true (by omega)
        have g1 : decide (0 ≤ (i : Int) - 1) = true := decide_eq_true (by omega)
        have g2 : decide ((i : Int) - 1 < ((c.length : Nat) : Int)) = true := decide_eq_true (by omega)
        have q : ((i : Int) - 1).toNat = i - 1 := by omega
        rw [w64_id (n := (i : Int) - 1) (by omega) (by omega), g0, g1, g2, q]
        simp only [cond_true, cond_false, Option.bind_some, Bool.and_self]
        by_cases c6 : (ent c i).1.1 < (ent c (i - 1)).1.2
        · rw [decide_eq_true c6]; exact .inr ⟨⟨12, by omega, rfl⟩, i, hlt, fun h => by have := h.2.2.2.2.2 hz; omega⟩
        · rw [decide_eq_false c6]; exact step (fun _ => by omega)
      · rw [decide_eq_false (p := (i : Int) > 0) (by omega)]
        exact step (fun h => absurd h hz)
    · rw [decide_eq_false (p := (i : Int) < ((c.length : Nat) : Int)) (by omega)]
      exact .inl ⟨rfl, fun j hj hj' => by omega⟩

theorem fcheck_cases (k : Nat) (hk : 300 ≤ k) (c : Cps) : (flow_Check.F k c = some 0 ∧ CpOk c) ∨ ((∃ e, e ≠ 0 ∧ flow_Check.F k c = some e) ∧ ¬ CpOk c) := by
  unfold flow_Check.F
  by_cases h1 : 256 < c.length
  · rw [decide_eq_true (p := ((c.length : Nat) : Int) > 256) (by omega)]
    exact .inr ⟨⟨2, by omega, rfl⟩, fun h => by have := h.1; omega⟩
  rw [decide_eq_false (p := ((c.length : Nat) : Int) > 256) (by omega)]
  rcases flow_loop k c (by omega) k 0 (by omega) (by omega) with ⟨g1, g2⟩ | ⟨g1, j, g2, g3⟩
  · exact .inl ⟨g1, by omega, fun j hj => g2 j (by omega) hj⟩
  · exact .inr ⟨g1, fun h => g3 (h.2 j g2)⟩

theorem fcheck_ok (k : Nat) (hk : 300 ≤ k) (c : Cps) (h : CpOk c) : flow_Check.F k c = some 0 := by
  rcases fcheck_cases k hk c with ⟨g, _⟩ | ⟨_, g⟩
  · exact g
  · exact absurd h g

/-- The first window that holds t, from place i, with r places to go. -/
def wiN (c : Cps) (t : Int) : Nat → Nat → Int
  | 0, _ => -1
  | r + 1, i => if (ent c i).1.1 ≤ t ∧ t < (ent c i).1.2 then i else wiN c t r (i + 1)

theorem within_loop (k : Nat) (c : Cps) (hl : c.length ≤ 256) (t : Int) : ∀ n i, i ≤ c.length → c.length - i < n → flow_within.l0 k c t n i = some (wiN c t (c.length - i) i) := by
  intro n
  induction n with
  | zero => intro i _ h; omega
  | succ n ih =>
    intro i hi hm
    rw [flow_within.l0_succ]
    unfold flow_within.l0b
    by_cases hlt : i < c.length
    · have e0 : decide ((i : Int) < ((c.length : Nat) : Int)) = true := decide_eq_true (by omega)
      have e1 : decide (0 ≤ (i : Int)) = true := decide_eq_true (by omega)
      simp only [e0, e1, Bool.and_self, cond_true, getD_nat, ent_eq]
      rw [show c.length - i = (c.length - (i + 1)) + 1 by omega]
      simp only [wiN]
      by_cases c1 : (ent c i).1.1 ≤ t
      · by_cases c2 : t < (ent c i).1.2
        · rw [if_pos ⟨c1, c2⟩, decide_eq_true (p := t ≥ _) c1, decide_eq_true c2]; rfl
        · rw [if_neg (fun h => c2 h.2), decide_eq_true (p := t ≥ _) c1, decide_eq_false c2, w64_id (n := (i : Int) + 1) (by omega) (by omega)]
          exact ih (i + 1) (by omega) (by omega)
      · rw [if_neg (fun h => c1 h.1), decide_eq_false (p := t ≥ _) c1, w64_id (n := (i : Int) + 1) (by omega) (by omega)]
        exact ih (i + 1) (by omega) (by omega)
    · rw [decide_eq_false (p := (i : Int) < ((c.length : Nat) : Int)) (by omega), show c.length - i = 0 by omega]
      rfl

/-- The window of t, or -1. -/
def wi (c : Cps) (t : Int) : Int := wiN c t c.length 0

theorem within_eq (k : Nat) (hk : 300 ≤ k) (c : Cps) (hl : c.length ≤ 256) (t : Int) : flow_within.F k c t = some (wi c t) := by
  unfold flow_within.F
  exact within_loop k c hl t k 0 (by omega) (by omega)

theorem wiN_facts (c : Cps) (t : Int) : ∀ r i, wiN c t r i = -1 ∨ ∃ j : Nat, wiN c t r i = j ∧ i ≤ j ∧ j < i + r ∧ (ent c j).1.1 ≤ t ∧ t < (ent c j).1.2 := by
  intro r
  induction r with
  | zero => intro i; exact .inl rfl
  | succ r ih =>
    intro i
    simp only [wiN]
    by_cases h : (ent c i).1.1 ≤ t ∧ t < (ent c i).1.2
    · rw [if_pos h]; exact .inr ⟨i, rfl, by omega, by omega, h.1, h.2⟩
    · rw [if_neg h]
      rcases ih (i + 1) with g | ⟨j, g1, g2, g3, g4⟩
      · exact .inl g
      · exact .inr ⟨j, g1, by omega, by omega, g4⟩

theorem wi_facts (c : Cps) (t : Int) : wi c t = -1 ∨ ∃ j : Nat, wi c t = j ∧ j < c.length ∧ (ent c j).1.1 ≤ t ∧ t < (ent c j).1.2 := by
  rcases wiN_facts c t c.length 0 with g | ⟨j, g1, _, g3, g4⟩
  · exact .inl g
  · exact .inr ⟨j, g1, by omega, g4⟩

theorem wiN_congr {c c' : Cps} (h : ∀ j, (ent c' j).1 = (ent c j).1) (t : Int) : ∀ r i, wiN c' t r i = wiN c t r i := by
  intro r
  induction r with
  | zero => intro i; rfl
  | succ r ih => intro i; simp only [wiN, h, ih]

theorem wi_congr {c c' : Cps} (h : ∀ j, (ent c' j).1 = (ent c j).1) (hl : c'.length = c.length) (t : Int) : wi c' t = wi c t := by
  unfold wi; rw [hl]; exact wiN_congr h t _ _

/-- The sum over the first n places. -/
def sumN (c : Cps) : Nat → Int
  | 0 => 0
  | n + 1 => sumN c n + (ent c n).2

theorem sumN_bounds (c : Cps) (h : CpOk c) : ∀ n, n ≤ c.length → 0 ≤ sumN c n ∧ sumN c n ≤ 24 * n := by
  intro n
  induction n with
  | zero => intro _; simp [sumN]
  | succ n ih =>
    intro hn
    have := ih (by omega)
    obtain ⟨_, _, _, h4, h5, _⟩ := h.2 n (by omega)
    simp only [sumN]
    omega

theorem room_loop (k : Nat) (c : Cps) (h : CpOk c) : ∀ n i : Nat, i ≤ c.length → c.length - i < n → flow_Room.l0 k c 0 n (sumN c i, i) = some (sumN c c.length, 0) := by
  intro n
  induction n with
  | zero => intro i _ h; omega
  | succ n ih =>
    intro i hi hm
    rw [flow_Room.l0_succ]
    unfold flow_Room.l0b
    have hl := h.1
    by_cases hlt : i < c.length
    · have e0 : decide ((i : Int) < ((c.length : Nat) : Int)) = true := decide_eq_true (by omega)
      have e1 : decide (0 ≤ (i : Int)) = true := decide_eq_true (by omega)
      simp only [e0, e1, Bool.and_self, cond_true, getD_nat, ent_eq]
      obtain ⟨h1, h2, h3, h4, h5, _⟩ := h.2 i hlt
      have hb := sumN_bounds c h i hi
      rw [decide_eq_true (p := (ent c i).1.2 > 0) (by omega), w64_id (n := (i : Int) + 1) (by omega) (by omega), w64_id (n := sumN c i + _) (by omega) (by omega)]
      exact ih (i + 1) (by omega) (by omega)
    · dsimp only
      rw [decide_eq_false (p := (i : Int) < ((c.length : Nat) : Int)) (by omega), show i = c.length by omega]
      rfl

attribute [local irreducible] flow_Check.F flow_within.F

theorem room_eq (k : Nat) (hk : 300 ≤ k) (c : Cps) (h : CpOk c) : flow_Room.F k c 0 = some (sumN c c.length, 0) := by
  unfold flow_Room.F
  rw [fcheck_ok k hk c h]
  have hl := h.1
  exact room_loop k c h k 0 (by omega) (by omega)

/-- How many of the times fall into window j. -/
def cnt (c : Cps) (j : Nat) (l : List Int) : Nat := l.countP (fun t => wi c t == (j : Int))

theorem cnt_le (c : Cps) (j : Nat) (l : List Int) : cnt c j l ≤ l.length := List.countP_le_length

theorem cnt_snoc (c : Cps) (j : Nat) (l : List Int) (t : Int) : cnt c j (l ++ [t]) = cnt c j l + (if wi c t = (j : Int) then 1 else 0) := by
  unfold cnt
  rw [List.countP_append, List.countP_cons, List.countP_nil]
  simp

theorem cnt_cons (c : Cps) (j : Nat) (l : List Int) (t : Int) : cnt c j (t :: l) = cnt c j l + (if wi c t = (j : Int) then 1 else 0) := by
  unfold cnt
  rw [List.countP_cons]
  simp

theorem demand_loop (k : Nat) (hk : 300 ≤ k) (c : Cps) (h : CpOk c) (u : List Int) (hu : u.length ≤ 60) (hin : ∀ t ∈ u, wi c t ≠ -1) : ∀ (n i : Nat) (l : List Int), i ≤ u.length → u.length - i < n → l.length = c.length → (∀ j, j < c.length → 0 ≤ l.getD j 0 ∧ l.getD j 0 ≤ i) →
    ∃ l', flow_Demand.l0 k c u n ((0, i), l) = some (l', 0, 0) ∧ l'.length = c.length ∧ ∀ j, j < c.length → l'.getD j 0 = l.getD j 0 + cnt c j (u.drop i) := by
  intro n
  induction n with
  | zero => intro i _ _ h; omega
  | succ n ih =>
    intro i l hi hm hl hb
    rw [flow_Demand.l0_succ]
    unfold flow_Demand.l0b
    dsimp only
    by_cases hlt : i < u.length
    · have e0 : decide ((i : Int) < ((u.length : Nat) : Int)) = true := decide_eq_true (by omega)
      have e1 : decide (0 ≤ (i : Int)) = true := decide_eq_true (by omega)
      simp only [e0, e1, Bool.and_self, cond_true, getD_nat]
      rw [within_eq k hk c h.1]
      simp only [Option.bind_some]
      have hmem : u.getD i 0 ∈ u := by rw [List.getD_eq_getElem?_getD, List.getElem?_eq_getElem hlt]; exact List.getElem_mem _
      obtain ⟨j, g1, g2, _⟩ := (wi_facts c (u.getD i 0)).resolve_left (hin _ hmem)
      have hj := hb j g2
      rw [g1, decide_eq_true (p := (j : Int) ≥ 0) (by omega), decide_eq_true (p := (j : Int) < ((l.length : Nat) : Int)) (by omega), getD_nat, Int.toNat_natCast]
      simp only [Bool.and_self, cond_true]
      rw [w64_id (n := (i : Int) + 1) (by omega) (by omega), w64_id (n := l.getD j 0 + 1) (by omega) (by omega)]
      have gs : ∀ q, (l.set j (l.getD j 0 + 1)).getD q 0 = if j = q then l.getD j 0 + 1 else l.getD q 0 := fun q => by
        rw [List.getD_eq_getElem?_getD, List.getElem?_set, List.getD_eq_getElem?_getD (l := l)]
        by_cases hij : j = q
        · subst hij; rw [if_pos rfl, if_pos rfl, if_pos (by omega)]; rfl
        · rw [if_neg hij, if_neg hij]; exact (List.getD_eq_getElem?_getD).symm
      obtain ⟨l', h1, h2, h3⟩ := ih (i + 1) (l.set j (l.getD j 0 + 1)) (by omega) (by omega) (by rw [List.length_set]; exact hl) (fun q hq => by
        rw [gs]
        have := hb q hq
        split <;> omega)
      refine ⟨l', h1, h2, fun q hq => ?_⟩
      rw [h3 q hq, gs, drop_cons hlt 0, cnt_cons, g1]
      by_cases hjq : j = q
      · subst hjq; rw [if_pos rfl, if_pos rfl]; omega
      · rw [if_neg hjq, if_neg (by omega)]; omega
    · rw [decide_eq_false (p := (i : Int) < ((u.length : Nat) : Int)) (by omega), List.drop_eq_nil_of_le (by omega)]
      exact ⟨l, rfl, hl, fun j _ => by simp [cnt]⟩

theorem times_loop (k : Nat) (u : List Int) (hu : u.length ≤ 60) (hin : ∀ t ∈ u, 0 ≤ t ∧ t ≤ 200000) : ∀ n i : Nat, i ≤ u.length → u.length - i < n → flow_times.l0 k u n i = some 0 := by
  intro n
  induction n with
  | zero => intro i _ h; omega
  | succ n ih =>
    intro i hi hm
    rw [flow_times.l0_succ]
    unfold flow_times.l0b
    by_cases hlt : i < u.length
    · have e0 : decide ((i : Int) < ((u.length : Nat) : Int)) = true := decide_eq_true (by omega)
      have e1 : decide (0 ≤ (i : Int)) = true := decide_eq_true (by omega)
      simp only [e0, e1, Bool.and_self, cond_true, getD_nat]
      have hmem : u.getD i 0 ∈ u := by rw [List.getD_eq_getElem?_getD, List.getElem?_eq_getElem hlt]; exact List.getElem_mem _
      have := hin _ hmem
      rw [decide_eq_false (p := u.getD i 0 < 0) (by omega), decide_eq_false (p := u.getD i 0 > 200000) (by omega), w64_id (n := (i : Int) + 1) (by omega) (by omega)]
      exact ih (i + 1) (by omega) (by omega)
    · rw [decide_eq_false (p := (i : Int) < ((u.length : Nat) : Int)) (by omega)]
      rfl

theorem times_eq (k : Nat) (hk : 300 ≤ k) (u : List Int) (hu : u.length ≤ 60) (hin : ∀ t ∈ u, 0 ≤ t ∧ t ≤ 200000) : flow_times.F k u = some 0 := by
  unfold flow_times.F
  rw [decide_eq_false (p := ((u.length : Nat) : Int) > 256) (by omega)]
  exact times_loop k u hu hin k 0 (by omega) (by omega)

theorem wi_time {c : Cps} (h : CpOk c) {t : Int} (ht : wi c t ≠ -1) : 0 ≤ t ∧ t ≤ 200000 := by
  obtain ⟨j, _, g2, g3, g4⟩ := (wi_facts c t).resolve_left ht
  obtain ⟨h1, h2, _⟩ := h.2 j g2
  omega

attribute [local irreducible] flow_times.F

theorem demand_eq (k : Nat) (hk : 300 ≤ k) (c : Cps) (h : CpOk c) (u : List Int) (hu : u.length ≤ 60) (hin : ∀ t ∈ u, wi c t ≠ -1) : ∃ l', flow_Demand.F k c u = some (l', 0, 0) ∧ l'.length = c.length ∧ ∀ j, j < c.length → l'.getD j 0 = cnt c j u := by
  unfold flow_Demand.F
  have hl := h.1
  rw [fcheck_ok k hk c h]
  simp only [Option.bind_some]
  rw [times_eq k hk u hu (fun t ht => wi_time h (hin t ht))]
  simp only [Option.bind_some]
  rw [cond_neg (c := (0 : Int) != 0) (by rfl), cond_neg (c := (0 : Int) != 0) (by rfl), decide_eq_true (p := 0 ≤ ((c.length : Nat) : Int)) (by omega), decide_eq_true (p := ((c.length : Nat) : Int) ≤ _) (by omega), decide_eq_true (p := (8 : Int) * _ ≤ _) (by omega), Int.toNat_natCast]
  have gr : ∀ j, (List.replicate c.length (0 : Int)).getD j 0 = 0 := fun j => by
    rw [List.getD_eq_getElem?_getD, List.getElem?_replicate]; split <;> rfl
  obtain ⟨l', h1, h2, h3⟩ := demand_loop k hk c h u hu hin k 0 (List.replicate c.length 0) (by omega) (by omega) (by simp) (fun j _ => by rw [gr]; omega)
  refine ⟨l', h1, h2, fun j hj => ?_⟩
  rw [h3 j hj, gr, List.drop_zero, Int.zero_add]

theorem over_loop (k : Nat) (c : Cps) (hl : c.length ≤ 256) (r : List Int × Int × Int) (hr : r.1.length = c.length) (hle : ∀ j, j < c.length → r.1.getD j 0 ≤ (ent c j).2) : ∀ n i : Nat, i ≤ c.length → c.length - i < n → flow_Over.l0 k c r n (i, []) = some ([], 0) := by
  intro n
  induction n with
  | zero => intro i _ h; omega
  | succ n ih =>
    intro i hi hm
    rw [flow_Over.l0_succ]
    unfold flow_Over.l0b
    dsimp only
    by_cases hlt : i < c.length
    · have e0 : decide ((i : Int) < ((c.length : Nat) : Int)) = true := decide_eq_true (by omega)
      have e1 : decide (0 ≤ (i : Int)) = true := decide_eq_true (by omega)
      have := hle i hlt
      simp only [hr, e0, e1, Bool.and_self, cond_true, getD_nat, ent_eq]
      rw [decide_eq_false (p := r.1.getD i 0 > (ent c i).2) (by omega), w64_id (n := (i : Int) + 1) (by omega) (by omega)]
      exact ih (i + 1) (by omega) (by omega)
    · rw [decide_eq_false (p := (i : Int) < ((c.length : Nat) : Int)) (by omega)]
      rfl

attribute [local irreducible] flow_Demand.F

theorem over_eq (k : Nat) (hk : 300 ≤ k) (c : Cps) (h : CpOk c) (u : List Int) (hu : u.length ≤ 60) (hin : ∀ t ∈ u, wi c t ≠ -1) (hle : ∀ j, j < c.length → (cnt c j u : Int) ≤ (ent c j).2) : flow_Over.F k c u = some ([], 0) := by
  unfold flow_Over.F
  obtain ⟨l', h1, h2, h3⟩ := demand_eq k hk c h u hu hin
  have hl := h.1
  rw [h1]
  exact over_loop k c h.1 (l', 0, 0) h2 (fun j hj => by rw [show ((l', 0, 0) : List Int × Int × Int).1 = l' from rfl, h3 j hj]; exact hle j hj) k 0 (by omega) (by omega)

theorem at_eq (k : Nat) (hk : 300 ≤ k) (c : Cps) (h : CpOk c) (t : Int) : flow_At.F k c t = some (if 0 ≤ wi c t then (wi c t, 0) else (0, 8)) := by
  unfold flow_At.F
  rw [fcheck_ok k hk c h]
  simp only [Option.bind_some]
  rw [within_eq k hk c h.1, cond_neg (c := (0 : Int) != 0) (by rfl)]
  simp only [Option.bind_some]
  by_cases g : 0 ≤ wi c t
  · rw [if_pos g, decide_eq_true (p := wi c t ≥ 0) g]; rfl
  · rw [if_neg g, decide_eq_false (p := wi c t ≥ 0) g]; rfl

/-- One taken out of window j. -/
def less (c : Cps) (j : Nat) : Cps := c.set j ((ent c j).1, (ent c j).2 - 1)

theorem ent_less (c : Cps) (j q : Nat) (hj : j < c.length) : ent (less c j) q = if j = q then ((ent c j).1, (ent c j).2 - 1) else ent c q := by
  unfold less ent
  rw [List.getD_eq_getElem?_getD, List.getElem?_set]
  by_cases h : j = q
  · subst h; rw [if_pos rfl, if_pos rfl, if_pos hj]; rfl
  · rw [if_neg h, if_neg h]; exact (List.getD_eq_getElem?_getD).symm

attribute [local irreducible] flow_At.F

theorem less_eq (k : Nat) (hk : 300 ≤ k) (c : Cps) (h : CpOk c) (t : Int) : (wi c t = -1 ∧ flow_Less.F k c t = some ([], 8)) ∨ ∃ j : Nat, wi c t = j ∧ j < c.length ∧ ((ent c j).2 = 0 ∧ flow_Less.F k c t = some ([], 18) ∨ 0 < (ent c j).2 ∧ flow_Less.F k c t = some (less c j, 0)) := by
  unfold flow_Less.F
  rw [at_eq k hk c h]
  have hl := h.1
  rcases wi_facts c t with g | ⟨j, g1, g2, _⟩
  · rw [g]; exact .inl ⟨rfl, rfl⟩
  · rw [g1, if_pos (by omega)]
    simp only [Option.bind_some]
    refine .inr ⟨j, rfl, g2, ?_⟩
    obtain ⟨_, _, _, h4, h5, _⟩ := h.2 j g2
    rw [cond_neg (c := (0 : Int) != 0) (by rfl), inIdx (i := (j : Int)) (n := c.length) (by omega) (by omega), getD_nat, Int.toNat_natCast, ent_eq]
    simp only [cond_true]
    by_cases hz : (ent c j).2 = 0
    · exact .inl ⟨hz, by rw [cond_pos (by simpa using hz)]⟩
    · refine .inr ⟨by omega, ?_⟩
      rw [cond_neg (by simpa using hz), cond_pos (Nat.ble_eq_true_of_le (by omega)), w64_id (n := (ent c j).2 - 1) (by omega) (by omega)]
      rfl

theorem sum_less (c : Cps) (j : Nat) (hj : j < c.length) : ∀ n, sumN (less c j) n = sumN c n - (if j < n then 1 else 0) := by
  intro n
  induction n with
  | zero => simp [sumN]
  | succ n ih =>
    simp only [sumN, ih, ent_less c j n hj]
    by_cases h : j = n
    · subst h
      rw [if_neg (Nat.lt_irrefl j), if_pos (c := j = j) rfl, if_pos (Nat.lt_succ_self j)]
      simp only; omega
    · rw [if_neg h]
      by_cases h' : j < n
      · rw [if_pos h', if_pos (by omega)]; omega
      · rw [if_neg h', if_neg (by omega)]; omega

/-- What holds of what is left of c and of what was taken. -/
structure Rel (c d : Cps) (u : List Int) : Prop where
  len : d.length = c.length
  win : ∀ j, (ent d j).1 = (ent c j).1
  left : ∀ j, j < c.length → (ent d j).2 = (ent c j).2 - cnt c j u ∧ 0 ≤ (ent d j).2
  here : ∀ t ∈ u, wi c t ≠ -1
  sum : sumN d c.length = sumN c c.length - u.length

theorem Rel.ok {c d : Cps} {u : List Int} (h : CpOk c) (r : Rel c d u) : CpOk d := by
  refine ⟨by rw [r.len]; exact h.1, fun j hj => ?_⟩
  rw [r.len] at hj
  obtain ⟨h1, h2, h3, h4, h5, h6⟩ := h.2 j hj
  obtain ⟨g1, g2⟩ := r.left j hj
  unfold EnOk
  rw [r.win, r.win]
  exact ⟨h1, h2, h3, g2, by omega, h6⟩

attribute [local irreducible] flow_Less.F flow_Over.F flow_Room.F

theorem uses_loop (k : Nat) (hk : 300 ≤ k) (c : Cps) (h : CpOk c) (a : List Int) (ha : a.length ≤ 60) : ∀ (n i : Nat) (d : Cps) (u : List Int), i ≤ a.length → a.length - i < n → u.length ≤ i → Rel c d u →
    ∃ d' u', skywaykeep3_FlowUses.l0 k a n ((d, i), u) = some (.inl (d', u')) ∧ u'.length ≤ 60 ∧ Rel c d' u' := by
  intro n
  induction n with
  | zero => intro i _ _ _ h; omega
  | succ n ih =>
    intro i d u hi hm hu r
    rw [skywaykeep3_FlowUses.l0_succ]
    unfold skywaykeep3_FlowUses.l0b
    dsimp only
    by_cases hlt : i < a.length
    · have e0 : decide ((i : Int) < ((a.length : Nat) : Int)) = true := decide_eq_true (by omega)
      have e1 : decide (0 ≤ (i : Int)) = true := decide_eq_true (by omega)
      simp only [e0, e1, Bool.and_self, cond_true, getD_nat]
      rw [w64_id (n := (i : Int) + 1) (by omega) (by omega)]
      rcases less_eq k hk d (r.ok h) (a.getD i 0) with ⟨_, g⟩ | ⟨j, w1, w2, ⟨_, g⟩ | ⟨w3, g⟩⟩
      · rw [g]; exact ih (i + 1) d u (by omega) (by omega) (by omega) r
      · rw [g]; exact ih (i + 1) d u (by omega) (by omega) (by omega) r
      · rw [g]
        simp only [Option.bind_some]
        rw [cond_neg (c := (0 : Int) != 0) (by rfl), cond_pos (Nat.ble_eq_true_of_le (by omega))]
        have wc : wi c (a.getD i 0) = j := by rw [← wi_congr r.win r.len]; exact w1
        have w2' : j < c.length := by rw [← r.len]; exact w2
        refine ih (i + 1) (less d j) (u ++ [a.getD i 0]) (by omega) (by omega) (by simp only [List.length_append, List.length_cons, List.length_nil]; omega) ⟨?_, fun q => ?_, fun q hq => ?_, fun t ht => ?_, ?_⟩
        · unfold less; rw [List.length_set]; exact r.len
        · rw [ent_less d j q w2]
          by_cases hq : j = q
          · subst hq; rw [if_pos rfl]; exact r.win j
          · rw [if_neg hq]; exact r.win q
        · obtain ⟨l1, l2⟩ := r.left q hq
          rw [ent_less d j q w2, cnt_snoc, wc]
          by_cases hjq : j = q
          · subst hjq; rw [if_pos rfl, if_pos rfl]; simp only; omega
          · rw [if_neg hjq, if_neg (by omega)]; omega
        · rcases List.mem_append.1 ht with ht | ht
          · exact r.here t ht
          · rw [List.mem_singleton.1 ht, wc]; omega
        · rw [sum_less d j w2, if_pos w2', r.sum]
          simp only [List.length_append, List.length_cons, List.length_nil]; omega
    · rw [decide_eq_false (p := (i : Int) < ((a.length : Nat) : Int)) (by omega)]
      exact ⟨d, u, rfl, by omega, r⟩

theorem ffact (m : Nat) : skywaykeep3_flowFact.F (m + 40) = some true := by kernel_rfl

attribute [local irreducible] skywaykeep3_flowFact.F skywaykeep3_FlowUses.l0

theorem FlowUses_plain (k : Nat) (hk : 300 ≤ k) (hf : skywaykeep3_flowFact.F k = some true) (c : Cps) (a : List Int) : skywaykeep3_FlowUses.F k c a = some true := by
  unfold skywaykeep3_FlowUses.F
  rw [hf]
  simp only [Option.bind_some, Bool.not_true, cond_false]
  rcases fcheck_cases k hk c with ⟨g, h⟩ | ⟨⟨e, he, g⟩, _⟩
  · rw [g]
    simp only [Option.bind_some]
    rw [cond_neg (c := (0 : Int) != 0) (by rfl)]
    by_cases h60 : 60 < a.length
    · rw [decide_eq_true (p := ((a.length : Nat) : Int) > 60) (by omega)]; rfl
    rw [decide_eq_false (p := ((a.length : Nat) : Int) > 60) (by omega)]
    simp only [Option.bind_some, cond_false]
    obtain ⟨d, u, h1, h2, r⟩ := uses_loop k hk c h a (by omega) k 0 c [] (by omega) (by omega) (by simp) ⟨rfl, fun _ => rfl, fun j hj => ⟨by simp [cnt], (h.2 j hj).2.2.2.1⟩, fun t ht => by simp at ht, by simp⟩
    rw [show ((0 : Nat) : Int) = 0 from rfl] at h1
    rw [h1]
    simp only [Option.bind_some]
    rw [over_eq k hk c h u h2 r.here (fun j hj => by have := r.left j hj; omega), room_eq k hk c h, room_eq k hk d (r.ok h)]
    simp only [Option.bind_some]
    have b1 := sumN_bounds c h c.length (Nat.le_refl _)
    have b2 := sumN_bounds d (r.ok h) d.length (Nat.le_refl _)
    have hl := h.1
    have e : sumN c c.length - sumN d d.length = u.length := by rw [r.len, r.sum]; omega
    rw [w64_id (n := sumN c c.length - sumN d d.length) (by omega) (by omega), e]
    simp
  · rw [g]
    simp only [Option.bind_some]
    rw [cond_pos (c := e != 0) (by simpa using he)]
    rfl

attribute [local irreducible] skywaykeep3_FlowUses.F
theorem uses_cal (k : Nat) (x : DatPs (skywaykeep3_FlowUses.C 0).ats) : (skywaykeep3_FlowUses.C k).F x = skywaykeep3_FlowUses.F k x.1 x.2 := rfl
theorem FlowUses_law (x : DatPs (skywaykeep3_FlowUses.C 0).ats) (_ : FitPs (skywaykeep3_FlowUses.C 0).ats x) : ∃ k, (skywaykeep3_FlowUses.C k).F x = some true :=
  ⟨300 + 40, (uses_cal _ x).trans (FlowUses_plain (300 + 40) (by omega) (ffact 300) x.1 x.2)⟩

end Go.Proofs.Ytdchminahimfhaa.RT
