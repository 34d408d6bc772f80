/- What is proved here: plain lemmas about departures that wait. They ask nothing. -/
import Derived.Test.YtjppjbgpeiaobaaTaT
import Derived.Test.YtjppjbgpeiaobaaPlA
import Derived.Test.YtjppjbgpeiaobaaStrA
namespace Go.Proofs.Ytjppjbgpeiaobaa.RT
open Go Go.R

/-- A departure: its name, the times of the push, of the holding point and of leaving it. -/
abbrev Mv := ByteArray × Int × Int × Int
/-- The one at place j. -/
def mv (l : List Mv) (j : Nat) : Mv := l.getD j (ByteArray.empty, (0, (0, 0)))
theorem mv_eq (l : List Mv) (j : Nat) : l.getD j (ByteArray.empty, (0, (0, 0))) = mv l j := rfl

/-- Does it wait at a time. -/
def wat (t : Int) (m : Mv) : Bool := decide (m.2.2.1 ≤ t) && decide (t < m.2.2.2)
/-- How many wait. -/
def wn (l : List Mv) (t : Int) : Nat := l.countP (wat t)

theorem wn_cons (m : Mv) (l : List Mv) (t : Int) : wn (m :: l) t = wn l t + (if wat t m = true then 1 else 0) := by
  unfold wn; rw [List.countP_cons]

theorem wn_le (l : List Mv) (t : Int) : wn l t ≤ l.length := List.countP_le_length

theorem wait_loop (k : Nat) (l : List Mv) (hl : l.length ≤ 60) (t : Int) : ∀ (n i c : Nat), i ≤ l.length → l.length - i < n → c ≤ i → taxi_Waiting.l0 k l t n (c, i) = some ((c : Int) + wn (l.drop i) t) := by
  intro n
  induction n with
  | zero => intro i _ _ h; omega
  | succ n ih =>
    intro i c hi hm hc
    rw [taxi_Waiting.l0_succ]
    unfold taxi_Waiting.l0b
    dsimp only
    by_cases hlt : i < l.length
    · have e0 : decide ((i : Int) < ((l.length : Nat) : Int)) = true := decide_eq_true (by omega)
      have e1 : decide (0 ≤ (i : Int)) = true := decide_eq_true (by omega)
      simp only [e0, e1, Bool.and_self, cond_true, getD_nat, mv_eq]
      rw [drop_cons hlt (ByteArray.empty, (0, (0, 0))), wn_cons, mv_eq, w64_id (n := (i : Int) + 1) (by omega) (by omega), w64_id (n := (c : Int) + 1) (by omega) (by omega)]
      have h1 := ih (i + 1) (c + 1) (by omega) (by omega) (by omega)
      have h0 := ih (i + 1) c (by omega) (by omega) (by omega)
      have e2 : ((c + 1 : Nat) : Int) + wn (l.drop (i + 1)) t = (c : Int) + ((wn (l.drop (i + 1)) t + 1 : Nat) : Int) := by omega
      rw [e2] at h1
      unfold wat
      cases h3 : decide ((mv l i).2.2.1 ≤ t) with
      | false => exact h0
      | true =>
        cases h4 : decide (t < (mv l i).2.2.2) with
        | false => exact h0
        | true => exact h1
    · rw [decide_eq_false (p := (i : Int) < ((l.length : Nat) : Int)) (by omega), List.drop_eq_nil_of_le (by omega)]
      simp [wn]

theorem waiting_eq (k : Nat) (hk : 300 ≤ k) (l : List Mv) (hl : l.length ≤ 60) (t : Int) : taxi_Waiting.F k l t = some (wn l t : Int) := by
  unfold taxi_Waiting.F
  have := wait_loop k l hl t k 0 0 (by omega) (by omega) (by omega)
  rw [List.drop_zero, show ((0 : Nat) : Int) = 0 from rfl, Int.zero_add] at this
  exact this

attribute [local irreducible] taxi_Waiting.F

/-- What Most has found among the first i. -/
structure MostAt (l : List Mv) (i : Nat) (m a : Int) : Prop where
  nn : 0 ≤ m
  at' : (m = 0 ∧ a = 0) ∨ (0 < m ∧ (wn l a : Int) = m)
  le : ∀ j, j < i → (wn l (mv l j).2.2.1 : Int) ≤ m

theorem most_loop (k : Nat) (hk : 300 ≤ k) (l : List Mv) (hl : l.length ≤ 60) : ∀ (n i : Nat) (m a : Int), i ≤ l.length → l.length - i < n → MostAt l i m a → ∃ m' a', taxi_Most.l0 k l n (m, a, i) = some (m', a') ∧ MostAt l l.length m' a' := by
  intro n
  induction n with
  | zero => intro i _ _ _ h; omega
  | succ n ih =>
    intro i m a hi hm hM
    rw [taxi_Most.l0_succ]
    unfold taxi_Most.l0b
    dsimp only
    by_cases hlt : i < l.length
    · have e0 : decide ((i : Int) < ((l.length : Nat) : Int)) = true := decide_eq_true (by omega)
      have e1 : decide (0 ≤ (i : Int)) = true := decide_eq_true (by omega)
      simp only [e0, e1, Bool.and_self, cond_true, getD_nat, mv_eq]
      rw [waiting_eq k hk l hl]
      simp only [Option.bind_some]
      rw [w64_id (n := (i : Int) + 1) (by omega) (by omega)]
      have yes : (m < (wn l (mv l i).2.2.1 : Int) ∨ ((wn l (mv l i).2.2.1 : Int) = m ∧ 0 < m)) → ∃ m' a', taxi_Most.l0 k l n ((wn l (mv l i).2.2.1 : Int), (mv l i).2.2.1, ((i + 1 : Nat) : Int)) = some (m', a') ∧ MostAt l l.length m' a' := fun hc => by
        have := hM.nn
        refine ih (i + 1) _ _ (by omega) (by omega) ⟨by omega, .inr ⟨by omega, rfl⟩, fun j hj => ?_⟩
        rcases Nat.lt_or_ge j i with h | h
        · have := hM.le j h; omega
        · rw [show j = i by omega]; exact Int.le_refl _
      have no : (wn l (mv l i).2.2.1 : Int) ≤ m → ∃ m' a', taxi_Most.l0 k l n (m, a, ((i + 1 : Nat) : Int)) = some (m', a') ∧ MostAt l l.length m' a' := fun hc => by
        refine ih (i + 1) _ _ (by omega) (by omega) ⟨hM.nn, hM.at', fun j hj => ?_⟩
        rcases Nat.lt_or_ge j i with h | h
        · exact hM.le j h
        · rw [show j = i by omega]; exact hc
      by_cases c1 : (wn l (mv l i).2.2.1 : Int) > m
      · rw [decide_eq_true c1]; exact yes (.inl c1)
      · rw [decide_eq_false c1]
        by_cases c2 : (wn l (mv l i).2.2.1 : Int) = m
        · rw [cond_pos (c := (wn l (mv l i).2.2.1 : Int) == m) (by simpa using c2)]
          by_cases c3 : (wn l (mv l i).2.2.1 : Int) > 0
          · rw [decide_eq_true c3]
            by_cases c4 : (mv l i).2.2.1 < a
            · rw [decide_eq_true c4]; exact yes (.inr ⟨c2, by omega⟩)
            · rw [decide_eq_false c4]; exact no (by omega)
          · rw [decide_eq_false c3]; exact no (by omega)
        · rw [cond_neg (c := (wn l (mv l i).2.2.1 : Int) == m) (by simpa using c2)]; exact no (by omega)
    · rw [decide_eq_false (p := (i : Int) < ((l.length : Nat) : Int)) (by omega)]
      have : i = l.length := by omega
      subst this
      exact ⟨m, a, rfl, hM⟩

/-- Whoever waits at a time: as many wait where the last of them came. -/
theorem wn_peak (l : List Mv) (t : Int) : wn l t = 0 ∨ ∃ j, j < l.length ∧ wn l t ≤ wn l (mv l j).2.2.1 := by
  have key : ∀ s : List Mv, (∀ x ∈ s, wat t x = false) ∨ ∃ m ∈ s, wat t m = true ∧ ∀ x ∈ s, wat t x = true → x.2.2.1 ≤ m.2.2.1 := by
    intro s
    induction s with
    | nil => exact .inl (by simp)
    | cons y s ih =>
      cases hy : wat t y with
      | false =>
        rcases ih with h | ⟨m, h1, h2, h3⟩
        · exact .inl (fun x hx => by rcases List.mem_cons.1 hx with rfl | hx; exact hy; exact h x hx)
        · exact .inr ⟨m, List.mem_cons_of_mem _ h1, h2, fun x hx hw => by rcases List.mem_cons.1 hx with rfl | hx; rw [hy] at hw; cases hw; exact h3 x hx hw⟩
      | true =>
        rcases ih with h | ⟨m, h1, h2, h3⟩
        · exact .inr ⟨y, List.mem_cons_self .., hy, fun x hx hw => by rcases List.mem_cons.1 hx with rfl | hx; exact Int.le_refl _; rw [h x hx] at hw; cases hw⟩
        · by_cases hc : m.2.2.1 ≤ y.2.2.1
          · exact .inr ⟨y, List.mem_cons_self .., hy, fun x hx hw => by rcases List.mem_cons.1 hx with rfl | hx; exact Int.le_refl _; exact Int.le_trans (h3 x hx hw) hc⟩
          · exact .inr ⟨m, List.mem_cons_of_mem _ h1, h2, fun x hx hw => by rcases List.mem_cons.1 hx with rfl | hx; omega; exact h3 x hx hw⟩
  rcases key l with h | ⟨m, h1, h2, h3⟩
  · exact .inl (List.countP_eq_zero.2 fun x hx => by rw [h x hx]; simp)
  · obtain ⟨j, hj, rfl⟩ := List.getElem_of_mem h1
    have em : mv l j = l[j] := by unfold mv; simp [List.getD, hj]
    refine .inr ⟨j, hj, ?_⟩
    rw [em]
    refine List.countP_mono_left fun x hx hw => ?_
    have := h3 x hx hw
    unfold wat at hw h2 ⊢
    simp only [Bool.and_eq_true, decide_eq_true_eq] at hw h2 ⊢
    omega

theorem most_eq (k : Nat) (hk : 300 ≤ k) (l : List Mv) (hl : l.length ≤ 60) : ∃ m a, taxi_Most.F k l = some (m, a) ∧ 0 ≤ m ∧ ((m = 0 ∧ a = 0) ∨ (0 < m ∧ (wn l a : Int) = m)) ∧ ∀ t, (wn l t : Int) ≤ m := by
  unfold taxi_Most.F
  obtain ⟨m, a, h1, h2⟩ := most_loop k hk l hl k 0 0 0 (by omega) (by omega) ⟨by omega, .inl ⟨rfl, rfl⟩, fun j hj => by omega⟩
  refine ⟨m, a, h1, h2.nn, h2.at', fun t => ?_⟩
  have := h2.nn
  rcases wn_peak l t with h | ⟨j, hj, h⟩
  · rw [h]; omega
  · have := h2.le j hj
    omega

attribute [local irreducible] taxi_Most.F skywaykeep3_taxiFact.F

theorem TaxiFrees_plain (k : Nat) (hk : 300 ≤ k) (hf : skywaykeep3_taxiFact.F k = some true) (l : List Mv) (t : Int) : skywaykeep3_TaxiFrees.F k l t = some true := by
  unfold skywaykeep3_TaxiFrees.F
  rw [hf]
  simp only [Option.bind_some, Bool.not_true, cond_false]
  by_cases hl : 60 < l.length
  · rw [decide_eq_true (p := ((l.length : Nat) : Int) > 60) (by omega)]; rfl
  rw [decide_eq_false (p := ((l.length : Nat) : Int) > 60) (by omega)]
  obtain ⟨m, a, h1, h2, h3, h4⟩ := most_eq k hk l (by omega)
  rw [h1]
  simp only [Option.bind_some, cond_false]
  rw [waiting_eq k hk l (by omega)]
  simp only [Option.bind_some]
  have := h4 t
  rw [decide_eq_false (p := (wn l t : Int) > m) (by omega), decide_eq_false (p := m < 0) (by omega)]
  simp only [cond_false, Option.bind_some]
  rcases h3 with ⟨rfl, rfl⟩ | ⟨h5, h6⟩
  · rfl
  · rw [cond_neg (c := m == 0) (by simp; omega)]
    simp only [Option.bind_some, cond_false]
    rw [waiting_eq k hk l (by omega), h6]
    simp

end Go.Proofs.Ytjppjbgpeiaobaa.RT
