/- What is proved here: plain laws of the functions of package wake, and the laws WakePasses and WakeShifts. They ask nothing. -/
import Derived.Test.YtdchminahimfhaaWkT
import Derived.Test.YtdchminahimfhaaPlA
namespace Go.Proofs.Ytdchminahimfhaa.RT
open Go Go.R

abbrev Tab := (Int × Int × Int × Int) × (Int × Int × Int × Int) × (Int × Int × Int × Int) × Int × Int × Int × Int
def flat (t : Tab) : List Int := [t.1.1, t.1.2.1, t.1.2.2.1, t.1.2.2.2, t.2.1.1, t.2.1.2.1, t.2.1.2.2.1, t.2.1.2.2.2, t.2.2.1.1, t.2.2.1.2.1, t.2.2.1.2.2.1, t.2.2.1.2.2.2, t.2.2.2.1, t.2.2.2.2.1, t.2.2.2.2.2.1, t.2.2.2.2.2.2]
def tab (t : Tab) (i j : Int) : Int := (flat t).getD (0 + i.toNat * 4 + j.toNat * 1) 0

def chk1 : List Int → Option (Unit ⊕ Int) → Option (Unit ⊕ Int)
  | [], r => r
  | x :: l, r => (bif decide (x < 30) then some true else some (decide (x > 600))).bind fun b => bif b then Option.map .inr (some 4) else chk1 l r
def chk3 (t : Tab) : List (Int × Int × Int) → Option Int
  | [] => some 0
  | (a, b, c) :: l => bif decide (tab t a c > w64 (tab t a b + tab t b c)) then some 3 else chk3 t l
def trips : List (Int × Int × Int) := [0, 1, 2, 3].flatMap fun a => [0, 1, 2, 3].flatMap fun b => [0, 1, 2, 3].map fun c => (a, b, c)

theorem wcheck_eq (m : Nat) (t : Tab) : wake_Check.F (m + 5) t = (chk1 (flat t) (some (.inl ()))).bind fun y => match y with | .inl _ => chk3 t trips | .inr e => some e := by kernel_rfl

theorem chk1_eq (l : List Int) : chk1 l (some (.inl ())) = some (.inl ()) ∧ (∀ x ∈ l, 30 ≤ x ∧ x ≤ 600) ∨ chk1 l (some (.inl ())) = some (.inr 4) := by
  induction l with
  | nil => left; simp [chk1]
  | cons x l ih =>
    simp only [chk1]
    by_cases h : x < 30
    · right; simp [h]
    · by_cases h' : x > 600
      · right; simp [h, h']
      · simp only [h, h', decide_false, cond_false, Option.bind_some]
        rcases ih with ⟨h1, h2⟩ | h1
        · left
          refine ⟨h1, fun y hy => ?_⟩
          rcases List.mem_cons.1 hy with rfl | hy
          · omega
          · exact h2 y hy
        · right; exact h1

theorem chk3_eq (t : Tab) (l : List (Int × Int × Int)) : chk3 t l = some 0 ∧ (∀ p ∈ l, tab t p.1 p.2.2 ≤ w64 (tab t p.1 p.2.1 + tab t p.2.1 p.2.2)) ∨ chk3 t l = some 3 := by
  induction l with
  | nil => left; simp [chk3]
  | cons p l ih =>
    obtain ⟨a, b, c⟩ := p
    simp only [chk3]
    by_cases h : tab t a c > w64 (tab t a b + tab t b c)
    · right; simp [h]
    · simp only [h, decide_false, cond_false]
      rcases ih with ⟨h1, h2⟩ | h1
      · left
        refine ⟨h1, fun y hy => ?_⟩
        rcases List.mem_cons.1 hy with rfl | hy
        · exact Int.not_lt.1 h
        · exact h2 y hy
      · right; exact h1

/-- A table that is in order. -/
structure TabOk (t : Tab) : Prop where
  least : ∀ i j : Int, 0 ≤ i → i ≤ 3 → 0 ≤ j → j ≤ 3 → 30 ≤ tab t i j ∧ tab t i j ≤ 600
  tri : ∀ a b c : Int, 0 ≤ a → a ≤ 3 → 0 ≤ b → b ≤ 3 → 0 ≤ c → c ≤ 3 → tab t a c ≤ tab t a b + tab t b c

theorem four {i : Int} (h0 : 0 ≤ i) (h1 : i ≤ 3) : i = 0 ∨ i = 1 ∨ i = 2 ∨ i = 3 := by omega

theorem wcheck_cases (m : Nat) (t : Tab) : (wake_Check.F (m + 5) t = some 0 ∧ TabOk t) ∨ ∃ e, e ≠ 0 ∧ wake_Check.F (m + 5) t = some e := by
  rw [wcheck_eq]
  rcases chk1_eq (flat t) with ⟨h1, h2⟩ | h1
  · rw [h1]
    simp only [Option.bind_some]
    rcases chk3_eq t trips with ⟨h3, h4⟩ | h3
    · left
      have hl : ∀ i j : Int, 0 ≤ i → i ≤ 3 → 0 ≤ j → j ≤ 3 → 30 ≤ tab t i j ∧ tab t i j ≤ 600 := fun i j i0 i3 j0 j3 => by
        refine h2 _ ?_
        rcases four i0 i3 with rfl | rfl | rfl | rfl <;> rcases four j0 j3 with rfl | rfl | rfl | rfl <;> simp [tab, flat]
      refine ⟨h3, hl, fun a b c a0 a3 b0 b3 c0 c3 => ?_⟩
      have := h4 (a, b, c) (by rcases four a0 a3 with rfl | rfl | rfl | rfl <;> rcases four b0 b3 with rfl | rfl | rfl | rfl <;> rcases four c0 c3 with rfl | rfl | rfl | rfl <;> simp [trips])
      have k1 := hl a b a0 a3 b0 b3
      have k2 := hl b c b0 b3 c0 c3
      simp only at this
      rwa [w64_id (by omega) (by omega)] at this
    · exact .inr ⟨3, by omega, h3⟩
  · rw [h1]
    exact .inr ⟨4, by omega, rfl⟩

theorem class_eq (k : Nat) (n : Int) : wake_Class.F k n = some (if n < 0 ∨ 3 < n then 1 else 0) := by
  unfold wake_Class.F
  simp only [cond_some, Option.bind_some, Bool.cond_true_left]
  simp only [cond_if, Bool.or_eq_true, decide_eq_true_eq, gt_iff_lt]

def cls (n : Int) : Prop := 0 ≤ n ∧ n ≤ 3
instance (n : Int) : Decidable (cls n) := inferInstanceAs (Decidable (_ ∧ _))

/-- The required time along a list. -/
def leastL (t : Tab) : Option Int → List Int → Int → Int × Int
  | _, [], s => (s, 0)
  | p, n :: r, s => if cls n then leastL t (some n) r (match p with | none => s | some q => s + tab t q n) else (0, 1)

theorem class_pos {k : Nat} {n : Int} (h : cls n) : wake_Class.F k n = some 0 := by
  rw [class_eq, if_neg (by unfold cls at h; omega)]
theorem class_neg {k : Nat} {n : Int} (h : ¬ cls n) : wake_Class.F k n = some 1 := by
  rw [class_eq, if_pos (by unfold cls at h; omega)]

/-- What stands before place i. -/
def prevOf (l : List Int) (i : Nat) : Option Int := if i = 0 then none else some (l.getD (i - 1) 0)

theorem tab_in {x y : Int} (hx : cls x) (hy : cls y) : decide (0 + x.toNat * 4 + y.toNat * 1 < 16) = true := by
  unfold cls at hx hy
  exact decide_eq_true (by omega)

theorem least_loop (k : Nat) (t : Tab) (ht : TabOk t) (l : List Int) (hl : l.length ≤ 256) : ∀ (n i : Nat) (s : Int), i ≤ l.length → (∀ j, j < i → cls (l.getD j 0)) → 0 ≤ s → s ≤ 600 * i → l.length - i < n →
    wake_Least.l0 k t l n (s, i) = some (leastL t (prevOf l i) (l.drop i) s) := by
  intro n
  induction n with
  | zero => intro i s _ _ _ _ h; omega
  | succ n ih =>
    intro i s hi hp h0 hs hn
    rw [wake_Least.l0_succ]
    unfold wake_Least.l0b
    dsimp only
    by_cases hlt : i < l.length
    · rw [cond_pos (decide_eq_true (by omega)), cond_pos (inIdx (by omega) (by omega)), getD_nat, drop_cons hlt 0]
      simp only [leastL]
      by_cases hc : cls (l.getD i 0)
      · rw [class_pos hc, if_pos hc]
        simp only [Option.bind_some]
        rw [cond_neg (by rfl)]
        by_cases hz : i = 0
        · subst hz
          rw [cond_neg (decide_eq_false (by omega)), w64_id (by omega) (by omega)]
          have := ih 1 s (by omega) (fun j hj => by have : j = 0 := (by omega); subst this; exact hc) h0 (by omega) (by omega)
          simpa [prevOf] using this
        · rw [cond_pos (decide_eq_true (by omega)), w64_id (n := (i : Int) - 1) (by omega) (by omega), cond_pos (inIdx (by omega) (by omega)), show ((i : Int) - 1).toNat = i - 1 by omega]
          have hp' := hp (i - 1) (by omega)
          rw [cond_pos (inIdx hp'.1 (by have := hp'.2; omega)), cond_pos (inIdx hc.1 (by have := hc.2; omega)), cond_pos (tab_in hp' hc)]
          have hb := ht.least _ _ hp'.1 hp'.2 hc.1 hc.2
          have e : w64 (s + tab t (l.getD (i - 1) 0) (l.getD i 0)) = s + tab t (l.getD (i - 1) 0) (l.getD i 0) := w64_id (by omega) (by omega)
          have e2 : w64 ((i : Int) + 1) = ((i + 1 : Nat) : Int) := w64_id (by omega) (by omega)
          have := ih (i + 1) (s + tab t (l.getD (i - 1) 0) (l.getD i 0)) (by omega) (fun j hj => by
            rcases Nat.lt_or_ge j i with h | h
            · exact hp j h
            · have : j = i := by omega
              subst this; exact hc) (by omega) (by omega) (by omega)
          rw [e2]
          show wake_Least.l0 k t l n (w64 (s + tab t (l.getD (i - 1) 0) (l.getD i 0)), _) = _
          rw [e, this]
          simp [prevOf, hz]
      · rw [class_neg hc, if_neg hc]
        rfl
    · rw [cond_neg (decide_eq_false (by omega)), List.drop_eq_nil_of_le (by omega)]
      rfl

theorem least_eq (m : Nat) (t : Tab) (ht : wake_Check.F (m + 5) t = some 0) (hok : TabOk t) (l : List Int) (hl : l.length ≤ 256) (hm : l.length < m + 5) : wake_Least.F (m + 5) t l = some (leastL t none l 0) := by
  unfold wake_Least.F
  rw [ht]
  simp only [Option.bind_some]
  rw [cond_neg (by rfl), cond_neg (decide_eq_false (by omega))]
  have := least_loop (m + 5) t hok l hl (m + 5) 0 0 (by omega) (fun j hj => by omega) (by omega) (by omega) (by omega)
  simpa [prevOf] using this

/-- The sum is at least the gap from where one came to the last one, and grows by one more. -/
theorem leastL_facts (t : Tab) (ht : TabOk t) : ∀ (l : List Int) (q s : Int), cls q → ((leastL t (some q) l s).2 = 0 ∧ (∀ n ∈ l, cls n) ∧ (leastL t (some q) l s).1 = s + (leastL t (some q) l 0).1 ∧ (l = [] ∨ tab t q (l.getLastD q) ≤ (leastL t (some q) l 0).1) ∧ 0 ≤ (leastL t (some q) l 0).1 ∧ (leastL t (some q) l 0).1 ≤ 600 * l.length) ∨ (leastL t (some q) l s = (0, 1) ∧ ∃ n ∈ l, ¬ cls n) := by
  intro l
  induction l with
  | nil => intro q s hq; left; simp [leastL]
  | cons n r ih =>
    intro q s hq
    simp only [leastL]
    by_cases hc : cls n
    · rw [if_pos hc, if_pos hc]
      have hb := ht.least q n hq.1 hq.2 hc.1 hc.2
      rcases ih n (s + tab t q n) hc with ⟨h1, h2, h3, h4, h5, h6⟩ | ⟨h1, h2⟩
      · left
        rcases ih n (0 + tab t q n) hc with ⟨_, _, g3, _⟩ | ⟨_, x, hx, hx'⟩
        · refine ⟨h1, fun x hx => ?_, by rw [h3, g3]; omega, .inr ?_, by rw [g3]; omega, by rw [g3]; simp only [List.length_cons]; omega⟩
          · rcases List.mem_cons.1 hx with rfl | hx
            · exact hc
            · exact h2 x hx
          · rw [g3]
            cases r with
            | nil => simp [leastL, List.getLastD]
            | cons y r' =>
              rcases h4 with h4 | h4
              · cases h4
              · have e : (n :: y :: r').getLastD q = (y :: r').getLastD n := by simp [List.getLastD]
                have hl : cls ((y :: r').getLastD n) := by
                  have : (y :: r').getLastD n ∈ y :: r' := by
                    rw [List.getLastD_eq_getLast?, List.getLast?_eq_some_getLast (by simp), Option.getD_some]
                    exact List.getLast_mem _
                  exact h2 _ this
                rw [e]
                have := ht.tri q n ((y :: r').getLastD n) hq.1 hq.2 hc.1 hc.2 hl.1 hl.2
                omega
        · exact absurd (h2 x hx) hx'
      · right
        exact ⟨h1, let ⟨x, hx, hx'⟩ := h2; ⟨x, List.mem_cons_of_mem _ hx, hx'⟩⟩
    · rw [if_neg hc]
      exact .inr ⟨rfl, n, by simp, hc⟩

theorem leastL_snoc (t : Tab) (c : Int) : ∀ (l : List Int) (q s : Int), (∀ n ∈ l, cls n) → leastL t (some q) (l ++ [c]) s = if cls c then ((leastL t (some q) l s).1 + tab t (l.getLastD q) c, 0) else (0, 1) := by
  intro l
  induction l with
  | nil => intro q s _; simp only [List.nil_append, leastL, List.getLastD]
  | cons n r ih =>
    intro q s h
    have hc := h n (by simp)
    simp only [List.cons_append, leastL, if_pos hc]
    rw [ih n _ (fun x hx => h x (List.mem_cons_of_mem _ hx))]
    have e : (n :: r).getLastD q = r.getLastD n := by cases r <;> simp [List.getLastD]
    rw [e]

theorem clone_int (k : Nat) (l : List Int) (h : l.length * 8 ≤ 140737488351232) : slices_Clone_int.F k l = some l := by
  unfold slices_Clone_int.F
  rw [cond_pos (Nat.ble_eq_true_of_le (by omega)), List.nil_append]

theorem wfact (m : Nat) : skywaykeep3_wakeFact.F (m + 20) = some true := by kernel_rfl

theorem gap_eq (k : Nat) (t : Tab) (ht : wake_Check.F k t = some 0) (a b : Int) (ha : cls a) (hb : cls b) : wake_Gap.F k t a b = some (tab t a b, 0) := by
  unfold wake_Gap.F
  rw [ht, class_pos ha, class_pos hb]
  simp only [Option.bind_some]
  rw [cond_neg (by rfl), cond_neg (by rfl), cond_neg (by rfl), cond_pos (inIdx ha.1 (by have := ha.2; omega)), cond_pos (inIdx hb.1 (by have := hb.2; omega)), cond_pos (tab_in ha hb)]
  rfl

theorem gap_bad (k : Nat) (t : Tab) (e : Int) (he : e ≠ 0) (ht : wake_Check.F k t = some e) (a b : Int) : wake_Gap.F k t a b = some (0, e) := by
  unfold wake_Gap.F
  rw [ht]
  simp only [Option.bind_some]
  rw [cond_pos (by simpa using he)]

theorem gap_some (k : Nat) (t : Tab) (ht : wake_Check.F k t = some 0) (a b : Int) : ∃ y, wake_Gap.F k t a b = some y := by
  by_cases ha : cls a
  · by_cases hb : cls b
    · exact ⟨_, gap_eq k t ht a b ha hb⟩
    · unfold wake_Gap.F
      rw [ht, class_pos ha, class_neg hb]
      exact ⟨_, rfl⟩
  · unfold wake_Gap.F
    rw [ht, class_neg ha]
    exact ⟨_, rfl⟩

theorem least_bad (k : Nat) (t : Tab) (e : Int) (he : e ≠ 0) (ht : wake_Check.F k t = some e) (l : List Int) : wake_Least.F k t l = some (0, e) := by
  unfold wake_Least.F
  rw [ht]
  simp only [Option.bind_some]
  rw [cond_pos (by simpa using he)]

end Go.Proofs.Ytdchminahimfhaa.RT
