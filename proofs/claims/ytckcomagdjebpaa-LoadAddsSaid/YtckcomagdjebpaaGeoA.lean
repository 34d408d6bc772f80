/- What is proved here: the geometry of polygons and volumes is always told. It asks nothing. -/
import Derived.Test.YtckcomagdjebpaaLdT
import Derived.Test.YtckcomagdjebpaaTubA
import Derived.Test.YtckcomagdjebpaaNameA
namespace Go.Proofs.Ytckcomagdjebpaa.RT
open Go Go.R

attribute [local irreducible] plane_Check.F

abbrev Pt := Int × Int

theorem modIdx {a : Int} {n : Nat} (hn : 0 < n) (ha : 0 ≤ a) : (decide (0 ≤ Int.tmod a ((n : Nat) : Int)) && decide (Int.tmod a ((n : Nat) : Int) < ((n : Nat) : Int))) = true := by
  rw [decide_eq_true (Int.tmod_nonneg _ ha), decide_eq_true (Int.tmod_lt_of_pos _ (by omega))]; rfl
theorem nz {n : Nat} (hn : 0 < n) : (((n : Nat) : Int) != 0) = true := by simp; omega

theorem turn_tot (k : Nat) (a b c : Pt) : ∃ t, plane_Turn.F k a b c = some t := by
  unfold plane_Turn.F plane_Sub.F plane_Cross.F
  simp only [Option.bind_some, cond_some]
  exact ⟨_, rfl⟩
theorem on_tot (k : Nat) (a b c : Pt) : ∃ t, polygon_on.F k a b c = some t := by
  unfold polygon_on.F plane_Sub.F plane_Dot.F
  exact ⟨_, rfl⟩

attribute [local irreducible] plane_Turn.F polygon_on.F

theorem common_tot (k : Nat) (a b c d : Pt) : ∃ t, polygon_Common.F k a b c d = some t := by
  unfold polygon_Common.F
  obtain ⟨t1, h1⟩ := turn_tot k a b c
  obtain ⟨t2, h2⟩ := turn_tot k a b d
  obtain ⟨t3, h3⟩ := turn_tot k c d a
  obtain ⟨t4, h4⟩ := turn_tot k c d b
  obtain ⟨o1, g1⟩ := on_tot k a b c
  obtain ⟨o2, g2⟩ := on_tot k a b d
  obtain ⟨o3, g3⟩ := on_tot k c d a
  obtain ⟨o4, g4⟩ := on_tot k c d b
  rw [h1, h2, h3, h4, g1, g2, g3, g4]
  simp only [Option.bind_some, cond_some]
  exact ⟨_, rfl⟩
theorem crosses_tot (k : Nat) (a b c d : Pt) : ∃ t, polygon_crosses.F k a b c d = some t := by
  unfold polygon_crosses.F
  obtain ⟨t1, h1⟩ := turn_tot k a b c
  obtain ⟨t2, h2⟩ := turn_tot k a b d
  obtain ⟨t3, h3⟩ := turn_tot k c d a
  obtain ⟨t4, h4⟩ := turn_tot k c d b
  rw [h1, h2, h3, h4]
  simp only [Option.bind_some, cond_some]
  exact ⟨_, rfl⟩

attribute [local irreducible] polygon_Common.F polygon_crosses.F

theorem double_loop (k : Nat) (p : List Pt) (hp : p.length ≤ 1000) : ∀ (n i : Nat) (s : Int), i ≤ p.length → p.length - i < n → ∃ r, polygon_double.l0 k p n (s, i) = some r := by
  intro n
  induction n with
  | zero => intro i _ _ h; omega
  | succ n ih =>
    intro i s hi hn
    rw [polygon_double.l0_succ]
    unfold polygon_double.l0b plane_Cross.F
    dsimp only
    rw [show w64 ((i : Int) + 1) = ((i + 1 : Nat) : Int) from w64_id (by omega) (by omega)]
    by_cases hlt : i < p.length
    · rw [decide_eq_true (p := (i : Int) < ((p.length : Nat) : Int)) (by omega), decide_eq_true (p := 0 ≤ (i : Int)) (by omega), nz (by omega), modIdx (by omega) (by omega)]
      simp only [Bool.and_self, cond_true, Option.bind_some]
      exact ih (i + 1) _ (by omega) (by omega)
    · rw [decide_eq_false (p := (i : Int) < ((p.length : Nat) : Int)) (by omega)]
      exact ⟨s, rfl⟩
theorem double_tot (k : Nat) (hk : 2000 ≤ k) (p : List Pt) (hp : p.length ≤ 1000) : ∃ r, polygon_double.F k p = some r := by
  unfold polygon_double.F
  exact double_loop k p hp k 0 0 (by omega) (by omega)

attribute [local irreducible] polygon_double.F

theorem pol_l0 (k : Nat) (p : List Pt) (hp : p.length ≤ 1000) : ∀ (n i : Nat), i ≤ p.length → p.length - i < n → ∃ r, polygon_Check.l0 k p n i = some r := by
  intro n
  induction n with
  | zero => intro i _ h; omega
  | succ n ih =>
    intro i hi hn
    rw [polygon_Check.l0_succ]
    unfold polygon_Check.l0b
    by_cases hlt : i < p.length
    · rw [decide_eq_true (p := (i : Int) < ((p.length : Nat) : Int)) (by omega), decide_eq_true (p := 0 ≤ (i : Int)) (by omega), pchk_eq, show w64 ((i : Int) + 1) = ((i + 1 : Nat) : Int) from w64_id (by omega) (by omega)]
      simp only [Bool.and_self, cond_true, Option.bind_some]
      split
      · rw [cond_neg (c := (0 : Int) != 0) (by rfl)]; exact ih (i + 1) (by omega) (by omega)
      · exact ⟨_, rfl⟩
    · rw [decide_eq_false (p := (i : Int) < ((p.length : Nat) : Int)) (by omega)]
      exact ⟨_, rfl⟩

theorem pol_l1 (k : Nat) (p : List Pt) (hp : p.length ≤ 1000) (j : Nat) (hj : j < p.length) {self7 : Int → Option (Unit ⊕ Int)} (h7 : ∃ y, self7 (w64 ((j : Int) + 1)) = some y) : ∀ (n i : Nat), j + 2 ≤ i → i ≤ p.length + 1 → p.length + 1 - i < n → ∃ r, polygon_Check.l1 k p j self7 n i = some r := by
  intro n
  induction n with
  | zero => intro i _ _ h; omega
  | succ n ih =>
    intro i hji hi hn
    rw [polygon_Check.l1_succ]
    unfold polygon_Check.l1b
    by_cases hlt : i < p.length
    · rw [decide_eq_true (p := (i : Int) < ((p.length : Nat) : Int)) (by omega), decide_eq_true (p := 0 ≤ (i : Int)) (by omega), show w64 ((i : Int) + 1) = ((i + 1 : Nat) : Int) from w64_id (by omega) (by omega), show w64 ((j : Int) + 1) = ((j + 1 : Nat) : Int) from w64_id (by omega) (by omega), nz (by omega), modIdx (by omega) (by omega), inIdx (n := p.length) (i := (j : Int)) (by omega) (by omega), inIdx (n := p.length) (i := ((j + 1 : Nat) : Int)) (by omega) (by omega)]
      obtain ⟨c, hc⟩ := common_tot k (p.getD ((j : Int)).toNat (0, 0)) (p.getD (((j + 1 : Nat) : Int)).toNat (0, 0)) (p.getD ((i : Int)).toNat (0, 0)) (p.getD (Int.tmod ((i + 1 : Nat) : Int) ((p.length : Nat) : Int)).toNat (0, 0))
      rw [hc]
      simp only [Bool.and_self, cond_true, Option.bind_some, cond_some]
      have hi2 := ih (i + 1) (by omega) (by omega) (by omega)
      cases (Int.tmod ((i + 1 : Nat) : Int) ((p.length : Nat) : Int) != (j : Int)) with
      | true =>
        cases c with
        | true => exact ⟨_, rfl⟩
        | false => exact hi2
      | false => exact hi2
    · rw [decide_eq_false (p := (i : Int) < ((p.length : Nat) : Int)) (by omega)]
      exact h7

theorem pol_l2 (k : Nat) (hk : 2000 ≤ k) (p : List Pt) (hp : p.length ≤ 1000) : ∀ (n i : Nat), i ≤ p.length → p.length - i < n → ∃ r, polygon_Check.l2 k p n i = some r := by
  intro n
  induction n with
  | zero => intro i _ h; omega
  | succ n ih =>
    intro i hi hn
    rw [polygon_Check.l2_succ]
    unfold polygon_Check.l2b
    by_cases hlt : i < p.length
    · rw [decide_eq_true (p := (i : Int) < ((p.length : Nat) : Int)) (by omega), decide_eq_true (p := 0 ≤ (i : Int)) (by omega), show w64 ((i : Int) + 1) = ((i + 1 : Nat) : Int) from w64_id (by omega) (by omega), show w64 ((i : Int) + 2) = ((i + 2 : Nat) : Int) from w64_id (by omega) (by omega), nz (by omega), modIdx (by omega) (by omega), modIdx (by omega) (by omega)]
      obtain ⟨c, hc⟩ := turn_tot k (p.getD ((i : Int)).toNat (0, 0)) (p.getD (Int.tmod ((i + 1 : Nat) : Int) ((p.length : Nat) : Int)).toNat (0, 0)) (p.getD (Int.tmod ((i + 2 : Nat) : Int) ((p.length : Nat) : Int)).toNat (0, 0))
      rw [hc]
      simp only [Bool.and_self, cond_true, Option.bind_some]
      cases (c == 0) with
      | true => exact ⟨_, rfl⟩
      | false =>
        refine pol_l1 k p hp i hlt ?_ k (i + 2) (by omega) (by omega) (by omega)
        rw [show w64 ((i : Int) + 1) = ((i + 1 : Nat) : Int) from w64_id (by omega) (by omega)]
        exact ih (i + 1) (by omega) (by omega)
    · rw [decide_eq_false (p := (i : Int) < ((p.length : Nat) : Int)) (by omega)]
      exact ⟨_, rfl⟩

/-- The check of a polygon. -/
theorem pol_eq (k : Nat) (hk : 2000 ≤ k) (p : List Pt) : ∃ e, polygon_Check.F k p = some e ∧ (e = 0 → 3 ≤ p.length ∧ p.length ≤ 16) := by
  unfold polygon_Check.F
  by_cases h1 : ((p.length : Nat) : Int) > 16
  · rw [decide_eq_true h1]; exact ⟨2, rfl, fun h => absurd h (by decide)⟩
  rw [decide_eq_false h1]
  by_cases h2 : ((p.length : Nat) : Int) < 3
  · rw [decide_eq_true h2]; exact ⟨3, rfl, fun h => absurd h (by decide)⟩
  rw [decide_eq_false h2]
  have hl : 3 ≤ p.length ∧ p.length ≤ 16 := by omega
  obtain ⟨y, hy⟩ := pol_l0 k p (by omega) k 0 (by omega) (by omega)
  obtain ⟨z, hz⟩ := pol_l2 k hk p (by omega) k 0 (by omega) (by omega)
  obtain ⟨d, hd⟩ := double_tot k hk p (by omega)
  rw [show ((0 : Nat) : Int) = 0 from rfl] at hy hz
  rw [hy, hz, hd]
  simp only [cond_false, Option.bind_some]
  cases y with
  | inr e => exact ⟨e, rfl, fun _ => hl⟩
  | inl u =>
    cases z with
    | inr e => exact ⟨e, rfl, fun _ => hl⟩
    | inl u =>
      simp only [cond_some]
      exact ⟨_, rfl, fun _ => hl⟩

attribute [local irreducible] polygon_Check.F

theorem loc_loop (k : Nat) (p : List Pt) (hp : p.length ≤ 1000) (q : Pt) : ∀ (n i : Nat) (s : Int), i ≤ p.length → p.length - i < n → ∃ r, polygon_locate.l0 k p q n (s, i) = some r := by
  intro n
  induction n with
  | zero => intro i _ _ h; omega
  | succ n ih =>
    intro i s hi hn
    rw [polygon_locate.l0_succ]
    unfold polygon_locate.l0b
    dsimp only
    by_cases hlt : i < p.length
    · rw [decide_eq_true (p := (i : Int) < ((p.length : Nat) : Int)) (by omega), decide_eq_true (p := 0 ≤ (i : Int)) (by omega), show w64 ((i : Int) + 1) = ((i + 1 : Nat) : Int) from w64_id (by omega) (by omega), show w64 (w64 ((i : Int) + ((p.length : Nat) : Int)) - 1) = ((i + p.length - 1 : Nat) : Int) by rw [w64_id (n := (i : Int) + ((p.length : Nat) : Int)) (by omega) (by omega), w64_id (by omega) (by omega)]; omega, nz (by omega), modIdx (by omega) (by omega)]
      obtain ⟨c, hc⟩ := turn_tot k (p.getD (Int.tmod ((i + p.length - 1 : Nat) : Int) ((p.length : Nat) : Int)).toNat (0, 0)) (p.getD ((i : Int)).toNat (0, 0)) q
      obtain ⟨o, ho⟩ := on_tot k (p.getD (Int.tmod ((i + p.length - 1 : Nat) : Int) ((p.length : Nat) : Int)).toNat (0, 0)) (p.getD ((i : Int)).toNat (0, 0)) q
      rw [hc]
      simp only [Bool.and_self, cond_true, Option.bind_some]
      rw [ho]
      simp only [cond_some, Option.bind_some]
      generalize (bif c == 0 then o else false) = b
      cases b with
      | true => exact ⟨_, rfl⟩
      | false =>
        simp only [cond_false]
        generalize (bif (bif (bif _ then _ else _) then _ else _) then true else _) = b2
        cases b2 with
        | true => exact ih (i + 1) _ (by omega) (by omega)
        | false => exact ih (i + 1) _ (by omega) (by omega)
    · rw [decide_eq_false (p := (i : Int) < ((p.length : Nat) : Int)) (by omega)]
      exact ⟨s, rfl⟩
theorem loc_tot (k : Nat) (hk : 2000 ≤ k) (p : List Pt) (hp : p.length ≤ 1000) (q : Pt) : ∃ r, polygon_locate.F k p q = some r := by
  unfold polygon_locate.F
  exact loc_loop k p hp q k 0 (-1) (by omega) (by omega)

attribute [local irreducible] polygon_locate.F

theorem scaled_loop (k : Nat) (p : List Pt) (hp : p.length ≤ 1000) (m : Int) : ∀ (n i : Nat) (s : List Pt), i ≤ p.length → p.length - i < n → s.length ≤ i → ∃ r, polygon_scaled.l0 k p m n (i, s) = some r ∧ r.length ≤ 1000 := by
  intro n
  induction n with
  | zero => intro i _ _ h; omega
  | succ n ih =>
    intro i s hi hn hs
    rw [polygon_scaled.l0_succ]
    unfold polygon_scaled.l0b
    dsimp only
    by_cases hlt : i < p.length
    · rw [decide_eq_true (p := (i : Int) < ((p.length : Nat) : Int)) (by omega), decide_eq_true (p := 0 ≤ (i : Int)) (by omega), show w64 ((i : Int) + 1) = ((i + 1 : Nat) : Int) from w64_id (by omega) (by omega), Nat.ble_eq_true_of_le (show (s.length + 1) * 16 ≤ 140737488355328 by omega)]
      simp only [Bool.and_self, cond_true]
      exact ih (i + 1) _ (by omega) (by omega) (by simp; omega)
    · rw [decide_eq_false (p := (i : Int) < ((p.length : Nat) : Int)) (by omega)]
      exact ⟨s, rfl, by omega⟩
theorem scaled_tot (k : Nat) (hk : 2000 ≤ k) (p : List Pt) (hp : p.length ≤ 1000) (m : Int) : ∃ r, polygon_scaled.F k p m = some r ∧ r.length ≤ 1000 := by
  unfold polygon_scaled.F
  exact scaled_loop k p hp m k 0 [] (by omega) (by omega) (by simp)

attribute [local irreducible] polygon_scaled.F

theorem pie_l0 (k : Nat) (p : List Pt) (hp : p.length ≤ 100) (a b : Pt) : ∀ (n i : Nat) (s : List Pt), i ≤ p.length → p.length - i < n → s.length ≤ 2 + i → ∃ r, polygon_pieceInside.l0 k a b p n (i, s) = some (.inl r) ∧ r.length ≤ 1000 := by
  intro n
  induction n with
  | zero => intro i _ _ h; omega
  | succ n ih =>
    intro i s hi hn hs
    rw [polygon_pieceInside.l0_succ]
    unfold polygon_pieceInside.l0b
    dsimp only
    by_cases hlt : i < p.length
    · rw [decide_eq_true (p := (i : Int) < ((p.length : Nat) : Int)) (by omega), decide_eq_true (p := 0 ≤ (i : Int)) (by omega), show w64 ((i : Int) + 1) = ((i + 1 : Nat) : Int) from w64_id (by omega) (by omega), Nat.ble_eq_true_of_le (show (s.length + 1) * 16 ≤ 140737488355328 by omega)]
      obtain ⟨c, hc⟩ := turn_tot k a b (p.getD ((i : Int)).toNat (0, 0))
      obtain ⟨o, ho⟩ := on_tot k a b (p.getD ((i : Int)).toNat (0, 0))
      rw [hc]
      simp only [Bool.and_self, cond_true, Option.bind_some]
      rw [ho]
      simp only [cond_some, Option.bind_some]
      generalize (bif c == 0 then o else false) = b2
      cases b2 with
      | true => exact ih (i + 1) _ (by omega) (by omega) (by simp; omega)
      | false => exact ih (i + 1) _ (by omega) (by omega) (by omega)
    · rw [decide_eq_false (p := (i : Int) < ((p.length : Nat) : Int)) (by omega)]
      exact ⟨s, rfl, by omega⟩

theorem pie_l1 (k : Nat) (hk : 2000 ≤ k) (c r : List Pt) (hr : r.length ≤ 1000) (j : Nat) {self13 : Int → Option Bool} (h13 : ∃ y, self13 (w64 ((j : Int) + 1)) = some y) : ∀ (n i : Nat), i ≤ j → j ≤ 2000 → j - i < n → ∃ y, polygon_pieceInside.l1 k c r j self13 n i = some y := by
  intro n
  induction n with
  | zero => intro i _ _ h; omega
  | succ n ih =>
    intro i hi hj hn
    rw [polygon_pieceInside.l1_succ]
    unfold polygon_pieceInside.l1b plane_Add.F
    simp only [Int.toNat_natCast, Nat.sub_zero, Option.bind_some]
    by_cases hlt : i < j
    · rw [decide_eq_true (p := (i : Int) < ((j : Nat) : Int)) (by omega), decide_eq_true (p := 0 ≤ (i : Int)) (by omega), show w64 ((i : Int) + 1) = ((i + 1 : Nat) : Int) from w64_id (by omega) (by omega)]
      obtain ⟨o, ho⟩ := loc_tot k hk r hr (w64 ((c.getD j (0, 0)).1 + (c.getD i (0, 0)).1), w64 ((c.getD j (0, 0)).2 + (c.getD i (0, 0)).2))
      rw [ho]
      simp only [Bool.and_self, cond_true, Option.bind_some, cond_some]
      generalize (bif !_ then decide (o > 0) else false) = b2
      cases b2 with
      | true => exact ⟨_, rfl⟩
      | false => exact ih (i + 1) (by omega) (by omega) (by omega)
    · rw [decide_eq_false (p := (i : Int) < ((j : Nat) : Int)) (by omega)]
      exact h13

theorem pie_l2 (k : Nat) (hk : 2000 ≤ k) (c r : List Pt) (hc : c.length ≤ 1000) (hr : r.length ≤ 1000) : ∀ (n i : Nat), i ≤ c.length → c.length - i < n → ∃ y, polygon_pieceInside.l2 k c r n i = some y := by
  intro n
  induction n with
  | zero => intro i _ h; omega
  | succ n ih =>
    intro i hi hn
    rw [polygon_pieceInside.l2_succ]
    unfold polygon_pieceInside.l2b
    by_cases hlt : i < c.length
    · rw [decide_eq_true (p := (i : Int) < ((c.length : Nat) : Int)) (by omega), decide_eq_true (p := 0 ≤ (i : Int)) (by omega), decide_eq_true (p := (i : Int) ≤ ((c.length : Nat) : Int)) (by omega)]
      simp only [Bool.and_self, cond_true]
      refine pie_l1 k hk c r hr i ?_ k 0 (by omega) (by omega) (by omega)
      rw [show w64 ((i : Int) + 1) = ((i + 1 : Nat) : Int) from w64_id (by omega) (by omega)]
      exact ih (i + 1) (by omega) (by omega)
    · rw [decide_eq_false (p := (i : Int) < ((c.length : Nat) : Int)) (by omega)]
      exact ⟨_, rfl⟩

theorem pie_tot (k : Nat) (hk : 2000 ≤ k) (a b : Pt) (p : List Pt) (hp : p.length ≤ 100) : ∃ y, polygon_pieceInside.F k a b p = some y := by
  unfold polygon_pieceInside.F
  obtain ⟨r1, h1⟩ := loc_tot k hk p (by omega) a
  obtain ⟨r2, h2⟩ := loc_tot k hk p (by omega) b
  obtain ⟨c, hc, hcl⟩ := pie_l0 k p hp a b k 0 [a, b] (by omega) (by omega) (by simp)
  obtain ⟨r, hr, hrl⟩ := scaled_tot k hk p (by omega) 2
  obtain ⟨y, hy⟩ := pie_l2 k hk c r hcl hrl k 0 (by omega) (by omega)
  rw [show ((0 : Nat) : Int) = 0 from rfl] at hc hy
  rw [h1, h2, hc, hr]
  simp only [Option.bind_some, cond_some]
  rw [hy, cond_some]
  exact ⟨_, rfl⟩

attribute [local irreducible] polygon_pieceInside.F

theorem same_l0 (k : Nat) (p q : List Pt) (hp : p.length ≤ 1000) (hq : 0 < q.length) (j : Nat) (hj : j ≤ 1000) : ∀ (n i : Nat), i ≤ p.length → p.length - i < n → ∃ y, polygon_same.l0 k p q j n i = some y := by
  intro n
  induction n with
  | zero => intro i _ h; omega
  | succ n ih =>
    intro i hi hn
    rw [polygon_same.l0_succ]
    unfold polygon_same.l0b
    by_cases hlt : i < p.length
    · rw [decide_eq_true (p := (i : Int) < ((p.length : Nat) : Int)) (by omega), decide_eq_true (p := 0 ≤ (i : Int)) (by omega), show w64 ((i : Int) + 1) = ((i + 1 : Nat) : Int) from w64_id (by omega) (by omega), show w64 ((j : Int) + (i : Int)) = ((j + i : Nat) : Int) by rw [w64_id (by omega) (by omega)]; omega, nz hq, modIdx hq (by omega)]
      simp only [Bool.and_self, cond_true]
      generalize (!_ : Bool) = b2
      cases b2 with
      | true => exact ⟨_, rfl⟩
      | false => exact ih (i + 1) (by omega) (by omega)
    · rw [decide_eq_false (p := (i : Int) < ((p.length : Nat) : Int)) (by omega)]
      exact ⟨_, rfl⟩
theorem same_l1 (k : Nat) (hk : 2000 ≤ k) (p q : List Pt) (hp : p.length ≤ 1000) (hpq : p.length = q.length) : ∀ (n i : Nat), i ≤ q.length → q.length - i < n → ∃ y, polygon_same.l1 k p q n i = some y := by
  intro n
  induction n with
  | zero => intro i _ h; omega
  | succ n ih =>
    intro i hi hn
    rw [polygon_same.l1_succ]
    unfold polygon_same.l1b
    by_cases hlt : i < q.length
    · rw [decide_eq_true (p := (i : Int) < ((q.length : Nat) : Int)) (by omega), decide_eq_true (p := 0 ≤ (i : Int)) (by omega), show w64 ((i : Int) + 1) = ((i + 1 : Nat) : Int) from w64_id (by omega) (by omega), cond_pos (c := decide ((0 : Nat) ≤ 0) && decide ((0 : Int) < ((p.length : Nat) : Int))) (by simp; omega)]
      simp only [Bool.and_self, cond_true]
      generalize (_ && _ : Bool) = b2
      cases b2 with
      | true => exact same_l0 k p q hp (by omega) i (by omega) k 0 (by omega) (by omega)
      | false => exact ih (i + 1) (by omega) (by omega)
    · rw [decide_eq_false (p := (i : Int) < ((q.length : Nat) : Int)) (by omega)]
      exact ⟨_, rfl⟩
theorem same_tot (k : Nat) (hk : 2000 ≤ k) (p q : List Pt) (hp : p.length ≤ 1000) : ∃ y, polygon_same.F k p q = some y := by
  unfold polygon_same.F
  by_cases h : p.length = q.length
  · rw [cond_neg (c := ((p.length : Nat) : Int) != ((q.length : Nat) : Int)) (by simp; omega)]
    exact same_l1 k hk p q hp h k 0 (by omega) (by omega)
  · rw [cond_pos (c := ((p.length : Nat) : Int) != ((q.length : Nat) : Int)) (by simp; omega)]
    exact ⟨_, rfl⟩

attribute [local irreducible] polygon_same.F

end Go.Proofs.Ytckcomagdjebpaa.RT
