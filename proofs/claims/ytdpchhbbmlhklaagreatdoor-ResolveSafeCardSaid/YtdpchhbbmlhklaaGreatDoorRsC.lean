/- What is proved here: the height of a flight that is cleared to another level. They ask nothing. -/
import Derived.Test.YtdpchhbbmlhklaaGreatDoorRsT
import Derived.Test.YtdpchhbbmlhklaaGreatDoorRsB
namespace Go.Proofs.YtdpchhbbmlhklaaGreatDoor.RT
open Go Go.R

attribute [local irreducible] tube_Check.F tube_at.F plane_Check.F tube_Point.F phrase_Check.F aircraft_Check.F effect_divide.F effect_changed.F effect_Of.F num_DivUp.F

/-! ### Between two nodes -/

theorem btw_ge {a b n d p B : Int} (hd : 0 < d) (hn : 0 ≤ n) (hn' : n ≤ d) (h1 : p ≤ a) (h2 : p + B * d ≤ b) : p + B * n ≤ btw a b n d := by
  have k1 : 0 ≤ (b - p - B * d) * n := Int.mul_nonneg (by omega) hn
  have k2 : 0 ≤ (a - p) * (d - n) := Int.mul_nonneg (by omega) (by omega)
  have k3 : (p + B * n - a) * d ≤ (b - a) * n := by grind
  have k4 : p + B * n - a ≤ (b - a) * n / d := Int.le_ediv_of_mul_le hd k3
  unfold btw
  omega

theorem btw_le {a b n d p B : Int} (hd : 0 < d) (hn : 0 ≤ n) (hn' : n ≤ d) (h1 : a ≤ p) (h2 : b ≤ p + B * d) : btw a b n d ≤ p + B * n := by
  have k1 : 0 ≤ (p + B * d - b) * n := Int.mul_nonneg (by omega) hn
  have k2 : 0 ≤ (p - a) * (d - n) := Int.mul_nonneg (by omega) (by omega)
  have k3 : (b - a) * n ≤ (p + B * n - a) * d := by grind
  have k4 : (b - a) * n / d ≤ p + B * n - a := Int.ediv_le_of_le_mul hd k3
  unfold btw
  omega

/-! ### A way to a level -/

/-- The height at a time. -/
def nh (h0 L D t0 u : Int) : Int := if u < t0 + D then btw h0 L (u - t0) D else L

/-- Nodes whose heights go to a level. -/
structure Way (M : List Nd) (h0 L D t0 : Int) : Prop where
  ok : TubeOk M
  now : ∃ j, j < M.length ∧ tm M j = t0
  height : ∀ j, j < M.length → t0 ≤ tm M j → (nd M j).1.2.2 = nh h0 L D t0 (tm M j)
  till : (∀ j, j < M.length → tm M j < t0 + D) ∨ D = 0 ∨ ∃ j, j < M.length ∧ tm M j = t0 + D

theorem nh_bounds {h0 L D t0 u : Int} (hD : 0 ≤ D) (hu : t0 ≤ u) : min h0 L ≤ nh h0 L D t0 u ∧ nh h0 L D t0 u ≤ max h0 L := by
  unfold nh
  split
  · exact btw_bounds (by omega) (by omega) (by omega)
  · omega

theorem nh_le {h0 L D t0 u c : Int} (hc : 0 ≤ c) (hD : 0 ≤ D) (hu : t0 ≤ u) (h : L - h0 ≤ c * D) : nh h0 L D t0 u ≤ h0 + c * (u - t0) := by
  unfold nh
  split
  · exact btw_le (by omega) (by omega) (by omega) (Int.le_refl _) (by omega)
  · have : c * D ≤ c * (u - t0) := Int.mul_le_mul_of_nonneg_left (by omega) hc
    omega

theorem nh_ge {h0 L D t0 u c : Int} (hc : 0 ≤ c) (hD : 0 ≤ D) (hu : t0 ≤ u) (h : h0 - L ≤ c * D) : h0 + -c * (u - t0) ≤ nh h0 L D t0 u := by
  unfold nh
  split
  · exact btw_ge (by omega) (by omega) (by omega) (Int.le_refl _) (by rw [Int.neg_mul]; omega)
  · have : c * D ≤ c * (u - t0) := Int.mul_le_mul_of_nonneg_left (by omega) hc
    rw [Int.neg_mul]
    omega

/-! ### How long a climb takes -/

theorem heights_eq (k : Nat) (hk : 100 ≤ k) (a : Kd) (x y : Int) : ∃ e, aircraft_heights.F k a [x, y] = some e ∧ (e = 0 → KdOk a ∧ 0 ≤ x ∧ x ≤ 60000 ∧ 0 ≤ y ∧ y ≤ 60000) := by
  unfold aircraft_heights.F
  obtain ⟨e, he, hK⟩ := acheck_eq k hk a
  rw [he]
  simp only [Option.bind_some]
  by_cases z : e = 0
  · rw [cond_neg (c := e != 0) (by simpa using z)]
    obtain ⟨m, rfl⟩ : ∃ m, k = m + 5 := ⟨k - 5, by omega⟩
    have l1 : ∃ e', aircraft_heights.l1 (m + 5) a [x, y] (m + 5) 0 = some e' := by
      rw [aircraft_heights.l1_succ]
      unfold aircraft_heights.l1b
      change ∃ e', (bif decide (x > a.2.2.1) then some 20 else aircraft_heights.l1 (m + 5) a [x, y] (m + 4) 1) = some e'
      cases decide (x > a.2.2.1) with
      | true => exact ⟨20, rfl⟩
      | false =>
        rw [cond_false, aircraft_heights.l1_succ]
        unfold aircraft_heights.l1b
        change ∃ e', (bif decide (y > a.2.2.1) then some 20 else aircraft_heights.l1 (m + 5) a [x, y] (m + 3) 2) = some e'
        cases decide (y > a.2.2.1) with
        | true => exact ⟨20, rfl⟩
        | false => exact ⟨0, by rw [cond_false, aircraft_heights.l1_succ]; rfl⟩
    have l0 : (∃ e', e' ≠ 0 ∧ aircraft_heights.l0 (m + 5) [x, y] (m + 5) 0 = some (.inr e')) ∨ (aircraft_heights.l0 (m + 5) [x, y] (m + 5) 0 = some (.inl ()) ∧ 0 ≤ x ∧ x ≤ 60000 ∧ 0 ≤ y ∧ y ≤ 60000) := by
      rw [aircraft_heights.l0_succ]
      unfold aircraft_heights.l0b
      change (∃ e', e' ≠ 0 ∧ ((bif decide (x < 0) then some true else some (decide (x > 60000))).bind fun b4 => bif b4 then Option.map Sum.inr (some 4) else aircraft_heights.l0 (m + 5) [x, y] (m + 4) 1) = some (.inr e')) ∨ (((bif decide (x < 0) then some true else some (decide (x > 60000))).bind fun b4 => bif b4 then Option.map Sum.inr (some 4) else aircraft_heights.l0 (m + 5) [x, y] (m + 4) 1) = some (.inl ()) ∧ _)
      by_cases x0 : x < 0
      · rw [decide_eq_true x0]; exact .inl ⟨4, by decide, rfl⟩
      rw [decide_eq_false x0]
      by_cases x1 : x > 60000
      · rw [decide_eq_true x1]; exact .inl ⟨4, by decide, rfl⟩
      rw [decide_eq_false x1]
      simp only [cond_false, Option.bind_some]
      rw [aircraft_heights.l0_succ]
      unfold aircraft_heights.l0b
      change (∃ e', e' ≠ 0 ∧ ((bif decide (y < 0) then some true else some (decide (y > 60000))).bind fun b4 => bif b4 then Option.map Sum.inr (some 4) else aircraft_heights.l0 (m + 5) [x, y] (m + 3) 2) = some (.inr e')) ∨ (((bif decide (y < 0) then some true else some (decide (y > 60000))).bind fun b4 => bif b4 then Option.map Sum.inr (some 4) else aircraft_heights.l0 (m + 5) [x, y] (m + 3) 2) = some (.inl ()) ∧ _)
      by_cases y0 : y < 0
      · rw [decide_eq_true y0]; exact .inl ⟨4, by decide, rfl⟩
      rw [decide_eq_false y0]
      by_cases y1 : y > 60000
      · rw [decide_eq_true y1]; exact .inl ⟨4, by decide, rfl⟩
      rw [decide_eq_false y1]
      simp only [cond_false, Option.bind_some]
      exact .inr ⟨by rw [aircraft_heights.l0_succ]; rfl, by omega, by omega, by omega, by omega⟩
    rcases l0 with ⟨e', he', h⟩ | ⟨h, b⟩
    · rw [h]
      exact ⟨e', rfl, fun g => absurd g he'⟩
    · rw [h]
      obtain ⟨e', he'⟩ := l1
      exact ⟨e', he', fun _ => ⟨hK z, b⟩⟩
  · rw [cond_pos (c := e != 0) (by simpa using z)]
    exact ⟨e, rfl, fun g => absurd g z⟩

attribute [local irreducible] aircraft_heights.F

theorem Climb_eq (k : Nat) (hk : 100 ≤ k) (a : Kd) (x y : Int) : ∃ D e, aircraft_Climb.F k a x y = some (D, e) ∧ (e = 0 → KdOk a ∧ 0 ≤ x ∧ x ≤ 60000 ∧ 0 ≤ y ∧ y ≤ 60000 ∧ 0 ≤ D ∧ D ≤ 60001 ∧ (D = 0 → x = y) ∧ y - x ≤ a.2.2.2.1 * D ∧ x - y ≤ a.2.2.2.2.1 * D) := by
  unfold aircraft_Climb.F
  obtain ⟨e, he, hq⟩ := heights_eq k hk a x y
  rw [he]
  simp only [Option.bind_some]
  by_cases z : e = 0
  · rw [cond_neg (c := e != 0) (by simpa using z)]
    obtain ⟨hK, x0, x1, y0, y1⟩ := hq z
    have hc := hK.climb
    have hd := hK.desc
    have key : ∀ {v c : Int}, 0 ≤ v → v ≤ 60000 → 1 ≤ c → 0 ≤ up v c ∧ up v c ≤ 60001 ∧ (up v c = 0 → v = 0) ∧ v ≤ c * up v c := fun {v c} h0 h1 h2 => by
      have b := up_bounds (a := v) (d := c) (by omega)
      have b0 : 0 ≤ v / c := Int.ediv_nonneg h0 (by omega)
      have b1 : v / c ≤ v := Int.ediv_le_self _ h0
      have b2 := b.2.2
      rw [Int.mul_comm] at b2
      refine ⟨by omega, by omega, fun g => ?_, b2⟩
      rw [g, Int.mul_zero] at b2
      omega
    by_cases g : y ≥ x
    · rw [decide_eq_true g, cond_true, w64_id (n := y - x) (by omega) (by omega), divUp_eq k (by omega) (by omega) (by omega)]
      obtain ⟨k1, k2, k3, k4⟩ := key (v := y - x) (c := a.2.2.2.1) (by omega) (by omega) hc.1
      have k5 : 0 ≤ a.2.2.2.2.1 * up (y - x) a.2.2.2.1 := Int.mul_nonneg (by omega) k1
      exact ⟨up (y - x) a.2.2.2.1, 0, rfl, fun _ => ⟨hK, x0, x1, y0, y1, k1, k2, fun q => by have := k3 q; omega, k4, by omega⟩⟩
    · rw [decide_eq_false g, cond_false, w64_id (n := x - y) (by omega) (by omega), divUp_eq k (by omega) (by omega) (by omega)]
      obtain ⟨k1, k2, k3, k4⟩ := key (v := x - y) (c := a.2.2.2.2.1) (by omega) (by omega) hd.1
      have k5 : 0 ≤ a.2.2.2.1 * up (x - y) a.2.2.2.2.1 := Int.mul_nonneg (by omega) k1
      exact ⟨up (x - y) a.2.2.2.2.1, 0, rfl, fun _ => ⟨hK, x0, x1, y0, y1, k1, k2, fun q => by have := k3 q; omega, by omega, k4⟩⟩
  · rw [cond_pos (c := e != 0) (by simpa using z)]
    exact ⟨0, e, rfl, fun g => absurd g z⟩

attribute [local irreducible] aircraft_Climb.F

theorem down_eq (k : Nat) {a d : Int} (hd : 0 < d) (ha : -4611686018427387904 ≤ a) (ha' : a ≤ 4611686018427387904) : effect_down.F k a d = some (a / d) := by
  unfold effect_down.F
  rw [cond_pos (c := d != 0) (by simp; omega), cond_pos (c := d != 0) (by simp; omega)]
  have hb : (Int.tdiv a d).natAbs ≤ a.natAbs := by rw [Int.natAbs_tdiv]; exact Nat.div_le_self _ _
  have ht : Int.tdiv a d = a / d + if 0 ≤ a ∨ d ∣ a then 0 else 1 := by
    rw [Int.tdiv_eq_ediv, Int.sign_eq_one_of_pos hd]
  by_cases h : Int.tmod a d < 0
  · have hn : ¬ (0 ≤ a ∨ d ∣ a) := by
      rintro (g | g)
      · have := Int.tmod_nonneg d g; omega
      · have := Int.tmod_eq_zero_of_dvd g; omega
    rw [if_neg hn] at ht
    rw [decide_eq_true h, cond_true, w64_id (n := Int.tdiv a d) (by omega) (by omega), w64_id (by omega) (by omega), ht]
    congr 1
    omega
  · have hn : 0 ≤ a ∨ d ∣ a := by
      rcases Int.lt_or_le a 0 with g | g
      · have h1 := Int.tmod_nonneg d (show 0 ≤ -a by omega)
        rw [Int.neg_tmod] at h1
        exact .inr (Int.dvd_of_tmod_eq_zero (by omega))
      · exact .inl g
    rw [if_pos hn] at ht
    rw [decide_eq_false h, cond_false, w64_id (n := Int.tdiv a d) (by omega) (by omega), ht, Int.add_zero]

attribute [local irreducible] effect_down.F

/-! ### The search for a time -/

theorem half_eq {x : Int} (h0 : 0 ≤ x) (h1 : x ≤ 1000) : w64 (Int.fdiv (IntKind.u64.wrap (w64 x)) (2 ^ min (1 : Int).toNat (IntKind.u64).bits)) = x / 2 := by
  rw [w64_id (n := x) (by omega) (by omega)]
  rw [show IntKind.u64.wrap x = x % 18446744073709551616 by simp [IntKind.wrap, IntKind.bits, IntKind.signed]]
  rw [show x % 18446744073709551616 = x by omega]
  rw [show min (1 : Int).toNat (IntKind.u64).bits = 1 by rfl]
  rw [Int.fdiv_eq_ediv_of_nonneg _ (by decide), w64_id (by omega) (by omega)]
  rfl

theorem find_loop (k : Nat) (now : Nd) (hdl B : List Nd) (D e : Int) (hB : B.length ≤ 64) (hend : -1000000 ≤ now.1.1 + D ∧ now.1.1 + D ≤ 1000000) (hord : ∀ i j, i < j → j < B.length → tm B i < tm B j) (hb : ∀ i, i < B.length → 0 ≤ tm B i ∧ tm B i ≤ 200000) : ∀ n i j : Nat, i ≤ j → j ≤ B.length → j - i < n → (∀ q, q < i → tm B q < now.1.1 + D) → (∀ q, j ≤ q → q < B.length → now.1.1 + D ≤ tm B q) →
    ∃ p : Nat, effect_changed.l0 k (now, (hdl, B)) (D, e) n ((i : Int), (j : Int)) = some (.inl (p : Int)) ∧ p ≤ B.length ∧ (∀ q, q < p → tm B q < now.1.1 + D) ∧ (∀ q, p ≤ q → q < B.length → now.1.1 + D ≤ tm B q) := by
  intro n
  induction n with
  | zero => intro i j _ _ h; omega
  | succ n ih =>
    intro i j hij hj hn h1 h2
    rw [effect_changed.l0_succ]
    unfold effect_changed.l0b
    dsimp only
    by_cases hlt : i < j
    · rw [decide_eq_true (p := (i : Int) < (j : Int)) (by omega), half_eq (x := (i : Int) + j) (by omega) (by omega), w64_id (n := now.1.1 + D) (by omega) (by omega)]
      obtain ⟨m, hm⟩ : ∃ m : Nat, ((i : Int) + j) / 2 = m := ⟨(i + j) / 2, by omega⟩
      rw [hm, inIdx (n := B.length) (by omega) (by omega)]
      simp only [cond_true]
      have hg : B.getD ((m : Int)).toNat ((0, ((0, 0), 0)), (0, 0)) = nd B m := by rw [Int.toNat_natCast]; rfl
      rw [hg, tm_eq]
      have hbm := hb m (by omega)
      rw [w64_id (n := tm B m - (now.1.1 + D)) (by omega) (by omega), show w64 ((m : Int) + 1) = ((m + 1 : Nat) : Int) from w64_id (by omega) (by omega)]
      by_cases hc : tm B m - (now.1.1 + D) < 0
      · rw [decide_eq_true hc, cond_true]
        refine ih (m + 1) j (by omega) hj (by omega) (fun q hq => ?_) h2
        rcases Nat.lt_or_ge q m with g | g
        · have := hord q m g (by omega); omega
        · have : q = m := by omega
          subst this; omega
      · rw [decide_eq_false hc, cond_false]
        refine ih i m (by omega) (by omega) (by omega) h1 (fun q hq hq' => ?_)
        rcases Nat.lt_or_ge m q with g | g
        · have := hord m q g hq'; omega
        · have : q = m := by omega
          subst this; omega
    · rw [decide_eq_false (p := (i : Int) < (j : Int)) (by omega)]
      have : i = j := by omega
      subst this
      exact ⟨i, rfl, hj, h1, h2⟩

/-! ### The change of a level -/

/-- A node with its height on the way. -/
def adj (h0 L D t0 : Int) (n : Nd) : Nd := ((n.1.1, (n.1.2.1, nh h0 L D t0 n.1.1)), n.2)

theorem adj_loop (k : Nat) (c : Cl) (now : Nd) (hdl B : List Nd) (D e : Int) (X : List Nd) (hX : X.length ≤ 100) (hD : 0 ≤ D) (hD' : D ≤ 60001) (hh : 0 ≤ now.1.2.2 ∧ now.1.2.2 ≤ 60000) (hL : 0 ≤ c.2.2.1 ∧ c.2.2.1 ≤ 60000) (hnow : 0 ≤ now.1.1 ∧ now.1.1 ≤ 200000) (hb : ∀ i, i < X.length → now.1.1 < tm X i ∧ tm X i ≤ 200000) : ∀ (n i : Nat) (out : List Nd), i ≤ X.length → X.length - i < n → out.length + (X.length - i) ≤ 1000 →
    effect_changed.l1 k c (now, (hdl, B)) (D, e) X n ((i : Int), out) = some (out ++ (X.drop i).map (adj now.1.2.2 c.2.2.1 D now.1.1), 0) := by
  intro n
  induction n with
  | zero => intro i _ _ h; omega
  | succ n ih =>
    intro i out hi hn ho
    rw [effect_changed.l1_succ]
    unfold effect_changed.l1b
    dsimp only
    by_cases hlt : i < X.length
    · have hd := drop_cons hlt (nd0 : Nd)
      rw [nd_eq] at hd
      rw [decide_eq_true (p := (i : Int) < ((X.length : Nat) : Int)) (by omega), decide_eq_true (p := 0 ≤ (i : Int)) (by omega)]
      have hg : X.getD ((i : Int)).toNat ((0, ((0, 0), 0)), (0, 0)) = nd X i := by rw [Int.toNat_natCast]; rfl
      rw [hg, tm_eq]
      simp only [Bool.and_self, cond_true]
      have hbi := hb i hlt
      rw [w64_id (n := now.1.1 + D) (by omega) (by omega), show w64 ((i : Int) + 1) = ((i + 1 : Nat) : Int) from w64_id (by omega) (by omega), cond_pos (c := Nat.ble ((out.length + 1) * 48) 140737488355328) (Nat.ble_eq_true_of_le (by omega))]
      have next : ∀ x : Nd, x = adj now.1.2.2 c.2.2.1 D now.1.1 (nd X i) → effect_changed.l1 k c (now, (hdl, B)) (D, e) X n (((i + 1 : Nat) : Int), out ++ [x]) = some (out ++ (X.drop i).map (adj now.1.2.2 c.2.2.1 D now.1.1), 0) := fun x hx => by
        rw [ih (i + 1) _ (by omega) (by omega) (by rw [List.length_append, List.length_singleton]; omega), hd, hx, List.append_assoc]
        rfl
      by_cases hc : tm X i < now.1.1 + D
      · rw [decide_eq_true hc, cond_true, w64_id (n := c.2.2.1 - now.1.2.2) (by omega) (by omega), w64_id (n := tm X i - now.1.1) (by omega) (by omega)]
        have hpb := prod_bound (a := c.2.2.1 - now.1.2.2) (b := tm X i - now.1.1) (A := 60000) (B := 200000) (by omega) (by omega)
        rw [w64_id (n := (c.2.2.1 - now.1.2.2) * (tm X i - now.1.1)) (by omega) (by omega), down_eq k (by omega) (by omega) (by omega)]
        simp only [Option.bind_some]
        have hnb := btw_bounds (a := now.1.2.2) (b := c.2.2.1) (n := tm X i - now.1.1) (d := D) (by omega) (by omega) (by omega)
        unfold btw at hnb
        rw [w64_id (n := now.1.2.2 + (c.2.2.1 - now.1.2.2) * (tm X i - now.1.1) / D) (by omega) (by omega)]
        rw [cond_pos (c := Nat.ble ((out.length + 1) * 48) 140737488355328) (Nat.ble_eq_true_of_le (by omega))]
        refine next _ ?_
        unfold adj nh
        rw [tm_eq, if_pos hc]
        rfl
      · rw [decide_eq_false hc, cond_false]
        refine next _ ?_
        unfold adj nh
        rw [tm_eq, if_neg hc]
    · rw [decide_eq_false (p := (i : Int) < ((X.length : Nat) : Int)) (by omega), List.drop_eq_nil_of_le (by omega), List.map_nil, List.append_nil]
      rfl

/-- What is known of the nodes behind a time, with one put in where the level is reached. -/
structure Behind (X : List Nd) (D t0 : Int) : Prop where
  len : X.length ≤ 65
  ord : X.Pairwise fun a b => a.1.1 < b.1.1
  node : ∀ n ∈ X, NdOk n ∧ t0 < n.1.1
  till : (∀ n ∈ X, n.1.1 < t0 + D) ∨ D = 0 ∨ ∃ n ∈ X, n.1.1 = t0 + D

theorem way_of {l : List Nd} (h : TubeOk l) {now : Nd} (hnow : NdOk now) {X : List Nd} {L D : Int} (hX : Behind X D now.1.1) (hD : 0 ≤ D) (hz : D = 0 → now.1.2.2 = L) (hL : 0 ≤ L ∧ L ≤ 60000) (hlen : (hd l now.1.1 ++ [now] ++ X.map (adj now.1.2.2 L D now.1.1)).length ≤ 64) :
    Way (hd l now.1.1 ++ [now] ++ X.map (adj now.1.2.2 L D now.1.1)) now.1.2.2 L D now.1.1 := by
  have hh := hnow.height
  have cases : ∀ n ∈ hd l now.1.1 ++ [now] ++ X.map (adj now.1.2.2 L D now.1.1), (n ∈ l ∧ n.1.1 < now.1.1) ∨ n = now ∨ ∃ x ∈ X, n = adj now.1.2.2 L D now.1.1 x := fun n hn => by
    rw [List.mem_append, List.mem_append, List.mem_singleton, List.mem_map] at hn
    rcases hn with (hn | hn) | ⟨x, hx, e⟩
    · unfold hd at hn
      rw [List.mem_filter] at hn
      exact .inl ⟨hn.1, by simpa using hn.2⟩
    · exact .inr (.inl hn)
    · exact .inr (.inr ⟨x, hx, e.symm⟩)
  refine ⟨⟨by simp; omega, hlen, fun n hn => ?_, ?_⟩, ?_, fun j hj ht => ?_, ?_⟩
  · rcases cases n hn with ⟨h1, _⟩ | rfl | ⟨x, hx, rfl⟩
    · exact h.node n h1
    · exact hnow
    · have := (hX.node x hx).1
      have b := nh_bounds (h0 := now.1.2.2) (L := L) (t0 := now.1.1) (u := x.1.1) hD (by have := (hX.node x hx).2; omega)
      exact ⟨this.time, this.pt, by show 0 ≤ nh _ _ _ _ _ ∧ nh _ _ _ _ _ ≤ 60000; omega, this.radius, this.band⟩
  · rw [List.pairwise_append, List.pairwise_append, List.pairwise_map]
    refine ⟨⟨h.ord.filter _, by simp, fun a ha b hb => ?_⟩, hX.ord, fun a ha b hb => ?_⟩
    · rw [List.mem_singleton] at hb
      subst hb
      unfold hd at ha
      rw [List.mem_filter] at ha
      simpa using ha.2
    · rw [List.mem_map] at hb
      obtain ⟨x, hx, rfl⟩ := hb
      have hx2 := (hX.node x hx).2
      rw [List.mem_append, List.mem_singleton] at ha
      show a.1.1 < x.1.1
      rcases ha with ha | rfl
      · unfold hd at ha
        rw [List.mem_filter] at ha
        have : a.1.1 < now.1.1 := by simpa using ha.2
        omega
      · exact hx2
  · obtain ⟨j, hj, e⟩ := nd_of (l := hd l now.1.1 ++ [now] ++ X.map (adj now.1.2.2 L D now.1.1)) (m := now) (by simp)
    exact ⟨j, hj, by unfold tm; rw [e]⟩
  · rcases cases _ (nd_mem hj) with ⟨_, h2⟩ | e | ⟨x, hx, e⟩
    · rw [tm_eq] at h2; omega
    · unfold tm
      rw [e]
      unfold nh
      split
      · unfold btw
        rw [Int.sub_self, Int.mul_zero, Int.zero_ediv, Int.add_zero]
      · exact hz (by omega)
    · unfold tm
      rw [e]
      rfl
  · rcases hX.till with g | g | ⟨x, hx, g⟩
    · by_cases z : D = 0
      · exact .inr (.inl z)
      · refine .inl fun j hj => ?_
        rcases cases _ (nd_mem hj) with ⟨_, h2⟩ | e | ⟨x, hx, e⟩
        · rw [tm_eq] at h2; omega
        · unfold tm; rw [e]; omega
        · unfold tm; rw [e]; exact g x hx
    · exact .inr (.inl g)
    · obtain ⟨j, hj, e⟩ := nd_of (l := hd l now.1.1 ++ [now] ++ X.map (adj now.1.2.2 L D now.1.1)) (m := adj now.1.2.2 L D now.1.1 x) (by rw [List.mem_append, List.mem_map]; exact .inr ⟨x, hx, rfl⟩)
      exact .inr (.inr ⟨j, hj, by unfold tm; rw [e]; exact g⟩)

theorem bk_ok {l : List Nd} (h : TubeOk l) (t : Int) : TubeOk (bk l t) ∨ bk l t = [] := by
  by_cases z : bk l t = []
  · exact .inr z
  · refine .inl ⟨List.length_pos_iff.2 z, Nat.le_trans (List.length_filter_le _ _) h.len, fun n hn => h.node n (List.mem_filter.1 hn).1, h.ord.filter _⟩

theorem climbs_eq (k : Nat) (hk : 100 ≤ k) {l : List Nd} (h : TubeOk l) {t : Int} (h0 : tm l 0 ≤ t) (h1 : t ≤ tl l) (call tx : ByteArray) (L : Int) (a : Kd) (p : Int × Int) :
    (∃ e, e ≠ 0 ∧ effect_changed.F k l (call, (0, (L, tx))) t a p = some ([], e)) ∨ (∃ D e X, aircraft_Climb.F k a (pt k l t).1.2.2 L = some (D, 0) ∧ Behind X D t ∧ effect_changed.F k l (call, (0, (L, tx))) t a p = some (hd l t ++ [pt k l t] ++ X.map (adj (pt k l t).1.2.2 L D t), e) ∧ e = 0) := by
  have hhs : hs l t = true := by unfold hs; rw [decide_eq_true h0, decide_eq_true h1]; rfl
  obtain ⟨q, hq, he⟩ := (at_cases k hk h t).2.2 hhs
  have hnow : NdOk (pt k l t) := by rw [he]; exact seg_ok h hq h1
  have htime : (pt k l t).1.1 = t := by rw [he, ndAt_time]
  have htb := hnow.time
  have hhb := hnow.height
  unfold effect_changed.F
  rw [divide_eq k hk h]
  simp only [Option.bind_some]
  rw [cond_pos (c := (0 : Int) == 0) (by rfl)]
  obtain ⟨D, e, hc, hce⟩ := Climb_eq k hk a (pt k l t).1.2.2 L
  rw [hc]
  simp only [Option.bind_some]
  by_cases z : e = 0
  · subst z
    rw [cond_neg (c := (0 : Int) != 0) (by rfl)]
    obtain ⟨hK, _, _, L0, L1, D0, D1, Dz, _, _⟩ := hce rfl
    right
    have hbl : (bk l t).length ≤ 64 := Nat.le_trans (List.length_filter_le _ _) h.len
    have hbn : ∀ n ∈ bk l t, NdOk n ∧ t < n.1.1 := fun n hn => by
      have := List.mem_filter.1 hn
      exact ⟨h.node n this.1, by simpa using this.2⟩
    have hbo : (bk l t).Pairwise fun a b => a.1.1 < b.1.1 := h.ord.filter _
    have hord : ∀ i j, i < j → j < (bk l t).length → tm (bk l t) i < tm (bk l t) j := fun i j hij hj => by
      have := List.pairwise_iff_getElem.1 hbo i j (by omega) hj hij
      unfold tm nd
      simp [List.getD, hj, show i < (bk l t).length by omega]
      exact this
    obtain ⟨x, hx, hxl, hx1, hx2⟩ := find_loop k (pt k l t) (hd l t ++ [pt k l t]) (bk l t) D 0 hbl (by omega) hord (fun i hi => (hbn _ (nd_mem hi)).1.time) k 0 (bk l t).length (Nat.zero_le _) (Nat.le_refl _) (by omega) (fun q hq => by omega) (fun q hq hq' => by omega)
    rw [show ((0 : Nat) : Int) = 0 from rfl] at hx
    rw [hx]
    simp only [Option.bind_some]
    rw [htime] at hx1 hx2
    -- what the adjusting does
    have fin : ∀ X : List Nd, Behind X D t → ∃ D' e' X', some (D, (0 : Int)) = some (D', 0) ∧ Behind X' D' t ∧ effect_changed.l1 k (call, (0, (L, tx))) (pt k l t, (hd l t ++ [pt k l t], bk l t)) (D, 0) X k (0, hd l t ++ [pt k l t]) = some (hd l t ++ [pt k l t] ++ X'.map (adj (pt k l t).1.2.2 L D' t), e') ∧ e' = 0 := fun X hX => by
      have := adj_loop k (call, (0, (L, tx))) (pt k l t) (hd l t ++ [pt k l t]) (bk l t) D 0 X (by have := hX.len; omega) D0 D1 hhb ⟨L0, L1⟩ htb (fun i hi => by
        have := hX.node _ (nd_mem hi)
        rw [htime]
        exact ⟨this.2, this.1.time.2⟩) k 0 (hd l t ++ [pt k l t]) (Nat.zero_le _) (by have := hX.len; omega) (by
        have h1 := hX.len
        have h2 : (hd l t).length ≤ l.length := List.length_filter_le _ _
        have h3 := h.len
        rw [List.length_append, List.length_singleton]
        omega)
      rw [show ((0 : Nat) : Int) = 0 from rfl, List.drop_zero, htime] at this
      exact ⟨D, 0, X, rfl, hX, this, rfl⟩
    have hwe : w64 ((pt k l t).1.1 + D) = t + D := by rw [w64_id (by omega) (by omega), htime]
    rw [hwe]
    by_cases hlt : x < (bk l t).length
    · rw [decide_eq_true (p := (x : Int) < (((bk l t).length : Nat) : Int)) (by omega), decide_eq_true (p := 0 ≤ (x : Int)) (by omega)]
      simp only [Bool.and_self, cond_true]
      have hg : (bk l t).getD ((x : Int)).toNat ((0, ((0, 0), 0)), (0, 0)) = nd (bk l t) x := by rw [Int.toNat_natCast]; rfl
      rw [hg, tm_eq]
      have hxt := hbn _ (nd_mem hlt)
      have hxtt := hxt.1.time
      rw [tm_eq] at hxtt
      rw [w64_id (n := tm (bk l t) x - (t + D)) (by omega) (by omega)]
      simp only [Option.bind_some]
      have hxge := hx2 x (Nat.le_refl _) hlt
      by_cases heq : tm (bk l t) x - (t + D) = 0
      · rw [cond_neg (c := !(tm (bk l t) x - (t + D) == 0)) (by rw [heq]; rfl)]
        simp only [Option.bind_some, cond_false]
        exact fin _ ⟨by omega, hbo, hbn, .inr (.inr ⟨_, nd_mem hlt, by rw [tm_eq]; omega⟩)⟩
      · rw [cond_pos (c := !(tm (bk l t) x - (t + D) == 0)) (by simpa using heq)]
        simp only [Option.bind_some, cond_true]
        by_cases hDz : D > 0
        · rw [decide_eq_true hDz]
          simp only [cond_true]
          rw [clone_eq k (by omega), point_eq k hk h]
          simp only [Option.bind_some]
          -- the node that is put in
          have htl : t + D ≤ tl l := by
            obtain ⟨j, hj, e⟩ := nd_of (List.mem_filter.1 (nd_mem hlt)).1
            have : tm l j = tm (bk l t) x := by unfold tm; rw [e]; rfl
            have := h.le (show j ≤ l.length - 1 by omega) (by omega)
            unfold tl
            omega
          have hhs2 : hs l (t + D) = true := by unfold hs; rw [decide_eq_true (p := tm l 0 ≤ t + D) (by omega), decide_eq_true htl]; rfl
          obtain ⟨q2, hq2, he2⟩ := (at_cases k hk h (t + D)).2.2 hhs2
          have hin : NdOk (pt k l (t + D)) := by rw [he2]; exact seg_ok h hq2 htl
          have hint : (pt k l (t + D)).1.1 = t + D := by rw [he2, ndAt_time]
          have hins : slices_Insert_api_TubeNode.F k (bk l t) (x : Int) [pt k l (t + D)] = some ((bk l t).take x ++ [pt k l (t + D)] ++ (bk l t).drop x) := by
            unfold slices_Insert_api_TubeNode.F insF
            rw [cond_pos (c := _ && _ && _ && _) (by simp; omega), Int.toNat_natCast]
          rw [hins]
          simp only [Option.bind_some]
          have htk : ∀ n ∈ (bk l t).take x, n.1.1 < t + D := fun n hn => by
            obtain ⟨j, hj, e⟩ := List.mem_iff_getElem.1 hn
            rw [List.length_take] at hj
            rw [List.getElem_take] at e
            have := hx1 j (by omega)
            unfold tm nd at this
            simp [List.getD, show j < (bk l t).length by omega, e] at this
            exact this
          have hdr : ∀ n ∈ (bk l t).drop x, t + D < n.1.1 := fun n hn => by
            obtain ⟨j, hj, e⟩ := List.mem_iff_getElem.1 hn
            rw [List.length_drop] at hj
            rw [List.getElem_drop] at e
            have h3 : tm (bk l t) (x + j) = n.1.1 := by
              unfold tm nd
              simp [List.getD, show x + j < (bk l t).length by omega, e]
            rcases Nat.eq_zero_or_pos j with g | g
            · subst g
              rw [Nat.add_zero] at h3
              omega
            · have := hord x (x + j) (by omega) (by omega)
              omega
          refine fin _ ⟨?_, ?_, fun n hn => ?_, .inr (.inr ⟨pt k l (t + D), by simp, hint⟩)⟩
          · rw [List.length_append, List.length_append, List.length_take, List.length_drop, List.length_singleton]
            omega
          · rw [List.pairwise_append, List.pairwise_append]
            refine ⟨⟨hbo.sublist (List.take_sublist _ _), by simp, fun a ha b hb => ?_⟩, hbo.sublist (List.drop_sublist _ _), fun a ha b hb => ?_⟩
            · rw [List.mem_singleton] at hb
              subst hb
              rw [hint]
              exact htk a ha
            · have h4 := hdr b hb
              rw [List.mem_append, List.mem_singleton] at ha
              rcases ha with ha | rfl
              · have := htk a ha; omega
              · omega
          · rw [List.mem_append, List.mem_append, List.mem_singleton] at hn
            rcases hn with (hn | rfl) | hn
            · exact hbn n (List.mem_of_mem_take hn)
            · exact ⟨hin, by omega⟩
            · exact hbn n (List.mem_of_mem_drop hn)
        · rw [decide_eq_false hDz]
          simp only [cond_false, Option.bind_some]
          exact fin _ ⟨by omega, hbo, hbn, .inr (.inl (by omega))⟩
    · rw [decide_eq_false (p := (x : Int) < (((bk l t).length : Nat) : Int)) (by omega)]
      simp only [cond_false, Option.bind_some, Bool.not_false, cond_true]
      refine fin _ ⟨by omega, hbo, hbn, .inl fun n hn => ?_⟩
      obtain ⟨j, hj, e⟩ := nd_of hn
      have := hx1 j (by omega)
      unfold tm at this
      rw [e] at this
      exact this
  · rw [cond_pos (c := e != 0) (by simpa using z)]
    exact .inl ⟨e, z, rfl⟩

/-! ### The law -/

end Go.Proofs.YtdpchhbbmlhklaaGreatDoor.RT
