/- What is proved here: overlaps, volumes, sectors: their checks are always told, and so is the sector of a point. It asks nothing. -/
import Derived.Test.YtckcomagdjebpaaLdT
import Derived.Test.YtckcomagdjebpaaGeoA
namespace Go.Proofs.Ytckcomagdjebpaa.RT
open Go Go.R

attribute [local irreducible] plane_Check.F polygon_Check.F polygon_crosses.F polygon_pieceInside.F polygon_same.F polygon_locate.F

theorem ov_l0 (k : Nat) (p q : List Pt) (hp : p.length ≤ 100) (j : Int) : ∀ (n i : Nat), i ≤ p.length → p.length - i < n → ∃ y, polygon_Overlap.l0 k p q j n i = some y := by
  intro n
  induction n with
  | zero => intro i _ h; omega
  | succ n ih =>
    intro i hi hn
    rw [polygon_Overlap.l0_succ]
    unfold polygon_Overlap.l0b
    by_cases hlt : i < p.length
    · rw [decide_eq_true (p := (i : Int) < ((p.length : Nat) : Int)) (by omega), decide_eq_true (p := 0 ≤ (i : Int)) (by omega), show w64 ((i : Int) + 1) = ((i + 1 : Nat) : Int) from w64_id (by omega) (by omega), show w64 (w64 ((i : Int) + ((p.length : Nat) : Int)) - 1) = ((i + p.length - 1 : Nat) : Int) by rw [w64_id (n := (i : Int) + ((p.length : Nat) : Int)) (by omega) (by omega), w64_id (by omega) (by omega)]; omega, nz (by omega), modIdx (by omega) (by omega)]
      obtain ⟨c, hc⟩ := crosses_tot k (q.getD (Int.tmod (w64 ((w64 (j + ((q.length : Nat) : Int))) - 1)) ((q.length : Nat) : Int)).toNat (0, 0)) (q.getD j.toNat (0, 0)) (p.getD (Int.tmod ((i + p.length - 1 : Nat) : Int) ((p.length : Nat) : Int)).toNat (0, 0)) (p.getD ((i : Int)).toNat (0, 0))
      rw [hc]
      simp only [Bool.and_self, cond_true, Option.bind_some]
      cases c with
      | true => exact ⟨_, rfl⟩
      | false => exact ih (i + 1) (by omega) (by omega)
    · rw [decide_eq_false (p := (i : Int) < ((p.length : Nat) : Int)) (by omega)]
      exact ⟨_, rfl⟩

theorem ov_l1 (k : Nat) (hk : 2000 ≤ k) (p q : List Pt) (hp : p.length ≤ 100) (hq : q.length ≤ 100) (j : Int) {self4 : Int → Option (Unit ⊕ (Bool × Int))} (h4 : ∃ y, self4 (w64 (j + 1)) = some y) : ∀ (n i : Nat), i ≤ q.length → q.length - i < n → ∃ y, polygon_Overlap.l1 k p q j self4 n i = some y := by
  intro n
  induction n with
  | zero => intro i _ h; omega
  | succ n ih =>
    intro i hi hn
    rw [polygon_Overlap.l1_succ]
    unfold polygon_Overlap.l1b
    by_cases hlt : i < q.length
    · rw [decide_eq_true (p := (i : Int) < ((q.length : Nat) : Int)) (by omega), decide_eq_true (p := 0 ≤ (i : Int)) (by omega), show w64 ((i : Int) + 1) = ((i + 1 : Nat) : Int) from w64_id (by omega) (by omega), show w64 (w64 ((i : Int) + ((q.length : Nat) : Int)) - 1) = ((i + q.length - 1 : Nat) : Int) by rw [w64_id (n := (i : Int) + ((q.length : Nat) : Int)) (by omega) (by omega), w64_id (by omega) (by omega)]; omega, nz (by omega), modIdx (by omega) (by omega)]
      obtain ⟨y, hy⟩ := ov_l0 k p q hp i k 0 (by omega) (by omega)
      rw [show ((0 : Nat) : Int) = 0 from rfl] at hy
      obtain ⟨c, hc⟩ := pie_tot k hk (q.getD (Int.tmod ((i + q.length - 1 : Nat) : Int) ((q.length : Nat) : Int)).toNat (0, 0)) (q.getD ((i : Int)).toNat (0, 0)) p hp
      rw [hy, hc]
      simp only [Bool.and_self, cond_true, Option.bind_some]
      cases y with
      | inr e => exact ⟨e, rfl⟩
      | inl u =>
        cases c with
        | true => exact ⟨_, rfl⟩
        | false => exact ih (i + 1) (by omega) (by omega)
    · rw [decide_eq_false (p := (i : Int) < ((q.length : Nat) : Int)) (by omega)]
      exact h4

theorem ov_tot (k : Nat) (hk : 2000 ≤ k) (p q : List Pt) : ∃ y, polygon_Overlap.F k p q = some y := by
  unfold polygon_Overlap.F
  obtain ⟨e1, h1, l1⟩ := pol_eq k hk p
  obtain ⟨e2, h2, l2⟩ := pol_eq k hk q
  rw [h1, h2]
  simp only [Option.bind_some]
  by_cases z1 : e1 = 0
  · by_cases z2 : e2 = 0
    · rw [z1, z2, cond_neg (c := (0 : Int) != 0) (by rfl), cond_neg (c := (0 : Int) != 0) (by rfl)]
      have lp := l1 z1
      have lq := l2 z2
      have hl : ∃ y, polygon_Overlap.l2 k p q k 0 = some y := by
        obtain ⟨m, rfl⟩ : ∃ m, k = m + 3 := ⟨k - 3, by omega⟩
        generalize hK : m + 3 = K at hk ⊢
        have e2' : ∃ y, polygon_Overlap.l2 K p q (m + 1) 2 = some y := by
          rw [polygon_Overlap.l2_succ]
          unfold polygon_Overlap.l2b
          exact ⟨_, rfl⟩
        have e1' : ∃ y, polygon_Overlap.l2 K p q (m + 2) 1 = some y := by
          rw [polygon_Overlap.l2_succ]
          unfold polygon_Overlap.l2b
          rw [cond_pos (c := decide ((1 : Int) < 2)) (by rfl), cond_neg (c := (1 : Int) == 0) (by rfl), cond_pos (c := (1 : Int) == 1) (by rfl)]
          exact ov_l1 K hk p q (by omega) (by omega) 1 (by rw [show w64 ((1 : Int) + 1) = 2 by rfl]; exact e2') K 0 (by omega) (by omega)
        rw [show polygon_Overlap.l2 K p q K 0 = polygon_Overlap.l2 K p q (m + 3) 0 by rw [hK], polygon_Overlap.l2_succ]
        unfold polygon_Overlap.l2b
        rw [cond_pos (c := decide ((0 : Int) < 2)) (by rfl), cond_pos (c := (0 : Int) == 0) (by rfl)]
        exact ov_l1 K hk q p (by omega) (by omega) 0 (by rw [show w64 ((0 : Int) + 1) = 1 by rfl]; exact e1') K 0 (by omega) (by omega)
      obtain ⟨y, hy⟩ := hl
      obtain ⟨s, hs⟩ := same_tot k hk p q (by omega)
      rw [hy, hs]
      cases y with
      | inl u => exact ⟨_, rfl⟩
      | inr e => exact ⟨e, rfl⟩
    · rw [z1, cond_neg (c := (0 : Int) != 0) (by rfl), cond_pos (c := e2 != 0) (by simpa using z2)]
      exact ⟨_, rfl⟩
  · rw [cond_pos (c := e1 != 0) (by simpa using z1)]
    exact ⟨_, rfl⟩

attribute [local irreducible] polygon_Overlap.F

abbrev Vo := List Pt × Int × Int
abbrev Se := ByteArray × List Vo
def vo (l : List Vo) (j : Nat) : Vo := l.getD j ([], (0, 0))
def se (l : List Se) (j : Nat) : Se := l.getD j (ByteArray.empty, [])

theorem vol_eq (k : Nat) (hk : 2000 ≤ k) (v : Vo) : ∃ e, volume_Check.F k v = some e := by
  unfold volume_Check.F
  obtain ⟨e1, h1, l1⟩ := pol_eq k hk v.1
  rw [h1]
  simp only [Option.bind_some, cond_some]
  exact ⟨_, rfl⟩

attribute [local irreducible] volume_Check.F

theorem vov_tot (k : Nat) (hk : 2000 ≤ k) (v w : Vo) : ∃ y, volume_Overlap.F k v w = some y := by
  unfold volume_Overlap.F
  obtain ⟨e1, h1⟩ := vol_eq k hk v
  obtain ⟨e2, h2⟩ := vol_eq k hk w
  obtain ⟨y, hy⟩ := ov_tot k hk v.1 w.1
  rw [h1, h2, hy]
  simp only [Option.bind_some, cond_some]
  exact ⟨_, rfl⟩

theorem has_tot (k : Nat) (hk : 2000 ≤ k) (v : Vo) (p : Pt) (h : Int) : ∃ y, volume_Has.F k v p h = some y := by
  unfold volume_Has.F polygon_Locate.F
  obtain ⟨e1, h1⟩ := vol_eq k hk v
  obtain ⟨e2, h2, l2⟩ := pol_eq k hk v.1
  rw [h1, h2, pchk_eq]
  simp only [Option.bind_some, cond_some]
  by_cases z2 : e2 = 0
  · obtain ⟨y, hy⟩ := loc_tot k hk v.1 (by have := l2 z2; omega) p
    rw [hy]
    simp only [Option.bind_some, cond_some]
    exact ⟨_, rfl⟩
  · rw [cond_pos (c := e2 != 0) (by simpa using z2)]
    simp only [Option.bind_some, cond_some]
    exact ⟨_, rfl⟩

attribute [local irreducible] volume_Overlap.F volume_Has.F chart_Name.F

/-! ### Sectors -/

theorem one_loop (k : Nat) (hk : 2000 ≤ k) (s : Se) (hs : s.2.length ≤ 100) : ∀ (n i : Nat), i ≤ s.2.length → s.2.length - i < n → ∃ y, sector_one.l0 k s n i = some y := by
  intro n
  induction n with
  | zero => intro i _ h; omega
  | succ n ih =>
    intro i hi hn
    rw [sector_one.l0_succ]
    unfold sector_one.l0b
    by_cases hlt : i < s.2.length
    · rw [decide_eq_true (p := (i : Int) < ((s.2.length : Nat) : Int)) (by omega), decide_eq_true (p := 0 ≤ (i : Int)) (by omega), show w64 ((i : Int) + 1) = ((i + 1 : Nat) : Int) from w64_id (by omega) (by omega)]
      obtain ⟨e, he⟩ := vol_eq k hk ((s.2.getD ((i : Int)).toNat ([], (0, 0))).1, (s.2.getD ((i : Int)).toNat ([], (0, 0))).2)
      rw [he]
      simp only [Bool.and_self, cond_true, Option.bind_some]
      cases (e != 0) with
      | true => exact ⟨_, rfl⟩
      | false => exact ih (i + 1) (by omega) (by omega)
    · rw [decide_eq_false (p := (i : Int) < ((s.2.length : Nat) : Int)) (by omega)]
      exact ⟨_, rfl⟩

theorem one_eq (k : Nat) (hk : 2000 ≤ k) (s : Se) : ∃ e, sector_one.F k s = some e ∧ (e = 0 → s.2.length ≤ 4) := by
  unfold sector_one.F sector_Name.F
  obtain ⟨b, hb⟩ := cname_total k (by omega) s.1
  rw [hb]
  simp only [Option.bind_some]
  cases b with
  | false => exact ⟨3, rfl, fun h => absurd h (by decide)⟩
  | true =>
    simp only [Bool.not_true, cond_false]
    by_cases h0 : s.2.length = 0
    · rw [cond_pos (c := ((s.2.length : Nat) : Int) == 0) (by simp [h0])]
      exact ⟨8, rfl, fun h => absurd h (by decide)⟩
    rw [cond_neg (c := ((s.2.length : Nat) : Int) == 0) (by simpa using h0)]
    by_cases h4 : ((s.2.length : Nat) : Int) > 4
    · rw [decide_eq_true h4]; exact ⟨2, rfl, fun h => absurd h (by decide)⟩
    rw [decide_eq_false h4]
    obtain ⟨y, hy⟩ := one_loop k hk s (by omega) k 0 (by omega) (by omega)
    exact ⟨y, hy, fun _ => by omega⟩

attribute [local irreducible] sector_one.F

/-- What a check of sectors shows of them. -/
structure SecOk (l : List Se) : Prop where
  len : l.length ≤ 12
  rooms : ∀ s ∈ l, s.2.length ≤ 4

theorem se_mem {l : List Se} {j : Nat} (h : j < l.length) : se l j ∈ l := by unfold se; simp [List.getD, h]

theorem sec_l0 (k : Nat) (l : List Se) (j : Nat) (hj : j ≤ l.length) (hl : l.length ≤ 1000) {self2 : Int → Option (Unit ⊕ Int)} : ∀ (n i : Nat), i ≤ j → j - i < n → sector_Check.l0 k l j self2 n i = self2 (w64 ((j : Int) + 1)) ∨ ∃ e, e ≠ 0 ∧ sector_Check.l0 k l j self2 n i = some (.inr e) := by
  intro n
  induction n with
  | zero => intro i _ h; omega
  | succ n ih =>
    intro i hi hn
    rw [sector_Check.l0_succ]
    unfold sector_Check.l0b
    have ht : (l.take ((j : Int)).toNat).length = j := by simp; omega
    rw [ht]
    by_cases hlt : i < j
    · rw [decide_eq_true (p := (i : Int) < ((j : Nat) : Int)) (by omega), decide_eq_true (p := 0 ≤ (i : Int)) (by omega), show w64 ((i : Int) + 1) = ((i + 1 : Nat) : Int) from w64_id (by omega) (by omega)]
      simp only [Bool.and_self, cond_true]
      generalize (((l.take ((j : Int)).toNat).getD ((i : Int)).toNat (ByteArray.empty, [])).1.toList == (l.getD ((j : Int)).toNat (ByteArray.empty, [])).1.toList) = b2
      cases b2 with
      | true => exact .inr ⟨7, by decide, rfl⟩
      | false => exact ih (i + 1) (by omega) (by omega)
    · rw [decide_eq_false (p := (i : Int) < ((j : Nat) : Int)) (by omega)]
      exact .inl rfl

theorem sec_l1 (k : Nat) (hk : 2000 ≤ k) (l : List Se) (hl : l.length ≤ 1000) : ∀ (n i : Nat), i ≤ l.length → l.length - i < n → (∃ e, e ≠ 0 ∧ sector_Check.l1 k l n i = some (.inr e)) ∨ (sector_Check.l1 k l n i = some (.inl ()) ∧ ∀ s ∈ l.drop i, s.2.length ≤ 4) := by
  intro n
  induction n with
  | zero => intro i _ h; omega
  | succ n ih =>
    intro i hi hn
    rw [sector_Check.l1_succ]
    unfold sector_Check.l1b
    by_cases hlt : i < l.length
    · have hd := drop_cons hlt ((ByteArray.empty, []) : Se)
      have hg : l.getD ((i : Int)).toNat (ByteArray.empty, []) = se l i := by rw [Int.toNat_natCast]; rfl
      rw [decide_eq_true (p := (i : Int) < ((l.length : Nat) : Int)) (by omega), decide_eq_true (p := 0 ≤ (i : Int)) (by omega), decide_eq_true (p := (i : Int) ≤ ((l.length : Nat) : Int)) (by omega), hg]
      obtain ⟨e, he, hr⟩ := one_eq k hk (se l i)
      rw [he]
      simp only [Bool.and_self, cond_true, Option.bind_some]
      by_cases z : e = 0
      · rw [cond_neg (c := e != 0) (by simpa using z)]
        rcases sec_l0 k l i hi hl (self2 := fun x => sector_Check.l1 k l n x) k 0 (by omega) (by omega) with h | ⟨e', he', h⟩
        · rw [show ((0 : Nat) : Int) = 0 from rfl] at h
          rw [h, show w64 ((i : Int) + 1) = ((i + 1 : Nat) : Int) from w64_id (by omega) (by omega)]
          rcases ih (i + 1) (by omega) (by omega) with h2 | ⟨h2, h3⟩
          · exact .inl h2
          · refine .inr ⟨h2, ?_⟩
            rw [hd]
            intro s hs
            rcases List.mem_cons.1 hs with rfl | hs
            · exact hr z
            · exact h3 s hs
        · exact .inl ⟨e', he', h⟩
      · rw [cond_pos (c := e != 0) (by simpa using z)]
        exact .inl ⟨e, z, rfl⟩
    · rw [decide_eq_false (p := (i : Int) < ((l.length : Nat) : Int)) (by omega), List.drop_eq_nil_of_le (by omega)]
      exact .inr ⟨rfl, by simp⟩

theorem rooms_loop (k : Nat) (l : List Se) (h : SecOk l) : ∀ (n i : Nat) (r : List Vo), i ≤ l.length → l.length - i < n → r.length ≤ 4 * i → ∃ y, sector_rooms.l0 k l n (i, r) = some y ∧ y.length ≤ 48 := by
  intro n
  have hl := h.len
  induction n with
  | zero => intro i _ _ h; omega
  | succ n ih =>
    intro i r hi hn hr
    rw [sector_rooms.l0_succ]
    unfold sector_rooms.l0b
    dsimp only
    by_cases hlt : i < l.length
    · have hg : l.getD ((i : Int)).toNat (ByteArray.empty, []) = se l i := by rw [Int.toNat_natCast]; rfl
      have h4 := h.rooms _ (se_mem hlt)
      rw [decide_eq_true (p := (i : Int) < ((l.length : Nat) : Int)) (by omega), decide_eq_true (p := 0 ≤ (i : Int)) (by omega), hg, show w64 ((i : Int) + 1) = ((i + 1 : Nat) : Int) from w64_id (by omega) (by omega), Nat.ble_eq_true_of_le (show (r.length + (se l i).2.length) * 40 ≤ 140737488355328 by omega)]
      simp only [Bool.and_self, cond_true]
      exact ih (i + 1) _ (by omega) (by omega) (by simp; omega)
    · rw [decide_eq_false (p := (i : Int) < ((l.length : Nat) : Int)) (by omega)]
      exact ⟨r, rfl, by omega⟩

theorem apart_l0 (k : Nat) (hk : 2000 ≤ k) (l : List Vo) (hl : l.length ≤ 100) (j : Nat) (hj : j ≤ l.length) {self2 : Int → Option Int} (h2 : ∃ y, self2 (w64 ((j : Int) + 1)) = some y) : ∀ (n i : Nat), i ≤ j → j - i < n → ∃ y, sector_apart.l0 k l j self2 n i = some y := by
  intro n
  induction n with
  | zero => intro i _ h; omega
  | succ n ih =>
    intro i hi hn
    rw [sector_apart.l0_succ]
    unfold sector_apart.l0b
    have ht : (l.take ((j : Int)).toNat).length = j := by simp; omega
    rw [ht]
    by_cases hlt : i < j
    · rw [decide_eq_true (p := (i : Int) < ((j : Nat) : Int)) (by omega), decide_eq_true (p := 0 ≤ (i : Int)) (by omega), show w64 ((i : Int) + 1) = ((i + 1 : Nat) : Int) from w64_id (by omega) (by omega)]
      obtain ⟨y, hy⟩ := vov_tot k hk ((l.getD ((j : Int)).toNat ([], (0, 0))).1, (l.getD ((j : Int)).toNat ([], (0, 0))).2) (((l.take ((j : Int)).toNat).getD ((i : Int)).toNat ([], (0, 0))).1, ((l.take ((j : Int)).toNat).getD ((i : Int)).toNat ([], (0, 0))).2)
      rw [hy]
      simp only [Bool.and_self, cond_true, Option.bind_some]
      cases (y.2 != 0) with
      | true => exact ⟨_, rfl⟩
      | false =>
        cases y.1 with
        | true => exact ⟨_, rfl⟩
        | false => exact ih (i + 1) (by omega) (by omega)
    · rw [decide_eq_false (p := (i : Int) < ((j : Nat) : Int)) (by omega)]
      exact h2

theorem apart_tot (k : Nat) (hk : 2000 ≤ k) (l : List Vo) (hl : l.length ≤ 100) : ∃ y, sector_apart.F k l = some y := by
  unfold sector_apart.F
  have key : ∀ (n i : Nat), i ≤ l.length → l.length - i < n → ∃ y, sector_apart.l1 k l n i = some y := by
    intro n
    induction n with
    | zero => intro i _ h; omega
    | succ n ih =>
      intro i hi hn
      rw [sector_apart.l1_succ]
      unfold sector_apart.l1b
      by_cases hlt : i < l.length
      · rw [decide_eq_true (p := (i : Int) < ((l.length : Nat) : Int)) (by omega), decide_eq_true (p := 0 ≤ (i : Int)) (by omega), decide_eq_true (p := (i : Int) ≤ ((l.length : Nat) : Int)) (by omega)]
        simp only [Bool.and_self, cond_true]
        refine apart_l0 k hk l hl i hi ?_ k 0 (by omega) (by omega)
        rw [show w64 ((i : Int) + 1) = ((i + 1 : Nat) : Int) from w64_id (by omega) (by omega)]
        exact ih (i + 1) (by omega) (by omega)
      · rw [decide_eq_false (p := (i : Int) < ((l.length : Nat) : Int)) (by omega)]
        exact ⟨_, rfl⟩
  exact key k 0 (by omega) (by omega)

/-- The check of sectors. -/
theorem sec_eq (k : Nat) (hk : 2000 ≤ k) (l : List Se) : ∃ e, sector_Check.F k l = some e ∧ (e = 0 → SecOk l) := by
  unfold sector_Check.F
  by_cases h12 : ((l.length : Nat) : Int) > 12
  · rw [decide_eq_true h12]; exact ⟨2, rfl, fun h => absurd h (by decide)⟩
  rw [decide_eq_false h12]
  rcases sec_l1 k hk l (by omega) k 0 (by omega) (by omega) with ⟨e, he, h⟩ | ⟨h, hr⟩
  · rw [show ((0 : Nat) : Int) = 0 from rfl] at h
    rw [h]
    exact ⟨e, rfl, fun h => absurd h he⟩
  · rw [show ((0 : Nat) : Int) = 0 from rfl] at h
    rw [h]
    have ok : SecOk l := ⟨by omega, fun s hs => hr s (by simpa using hs)⟩
    obtain ⟨r, h1, h2⟩ := rooms_loop k l ok k 0 [] (by omega) (by have := ok.len; omega) (by simp)
    rw [show ((0 : Nat) : Int) = 0 from rfl] at h1
    obtain ⟨y, hy⟩ := apart_tot k hk r (by omega)
    simp only [cond_false, Option.bind_some]
    unfold sector_rooms.F
    rw [h1]
    simp only [Option.bind_some]
    rw [hy]
    exact ⟨y, rfl, fun _ => ok⟩

attribute [local irreducible] sector_Check.F

theorem place_l0 (k : Nat) (hk : 2000 ≤ k) (l : List Se) (h : SecOk l) (p : Pt) (hh : Int) (j : Nat) (hj : j < l.length) {self2 : Int → Option Int} {Q : Int → Prop} (hQ : Q j) (h2 : ∃ y, self2 (w64 ((j : Int) + 1)) = some y ∧ Q y) : ∀ (n i : Nat), i ≤ (se l j).2.length → (se l j).2.length - i < n → ∃ y, sector_Place.l0 k l p hh j self2 n i = some y ∧ Q y := by
  intro n
  have h4 := h.rooms _ (se_mem hj)
  induction n with
  | zero => intro i _ h; omega
  | succ n ih =>
    intro i hi hn
    rw [sector_Place.l0_succ]
    unfold sector_Place.l0b
    have hg : l.getD ((j : Int)).toNat (ByteArray.empty, []) = se l j := by rw [Int.toNat_natCast]; rfl
    rw [hg]
    by_cases hlt : i < (se l j).2.length
    · rw [decide_eq_true (p := (i : Int) < (((se l j).2.length : Nat) : Int)) (by omega), decide_eq_true (p := 0 ≤ (i : Int)) (by omega), show w64 ((i : Int) + 1) = ((i + 1 : Nat) : Int) from w64_id (by omega) (by omega)]
      obtain ⟨y, hy⟩ := has_tot k hk (((se l j).2.getD ((i : Int)).toNat ([], (0, 0))).1, ((se l j).2.getD ((i : Int)).toNat ([], (0, 0))).2) p hh
      rw [hy]
      simp only [Bool.and_self, cond_true, Option.bind_some, cond_some]
      generalize (bif y.1 then y.2 == 0 else false) = b2
      cases b2 with
      | true => exact ⟨_, rfl, hQ⟩
      | false => exact ih (i + 1) (by omega) (by omega)
    · rw [decide_eq_false (p := (i : Int) < (((se l j).2.length : Nat) : Int)) (by omega)]
      exact h2

/-- The sector of a point: an index, or -1. -/
theorem place_tot (k : Nat) (hk : 2000 ≤ k) (l : List Se) (h : SecOk l) (p : Pt) (hh : Int) : ∃ y, sector_Place.F k l p hh = some y ∧ -1 ≤ y ∧ y < (l.length : Int) := by
  unfold sector_Place.F
  have hl := h.len
  have key : ∀ (n i : Nat), i ≤ l.length → l.length - i < n → ∃ y, sector_Place.l1 k l p hh n i = some y ∧ -1 ≤ y ∧ y < (l.length : Int) := by
    intro n
    induction n with
    | zero => intro i _ h; omega
    | succ n ih =>
      intro i hi hn
      rw [sector_Place.l1_succ]
      unfold sector_Place.l1b
      by_cases hlt : i < l.length
      · rw [decide_eq_true (p := (i : Int) < ((l.length : Nat) : Int)) (by omega), decide_eq_true (p := 0 ≤ (i : Int)) (by omega)]
        simp only [Bool.and_self, cond_true]
        have h4 := h.rooms _ (se_mem hlt)
        refine place_l0 k hk l h p hh i hlt (Q := fun y => -1 ≤ y ∧ y < (l.length : Int)) ⟨by omega, by omega⟩ ?_ k 0 (by omega) (by omega)
        rw [show w64 ((i : Int) + 1) = ((i + 1 : Nat) : Int) from w64_id (by omega) (by omega)]
        exact ih (i + 1) (by omega) (by omega)
      · rw [decide_eq_false (p := (i : Int) < ((l.length : Nat) : Int)) (by omega)]
        exact ⟨-1, rfl, by omega, by omega⟩
  exact key k 0 (by omega) (by omega)

attribute [local irreducible] sector_Place.F

/-- The sector of a point. -/
noncomputable def plc (k : Nat) (l : List Se) (p : Pt) (hh : Int) : Int := (sector_Place.F k l p hh).getD 0
theorem plc_eq (k : Nat) (hk : 2000 ≤ k) {l : List Se} (h : SecOk l) (p : Pt) (hh : Int) : sector_Place.F k l p hh = some (plc k l p hh) ∧ -1 ≤ plc k l p hh ∧ plc k l p hh < (l.length : Int) := by
  obtain ⟨y, hy, h1, h2⟩ := place_tot k hk l h p hh
  have : plc k l p hh = y := by unfold plc; rw [hy]; rfl
  rw [this]
  exact ⟨hy, h1, h2⟩

end Go.Proofs.Ytckcomagdjebpaa.RT
