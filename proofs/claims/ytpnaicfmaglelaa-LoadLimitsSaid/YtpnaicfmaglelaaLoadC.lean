/- What is proved here: the peaks and the overloads of sectors, and the law LoadLimits. They ask nothing. -/
import Derived.Test.YtpnaicfmaglelaaLbT
import Derived.Test.YtpnaicfmaglelaaLoadA
namespace Go.Proofs.Ytpnaicfmaglelaa.RT
open Go Go.R

attribute [local irreducible] tube_Check.F tube_at.F plane_Check.F tube_Point.F tube_At.F tube_All_1.F sector_Check.F sector_Place.F skywaykeep3_small.F sector_Path.F sector_Path.r0b load_check.F load_count.F load_Count.F

/-! ### Spans -/

theorem span_eq (k : Nat) (s : Int × Int) : ∃ e, load_span.F k s = some e ∧ (e = 0 → 0 ≤ s.1 ∧ s.1 < s.2 ∧ s.2 ≤ 200001 ∧ s.2 - s.1 ≤ 2000) := by
  unfold load_span.F
  by_cases h0 : s.1 < 0
  · rw [decide_eq_true h0]
    exact ⟨12, rfl, fun h => by cases h⟩
  rw [decide_eq_false h0]
  simp only [cond_false, Option.bind_some]
  by_cases h1 : s.2 > 200001
  · rw [decide_eq_true h1]
    exact ⟨12, rfl, fun h => by cases h⟩
  rw [decide_eq_false h1]
  simp only [cond_false, Option.bind_some]
  by_cases h2 : s.1 ≥ s.2
  · rw [decide_eq_true h2]
    exact ⟨12, rfl, fun h => by cases h⟩
  rw [decide_eq_false h2]
  simp only [cond_false]
  rw [w64_id (n := s.2 - s.1) (by omega) (by omega)]
  by_cases h3 : s.2 - s.1 > 2000
  · rw [decide_eq_true h3]
    exact ⟨2, rfl, fun h => by cases h⟩
  · rw [decide_eq_false h3]
    exact ⟨0, rfl, fun _ => by omega⟩

/-! ### Peaks -/

theorem peaks_l0 (k : Nat) (l : List Se) (hl : l.length ≤ 12) (s : Int × Int) : ∀ (n i : Nat) (x : List Int), i ≤ l.length → l.length - i < n → x.length = l.length →
    ∃ r, load_Peaks.l0 k l s n ((i : Int), x) = some (.inl r) ∧ r.length = l.length ∧ ∀ j, j < l.length → gi r j = if j < i then gi x j else s.1 := by
  intro n
  induction n with
  | zero => intro i _ _ h; omega
  | succ n ih =>
    intro i x hi hn hx
    rw [load_Peaks.l0_succ]
    unfold load_Peaks.l0b
    dsimp only
    rw [Int.toNat_natCast, List.length_replicate]
    by_cases hlt : i < l.length
    · rw [decide_eq_true (p := (i : Int) < ((l.length : Nat) : Int)) (by omega), inIdx (n := x.length) (by omega) (by omega)]
      simp only [cond_true]
      rw [Int.toNat_natCast, show w64 ((i : Int) + 1) = ((i + 1 : Nat) : Int) from w64_id (by omega) (by omega)]
      obtain ⟨r, hr, h1, h2⟩ := ih (i + 1) (x.set i s.1) (by omega) (by omega) (by rw [List.length_set]; exact hx)
      refine ⟨r, hr, h1, fun j hj => ?_⟩
      rw [h2 j hj, gi_set (by omega)]
      by_cases g : j = i
      · rw [if_pos (by omega), if_pos g, if_neg (by omega)]
      · rw [if_neg g]
        by_cases g' : j < i
        · rw [if_pos g', if_pos (by omega)]
        · rw [if_neg g', if_neg (by omega)]
    · rw [decide_eq_false (p := (i : Int) < ((l.length : Nat) : Int)) (by omega)]
      exact ⟨x, rfl, hx, fun j hj => by rw [if_pos (by omega)]⟩

/-- A round of the peaks. -/
theorem peaks_l1 (k : Nat) (l : List Se) (hl : l.length ≤ 12) (t : Int) (m0 f0 r : List Int) {self26 : (Int × List Int × List Int) → Option (List Int × List Int × Int)} : ∀ (n i : Nat) (m f : List Int), i ≤ l.length → l.length - i < n → m.length = l.length → f.length = l.length →
    ∃ m' f', load_Peaks.l1 k l (t, (m0, f0)) self26 r n ((i : Int), (m, f)) = self26 (w64 (t + 1), (m', f')) ∧ m'.length = l.length ∧ f'.length = l.length ∧
      ∀ j, j < l.length → (gi m' j = if i ≤ j ∧ gi r j > gi m j then gi r j else gi m j) ∧ (gi f' j = if i ≤ j ∧ gi r j > gi m j then t else gi f j) := by
  intro n
  induction n with
  | zero => intro i _ _ _ h; omega
  | succ n ih =>
    intro i m f hi hn hm hf
    rw [load_Peaks.l1_succ]
    unfold load_Peaks.l1b
    dsimp only
    rw [Int.toNat_natCast, Nat.sub_zero]
    by_cases hlt : i < l.length
    · rw [decide_eq_true (p := (i : Int) < ((l.length : Nat) : Int)) (by omega), decide_eq_true (p := 0 ≤ (i : Int)) (by omega), hm, hf, decide_eq_true (p := (i : Int) < ((l.length : Nat) : Int)) (by omega)]
      simp only [cond_true, Bool.and_self]
      rw [Int.toNat_natCast, gi_eq, gi_eq, show w64 ((i : Int) + 1) = ((i + 1 : Nat) : Int) from w64_id (by omega) (by omega)]
      by_cases hc : gi r i > gi m i
      · rw [decide_eq_true hc, cond_true]
        obtain ⟨m', f', hr, h1, h2, h3⟩ := ih (i + 1) (m.set i (gi r i)) (f.set i t) (by omega) (by omega) (by rw [List.length_set]; exact hm) (by rw [List.length_set]; exact hf)
        refine ⟨m', f', hr, h1, h2, fun j hj => ?_⟩
        obtain ⟨g1, g2⟩ := h3 j hj
        rw [gi_set (by omega)] at g1 g2
        rw [gi_set (by omega)] at g2
        by_cases e : j = i
        · subst e
          rw [if_pos rfl, if_neg (by omega)] at g1
          rw [if_pos rfl, if_neg (by omega), if_pos rfl] at g2
          rw [if_pos ⟨Nat.le_refl _, hc⟩, if_pos ⟨Nat.le_refl _, hc⟩]
          exact ⟨g1, g2⟩
        · rw [if_neg e] at g1 g2
          rw [if_neg e] at g2
          rw [g1, g2]
          have : (i + 1 ≤ j ∧ gi r j > gi m j) ↔ (i ≤ j ∧ gi r j > gi m j) := by omega
          simp only [this, and_self]
      · rw [decide_eq_false hc, cond_false]
        obtain ⟨m', f', hr, h1, h2, h3⟩ := ih (i + 1) m f (by omega) (by omega) hm hf
        refine ⟨m', f', hr, h1, h2, fun j hj => ?_⟩
        obtain ⟨g1, g2⟩ := h3 j hj
        rw [g1, g2]
        have : (i + 1 ≤ j ∧ gi r j > gi m j) ↔ (i ≤ j ∧ gi r j > gi m j) := by
          by_cases e : j = i
          · subst e; omega
          · omega
        simp only [this, and_self]
    · rw [decide_eq_false (p := (i : Int) < ((l.length : Nat) : Int)) (by omega)]
      exact ⟨m, f, rfl, hm, hf, fun j hj => by rw [if_neg (by omega), if_neg (by omega)]; exact ⟨rfl, rfl⟩⟩

/-- The peaks up to a time. -/
structure Pk (C : Int → Nat → Int) (a b : Int) (m f : Int) (j : Nat) : Prop where
  nn : 0 ≤ m
  most : ∀ u, a ≤ u → u < b → C u j ≤ m
  low : a ≤ f
  first : (m = 0 ∧ f = a) ∨ (f < b ∧ C f j = m)
  less : ∀ u, a ≤ u → u < f → C u j < m

theorem peaks_l2 (k : Nat) (hk : 2000 ≤ k) {l : List Se} {a1 : List (List Nd)} (h : LdOk l a1) {a b : Int} (h0 : 0 ≤ a) (h1 : b ≤ 200001) (h2 : b - a ≤ 2000) : ∀ (n : Nat) (t : Int) (m f : List Int), a ≤ t → t ≤ b → b - t < n → m.length = l.length → f.length = l.length →
    (∀ j, j < l.length → Pk (fun u j => (cn k l u a1 j : Int)) a t (gi m j) (gi f j) j) →
    ∃ m' f', load_Peaks.l2 k l a1 (a, b) n (t, (m, f)) = some (m', (f', 0)) ∧ m'.length = l.length ∧ f'.length = l.length ∧ ∀ j, j < l.length → Pk (fun u j => (cn k l u a1 j : Int)) a b (gi m' j) (gi f' j) j := by
  intro n
  have hl := h.sec.len
  induction n with
  | zero => intro t _ _ _ h h'; omega
  | succ n ih =>
    intro t m f hat htb hn hm hf hp
    rw [load_Peaks.l2_succ]
    unfold load_Peaks.l2b
    dsimp only
    by_cases hlt : t < b
    · rw [decide_eq_true hlt, cond_true]
      obtain ⟨r, hr, hr1, hr2⟩ := count_eq k hk h t
      rw [hr]
      simp only [Option.bind_some]
      rw [cond_pos (c := decide (0 ≤ ((l.length : Nat) : Int)) && decide (((l.length : Nat) : Int) ≤ ((r.length : Nat) : Int))) (by simp; omega)]
      obtain ⟨m', f', e, e1, e2, e3⟩ := peaks_l1 k l hl t m f r (self26 := load_Peaks.l2 k l a1 (a, b) n) k 0 m f (by omega) (by omega) hm hf
      rw [show ((0 : Nat) : Int) = 0 from rfl] at e
      rw [e, w64_id (n := t + 1) (by omega) (by omega)]
      refine ih (t + 1) m' f' (by omega) (by omega) (by omega) e1 e2 fun j hj => ?_
      obtain ⟨g1, g2⟩ := e3 j hj
      have hq := hp j hj
      rw [hr2] at g1 g2
      by_cases hc : (cn k l t a1 j : Int) > gi m j
      · rw [if_pos ⟨Nat.zero_le _, hc⟩] at g1 g2
        rw [g1, g2]
        exact ⟨by omega, fun u g g' => by
          by_cases e : u = t
          · subst e; exact Int.le_refl _
          · have := hq.most u g (by omega); omega, hat, .inr ⟨by omega, rfl⟩, fun u g g' => by have := hq.most u g g'; omega⟩
      · rw [if_neg (fun g => hc g.2)] at g1 g2
        rw [g1, g2]
        exact ⟨hq.nn, fun u g g' => by
          by_cases e : u = t
          · subst e; omega
          · exact hq.most u g (by omega), hq.low, hq.first.imp (fun g => g) (fun g => ⟨by omega, g.2⟩), hq.less⟩
    · rw [decide_eq_false hlt, cond_false]
      have : t = b := by omega
      subst this
      exact ⟨m, f, rfl, hm, hf, hp⟩

/-- The peaks of a whole span. -/
structure Peak (C : Int → Nat → Int) (a b : Int) (m f : Int) (j : Nat) : Prop where
  nn : 0 ≤ m
  most : ∀ u, a ≤ u → u < b → C u j ≤ m
  low : a ≤ f
  high : f < b
  first : C f j = m
  less : ∀ u, a ≤ u → u < f → C u j < m

theorem Peaks_cases (k : Nat) (hk : 5000 ≤ k) (l : List Se) (a1 : List (List Nd)) (s : Int × Int) : (∃ e, e ≠ 0 ∧ load_Peaks.F k l a1 s = some ([], ([], e))) ∨
    (LdOk l a1 ∧ load_check.F k l a1 = some 0 ∧ load_span.F k s = some 0 ∧ 0 ≤ s.1 ∧ s.1 < s.2 ∧ s.2 ≤ 200001 ∧ s.2 - s.1 ≤ 2000 ∧ ∃ m f, load_Peaks.F k l a1 s = some (m, (f, 0)) ∧ m.length = l.length ∧ f.length = l.length ∧ ∀ j, j < l.length → Peak (fun u j => (cn k l u a1 j : Int)) s.1 s.2 (gi m j) (gi f j) j) := by
  unfold load_Peaks.F
  obtain ⟨e, he, hq⟩ := lchk_eq k (by omega) l a1
  rw [he]
  simp only [Option.bind_some]
  by_cases z : e = 0
  · rw [cond_neg (c := e != 0) (by simpa using z)]
    have h := hq z
    have hl := h.sec.len
    obtain ⟨e', he', hq'⟩ := span_eq k s
    rw [he']
    simp only [Option.bind_some]
    by_cases z' : e' = 0
    · rw [cond_neg (c := e' != 0) (by simpa using z')]
      obtain ⟨h0, h1, h2, h3⟩ := hq' z'
      rw [cond_pos (c := _ && _ && _) (by simp; omega), cond_pos (c := _ && _ && _) (by simp; omega), Int.toNat_natCast]
      obtain ⟨f, hf, hfl, hfg⟩ := peaks_l0 k l hl s k 0 (List.replicate l.length 0) (by omega) (by omega) (by simp)
      rw [show ((0 : Nat) : Int) = 0 from rfl] at hf
      rw [hf]
      simp only [Option.bind_some]
      obtain ⟨m', f', e1, e2, e3, e4⟩ := peaks_l2 k (by omega) h h0 h2 h3 k s.1 (List.replicate l.length 0) f (Int.le_refl _) (by omega) (by omega) (by simp) hfl (fun j hj => by
        rw [gi_rep, hfg j hj, if_neg (by omega)]
        exact ⟨Int.le_refl _, fun u g g' => by omega, Int.le_refl _, .inl ⟨rfl, rfl⟩, fun u g g' => by omega⟩)
      refine .inr ⟨h, by rw [z], by rw [z'], h0, h1, h2, h3, m', f', e1, e2, e3, fun j hj => ?_⟩
      have p := e4 j hj
      rcases p.first with ⟨q1, q2⟩ | ⟨q1, q2⟩
      · refine ⟨p.nn, p.most, p.low, by omega, ?_, p.less⟩
        have := p.most (gi f' j) p.low (by omega)
        omega
      · exact ⟨p.nn, p.most, p.low, q1, q2, p.less⟩
    · rw [cond_pos (c := e' != 0) (by simpa using z')]
      exact .inl ⟨e', z', rfl⟩
  · rw [cond_pos (c := e != 0) (by simpa using z)]
    exact .inl ⟨e, z, rfl⟩

attribute [local irreducible] load_Peaks.F load_span.F

/-! ### Overloads -/

abbrev Ov := Int × Int × Int
def ov (x : List Ov) (j : Nat) : Ov := x.getD j (0, (0, 0))
theorem ov_eq (x : List Ov) (j : Nat) : x.getD j (0, (0, 0)) = ov x j := rfl
theorem ov_set {x : List Ov} {j : Nat} (hj : j < x.length) (v : Ov) (i : Nat) : ov (x.set j v) i = if i = j then v else ov x i := by
  unfold ov
  rw [List.getD, List.getElem?_set, List.getD]
  by_cases e : j = i
  · subst e; rw [if_pos rfl, if_pos hj, if_pos rfl]; rfl
  · rw [if_neg e, if_neg (fun h => e h.symm)]
theorem ov_app {x : List Ov} (v : Ov) (i : Nat) (hi : i ≤ x.length) : ov (x ++ [v]) i = if i < x.length then ov x i else v := by
  unfold ov
  rw [List.getD, List.getD]
  by_cases h : i < x.length
  · rw [if_pos h, List.getElem?_append_left h]
  · rw [if_neg h, List.getElem?_append_right (by omega), show i - x.length = 0 by omega]; rfl

/-- No overload of a sector. -/
def NoOv (x : List Ov) (j : Nat) : Prop := ∀ q, q < x.length → (ov x q).1 ≠ (j : Int)
/-- The first overload of a sector. -/
def FirstOv (x : List Ov) (j : Nat) (f : Int) : Prop := ∃ p, p < x.length ∧ (ov x p).1 = (j : Int) ∧ (ov x p).2.1 = f ∧ ∀ q, q < p → (ov x q).1 ≠ (j : Int)

/-- What is known of a sector before a time. -/
def Kn (t : Int) (x : List Ov) (la : Int) (f : Int) (j : Nat) : Prop := (t ≤ f ∧ la = 0 ∧ NoOv x j) ∨ (f < t ∧ FirstOv x j f)

theorem Kn.set {t : Int} {x : List Ov} {la f : Int} {j : Nat} (h : Kn t x la f j) {p : Nat} (hp : p < x.length) (u : Int) : Kn t (x.set p ((ov x p).1, ((ov x p).2.1, u))) la f j := by
  have e : ∀ q, (ov (x.set p ((ov x p).1, ((ov x p).2.1, u))) q).1 = (ov x q).1 ∧ (ov (x.set p ((ov x p).1, ((ov x p).2.1, u))) q).2.1 = (ov x q).2.1 := fun q => by
    rw [ov_set hp]
    split
    · rename_i e; rw [e]; exact ⟨rfl, rfl⟩
    · exact ⟨rfl, rfl⟩
  rcases h with ⟨h1, h2, h3⟩ | ⟨h1, q, h2, h3, h4, h5⟩
  · exact .inl ⟨h1, h2, fun q hq => by rw [(e q).1]; exact h3 q (by rw [List.length_set] at hq; exact hq)⟩
  · exact .inr ⟨h1, q, by rw [List.length_set]; exact h2, by rw [(e q).1]; exact h3, by rw [(e q).2]; exact h4, fun r hr => by rw [(e r).1]; exact h5 r hr⟩

theorem FirstOv.app {x : List Ov} {f : Int} {j : Nat} (h : FirstOv x j f) (v : Ov) : FirstOv (x ++ [v]) j f := by
  obtain ⟨q, h2, h3, h4, h5⟩ := h
  have e : ∀ r, r ≤ q → ov (x ++ [v]) r = ov x r := fun r hr => by rw [ov_app v r (by omega), if_pos (by omega)]
  exact ⟨q, by rw [List.length_append, List.length_singleton]; omega, by rw [e q (Nat.le_refl _)]; exact h3, by rw [e q (Nat.le_refl _)]; exact h4, fun r hr => by rw [e r (by omega)]; exact h5 r hr⟩

theorem Kn.app {t : Int} {x : List Ov} {la f : Int} {j : Nat} (h : Kn t x la f j) {v : Ov} (hv : v.1 ≠ (j : Int)) : Kn t (x ++ [v]) la f j := by
  rcases h with ⟨h1, h2, h3⟩ | ⟨h1, h2⟩
  · refine .inl ⟨h1, h2, fun q hq => ?_⟩
    rw [List.length_append, List.length_singleton] at hq
    rw [ov_app v q (by omega)]
    split
    · rename_i e; exact h3 q e
    · exact hv
  · exact .inr ⟨h1, h2.app v⟩

/-- A round of overloads where each sector's number is at most its limit. -/
theorem over_none (k : Nat) (l : List Se) (hl : l.length ≤ 12) (lim r : List Int) (hlim : lim.length = l.length) (hle : ∀ j, j < l.length → gi r j ≤ gi lim j) (x0 : Int × List Ov × List Int) {self11 : (Int × List Ov × List Int) → Option (List Ov × Int)} : ∀ (n i : Nat) (x : List Ov) (la : List Int), i ≤ l.length → l.length - i < n → la.length = l.length →
    ∃ la', load_Over.l0 k l lim x0 self11 r n ((i : Int), (x, la)) = self11 (w64 (x0.1 + 1), (x, la')) ∧ la'.length = l.length := by
  intro n
  induction n with
  | zero => intro i _ _ _ h; omega
  | succ n ih =>
    intro i x la hi hn hla
    rw [load_Over.l0_succ]
    unfold load_Over.l0b
    dsimp only
    rw [Int.toNat_natCast, Nat.sub_zero]
    by_cases hlt : i < l.length
    · rw [decide_eq_true (p := (i : Int) < ((l.length : Nat) : Int)) (by omega), decide_eq_true (p := 0 ≤ (i : Int)) (by omega), hla, hlim, decide_eq_true (p := (i : Int) < ((l.length : Nat) : Int)) (by omega)]
      simp only [cond_true, Bool.and_self]
      rw [Int.toNat_natCast, gi_eq, gi_eq, decide_eq_true (hle i hlt), cond_true, show w64 ((i : Int) + 1) = ((i + 1 : Nat) : Int) from w64_id (by omega) (by omega)]
      exact ih (i + 1) x _ (by omega) (by omega) (by rw [List.length_set]; exact hla)
    · rw [decide_eq_false (p := (i : Int) < ((l.length : Nat) : Int)) (by omega)]
      exact ⟨la, rfl, hla⟩

theorem over_none1 (k : Nat) (hk : 2000 ≤ k) {l : List Se} {a1 : List (List Nd)} (h : LdOk l a1) {a b : Int} (h0 : 0 ≤ a) (h1 : b ≤ 200001) (lim : List Int) (hlim : lim.length = l.length) (hle : ∀ j, j < l.length → ∀ u, a ≤ u → u < b → (cn k l u a1 j : Int) ≤ gi lim j) : ∀ (n : Nat) (t : Int) (la : List Int), a ≤ t → t ≤ b → b - t < n → la.length = l.length →
    load_Over.l1 k l a1 lim (a, b) n (t, ([], la)) = some ([], 0) := by
  intro n
  have hl := h.sec.len
  induction n with
  | zero => intro t _ _ h h'; omega
  | succ n ih =>
    intro t la hat htb hn hla
    rw [load_Over.l1_succ]
    unfold load_Over.l1b
    dsimp only
    by_cases hlt : t < b
    · rw [decide_eq_true hlt, cond_true]
      obtain ⟨r, hr, hr1, hr2⟩ := count_eq k hk h t
      rw [hr]
      simp only [Option.bind_some]
      rw [cond_pos (c := decide (0 ≤ ((l.length : Nat) : Int)) && decide (((l.length : Nat) : Int) ≤ ((r.length : Nat) : Int))) (by simp; omega)]
      obtain ⟨la', e, e1⟩ := over_none k l hl lim r hlim (fun j hj => by rw [hr2]; exact hle j hj t hat hlt) (t, ([], la)) (self11 := load_Over.l1 k l a1 lim (a, b) n) k 0 [] la (by omega) (by omega) hla
      rw [show ((0 : Nat) : Int) = 0 from rfl] at e
      rw [e]
      dsimp only
      rw [w64_id (n := t + 1) (by omega) (by omega)]
      exact ih (t + 1) la' (by omega) (by omega) (by omega) e1
    · rw [decide_eq_false hlt]
      rfl

/-- A round of overloads with limits below the peaks. -/
theorem over_less (k : Nat) (l : List Se) (hl : l.length ≤ 12) (lim r fs : List Int) (t : Int) (hlim : lim.length = l.length) (hb : ∀ j, j < l.length → t < gi fs j → gi r j ≤ gi lim j) (hat : ∀ j, j < l.length → t = gi fs j → gi r j > gi lim j) (x0 : List Ov × List Int) {self11 : (Int × List Ov × List Int) → Option (List Ov × Int)} : ∀ (n i : Nat) (x : List Ov) (la : List Int), i ≤ l.length → l.length - i < n → la.length = l.length → x.length + (l.length - i) ≤ 1000000 → (∀ j, j < l.length → 0 ≤ gi la j ∧ gi la j ≤ x.length) → (∀ j, j < l.length → Kn (if j < i then t + 1 else t) x (gi la j) (gi fs j) j) →
    ∃ x' la', load_Over.l0 k l lim (t, x0) self11 r n ((i : Int), (x, la)) = self11 (w64 (t + 1), (x', la')) ∧ la'.length = l.length ∧ x'.length ≤ x.length + (l.length - i) ∧ (∀ j, j < l.length → 0 ≤ gi la' j ∧ gi la' j ≤ x'.length) ∧ ∀ j, j < l.length → Kn (t + 1) x' (gi la' j) (gi fs j) j := by
  intro n
  induction n with
  | zero => intro i _ _ _ h; omega
  | succ n ih =>
    intro i x la hi hn hla hx hlab hkn
    rw [load_Over.l0_succ]
    unfold load_Over.l0b
    dsimp only
    rw [Int.toNat_natCast, Nat.sub_zero]
    by_cases hlt : i < l.length
    · rw [decide_eq_true (p := (i : Int) < ((l.length : Nat) : Int)) (by omega), decide_eq_true (p := 0 ≤ (i : Int)) (by omega), hla, hlim, decide_eq_true (p := (i : Int) < ((l.length : Nat) : Int)) (by omega)]
      simp only [cond_true, Bool.and_self]
      rw [Int.toNat_natCast, gi_eq r, gi_eq lim, gi_eq la, show w64 ((i : Int) + 1) = ((i + 1 : Nat) : Int) from w64_id (by omega) (by omega)]
      have hki := hkn i hlt
      rw [if_neg (Nat.lt_irrefl i)] at hki
      have hli := hlab i hlt
      have rest : ∀ (x' : List Ov) (v : Int), x'.length ≤ x.length + 1 → x.length ≤ x'.length → 0 ≤ v → v ≤ x'.length → Kn (t + 1) x' v (gi fs i) i → (∀ j, j < l.length → j ≠ i → Kn (if j < i then t + 1 else t) x' (gi la j) (gi fs j) j) →
          ∃ x'' la', load_Over.l0 k l lim (t, x0) self11 r n (((i + 1 : Nat) : Int), (x', la.set i v)) = self11 (w64 (t + 1), (x'', la')) ∧ la'.length = l.length ∧ x''.length ≤ x.length + (l.length - i) ∧ (∀ j, j < l.length → 0 ≤ gi la' j ∧ gi la' j ≤ x''.length) ∧ ∀ j, j < l.length → Kn (t + 1) x'' (gi la' j) (gi fs j) j := by
        intro x' v h1 h1' h2 h3 h4 h5
        obtain ⟨x'', la', e1, e2, e3, e4, e5⟩ := ih (i + 1) x' (la.set i v) (by omega) (by omega) (by rw [List.length_set]; exact hla) (by omega) (fun j hj => by
          rw [gi_set (by omega)]
          split
          · exact ⟨h2, h3⟩
          · have := hlab j hj; omega) (fun j hj => by
          rw [gi_set (by omega)]
          by_cases e : j = i
          · subst e
            rw [if_pos (by omega), if_pos rfl]
            exact h4
          · rw [if_neg e]
            have := h5 j hj e
            by_cases g : j < i
            · rw [if_pos g] at this
              rw [if_pos (by omega)]
              exact this
            · rw [if_neg g] at this
              rw [if_neg (by omega)]
              exact this)
        exact ⟨x'', la', e1, e2, by omega, e4, e5⟩
      by_cases hc : gi r i ≤ gi lim i
      · rw [decide_eq_true hc, cond_true]
        refine rest x 0 (by omega) (Nat.le_refl _) (by omega) (by omega) ?_ (fun j hj _ => hkn j hj)
        rcases hki with ⟨h1, h2, h3⟩ | ⟨h1, h2⟩
        · have : t ≠ gi fs i := fun e => by have := hat i hlt e; omega
          exact .inl ⟨by omega, rfl, h3⟩
        · exact .inr ⟨by omega, h2⟩
      · rw [decide_eq_false hc, cond_false]
        have hf : gi fs i ≤ t := by
          rcases Int.lt_or_le t (gi fs i) with g | g
          · exact absurd (hb i hlt g) hc
          · exact g
        by_cases hp : gi la i > 0
        · rw [decide_eq_true hp, cond_true, w64_id (n := gi la i - 1) (by omega) (by omega), inIdx (n := x.length) (by omega) (by omega), cond_true]
          rw [show la = la.set i (gi la i) by
            refine List.ext_getElem? fun j => ?_
            rw [List.getElem?_set]
            split
            · rename_i e
              subst e
              rw [if_pos (by omega)]
              unfold gi
              rw [List.getD, List.getElem?_eq_getElem (by omega)]
              rfl
            · rfl]
          have hix : (gi la i - 1).toNat < x.length := by omega
          simp only [ov_eq, gi_set (show i < la.length by omega), if_true]
          refine rest _ (gi la i) (by rw [List.length_set]; omega) (by rw [List.length_set]; exact Nat.le_refl _) (by omega) (by rw [List.length_set]; omega) ?_ (fun j hj _ => (hkn j hj).set hix t)
          rcases hki with ⟨h1, h2, h3⟩ | ⟨h1, h2⟩
          · omega
          · exact .inr ⟨by omega, ((Kn.set (.inr ⟨h1, h2⟩ : Kn t x (gi la i) (gi fs i) i) hix t).resolve_left (fun g => by omega)).2⟩
        · rw [decide_eq_false hp, cond_false, Nat.ble_eq_true_of_le (show (x.length + 1) * 24 ≤ 140737488355328 by omega), cond_true]
          refine rest _ _ (by rw [List.length_append, List.length_singleton]; exact Nat.le_refl _) (by rw [List.length_append, List.length_singleton]; omega) (by omega) (Int.le_refl _) ?_ (fun j hj e => (hkn j hj).app (fun g => e (by dsimp only at g; omega)))
          refine .inr ⟨by omega, ?_⟩
          rcases hki with ⟨h1, h2, h3⟩ | ⟨h1, h2⟩
          · have e : t = gi fs i := by omega
            refine ⟨x.length, by rw [List.length_append, List.length_singleton]; omega, ?_, ?_, fun q hq => ?_⟩
            · rw [ov_app _ _ (Nat.le_refl _), if_neg (Nat.lt_irrefl _)]
            · rw [ov_app _ _ (Nat.le_refl _), if_neg (Nat.lt_irrefl _)]; exact e
            · rw [ov_app _ _ (by omega), if_pos hq]; exact h3 q hq
          · exact h2.app _
    · rw [decide_eq_false (p := (i : Int) < ((l.length : Nat) : Int)) (by omega)]
      exact ⟨x, la, rfl, hla, by omega, hlab, fun j hj => by have := hkn j hj; rw [if_pos (by omega)] at this; exact this⟩

theorem over_less1 (k : Nat) (hk : 2000 ≤ k) {l : List Se} {a1 : List (List Nd)} (h : LdOk l a1) {a b : Int} (h0 : 0 ≤ a) (h1 : b ≤ 200001) (h3 : b - a ≤ 2000) (lim fs : List Int) (hlim : lim.length = l.length) (hp : ∀ j, j < l.length → Peak (fun u j => (cn k l u a1 j : Int)) a b (gi lim j + 1) (gi fs j) j) : ∀ (n : Nat) (t : Int) (x : List Ov) (la : List Int), a ≤ t → t ≤ b → b - t < n → la.length = l.length → x.length ≤ 12 * (t - a).toNat → (∀ j, j < l.length → 0 ≤ gi la j ∧ gi la j ≤ x.length) → (∀ j, j < l.length → Kn t x (gi la j) (gi fs j) j) →
    ∃ x', load_Over.l1 k l a1 lim (a, b) n (t, (x, la)) = some (x', 0) ∧ x'.length ≤ 12 * (b - a).toNat ∧ ∀ j, j < l.length → FirstOv x' j (gi fs j) := by
  intro n
  have hl := h.sec.len
  induction n with
  | zero => intro t _ _ _ h h'; omega
  | succ n ih =>
    intro t x la hat htb hn hla hx hlab hkn
    rw [load_Over.l1_succ]
    unfold load_Over.l1b
    dsimp only
    by_cases hlt : t < b
    · rw [decide_eq_true hlt, cond_true]
      obtain ⟨r, hr, hr1, hr2⟩ := count_eq k hk h t
      rw [hr]
      simp only [Option.bind_some]
      rw [cond_pos (c := decide (0 ≤ ((l.length : Nat) : Int)) && decide (((l.length : Nat) : Int) ≤ ((r.length : Nat) : Int))) (by simp; omega)]
      obtain ⟨x', la', e, e1, e2, e3, e4⟩ := over_less k l hl lim r fs t hlim (fun j hj g => by have := (hp j hj).less t hat g; rw [hr2]; omega) (fun j hj g => by have := (hp j hj).first; rw [hr2, g]; omega) (x, la) (self11 := load_Over.l1 k l a1 lim (a, b) n) k 0 x la (by omega) (by omega) hla (by omega) hlab (fun j hj => by rw [if_neg (by omega)]; exact hkn j hj)
      rw [show ((0 : Nat) : Int) = 0 from rfl] at e
      rw [e, w64_id (n := t + 1) (by omega) (by omega)]
      exact ih (t + 1) x' la' (by omega) (by omega) (by omega) e1 (by omega) e3 e4
    · rw [decide_eq_false hlt, cond_false]
      have : t = b := by omega
      subst this
      exact ⟨x, rfl, hx, fun j hj => ((hkn j hj).resolve_left (fun g => by have := (hp j hj).high; omega)).2⟩

/-! ### The law -/

theorem dec_all (k : Nat) (r6 : List Int) (hr6 : r6.length ≤ 12) : ∀ (n i : Nat) (x : List Int), i ≤ r6.length → r6.length - i < n → x.length = r6.length → (∀ j, j < r6.length → -1 ≤ gi x j ∧ gi x j ≤ 1000) → (∀ j, j < r6.length → i ≤ j → 0 ≤ gi x j) →
    ∃ r, skywaykeep3_LoadLimits.l0 k r6 n ((i : Int), x) = some (.inl r) ∧ r.length = r6.length ∧ ∀ j, j < r6.length → gi r j = if i ≤ j then gi x j - 1 else gi x j := by
  intro n
  induction n with
  | zero => intro i _ _ h; omega
  | succ n ih =>
    intro i x hi hn hx hb hb2
    rw [skywaykeep3_LoadLimits.l0_succ]
    unfold skywaykeep3_LoadLimits.l0b
    dsimp only
    by_cases hlt : i < r6.length
    · rw [decide_eq_true (p := (i : Int) < ((r6.length : Nat) : Int)) (by omega), inIdx (n := x.length) (by omega) (by omega)]
      simp only [cond_true]
      have := hb i hlt
      rw [Int.toNat_natCast, gi_eq, w64_id (n := gi x i - 1) (by omega) (by omega), show w64 ((i : Int) + 1) = ((i + 1 : Nat) : Int) from w64_id (by omega) (by omega)]
      have h2 := hb2 i hlt (Nat.le_refl _)
      obtain ⟨r, hr, h1, h2⟩ := ih (i + 1) (x.set i (gi x i - 1)) (by omega) (by omega) (by rw [List.length_set]; exact hx) (fun j hj => by rw [gi_set (by omega)]; have := hb j hj; split <;> omega) (fun j hj g => by rw [gi_set (by omega), if_neg (by omega)]; exact hb2 j hj (by omega))
      refine ⟨r, hr, h1, fun j hj => ?_⟩
      rw [h2 j hj, gi_set (by omega)]
      by_cases g : j = i
      · subst g; rw [if_neg (by omega), if_pos rfl, if_pos (Nat.le_refl _)]
      · rw [if_neg g]
        by_cases g' : i ≤ j
        · rw [if_pos g', if_pos (by omega)]
        · rw [if_neg g', if_neg (by omega)]
    · rw [decide_eq_false (p := (i : Int) < ((r6.length : Nat) : Int)) (by omega)]
      exact ⟨x, rfl, hx, fun j hj => by rw [if_neg (by omega)]⟩

theorem find_l1 (k : Nat) (m f : List Int) (x : List Ov) (hx : x.length ≤ 100000) (i : Nat) (hi : i < f.length) (p : Nat) (hp : p < x.length) (h1 : (ov x p).1 = (i : Int)) (h2 : (ov x p).2.1 = gi f i) (h3 : ∀ q, q < p → (ov x q).1 ≠ (i : Int)) {self16 : Int → Option Bool} : ∀ (n q : Nat), q ≤ p → p - q < n →
    skywaykeep3_LoadLimits.l1 k (m, (f, 0)) (x, 0) (i : Int) self16 n (q : Int) = self16 (w64 ((i : Int) + 1)) := by
  intro n
  induction n with
  | zero => intro q _ h; omega
  | succ n ih =>
    intro q hq hn
    rw [skywaykeep3_LoadLimits.l1_succ]
    unfold skywaykeep3_LoadLimits.l1b
    dsimp only
    rw [decide_eq_true (p := (q : Int) < ((x.length : Nat) : Int)) (by omega), decide_eq_true (p := 0 ≤ (q : Int)) (by omega), decide_eq_true (p := 0 ≤ (i : Int)) (by omega), decide_eq_true (p := (i : Int) < ((f.length : Nat) : Int)) (by omega), decide_eq_false (p := (q : Int) < 0) (by omega)]
    simp only [cond_true, cond_false, Bool.and_self, Option.bind_some, Int.toNat_natCast, gi_eq]
    have hg : x.getD q (0, (0, 0)) = ov x q := rfl
    rw [hg]
    by_cases e : q = p
    · subst e
      rw [h1, h2, cond_pos (c := (i : Int) == (i : Int)) (by simp), cond_neg (c := gi f i != gi f i) (by simp)]
    · rw [cond_neg (c := (ov x q).1 == (i : Int)) (beq_false_of_ne (h3 q (by omega))), show w64 ((q : Int) + 1) = ((q + 1 : Nat) : Int) from w64_id (by omega) (by omega)]
      exact ih (q + 1) (by omega) (by omega)

theorem find_l2 (k : Nat) (m f : List Int) (x : List Ov) (hk : x.length < k) (hx : x.length ≤ 100000) (hm : m.length ≤ 12) (hf : f.length = m.length) (h : ∀ j, j < m.length → FirstOv x j (gi f j)) : ∀ (n i : Nat), i ≤ m.length → m.length - i < n →
    skywaykeep3_LoadLimits.l2 k (m, (f, 0)) (x, 0) n (i : Int) = some true := by
  intro n
  induction n with
  | zero => intro i _ h; omega
  | succ n ih =>
    intro i hi hn
    rw [skywaykeep3_LoadLimits.l2_succ]
    unfold skywaykeep3_LoadLimits.l2b
    dsimp only
    by_cases hlt : i < m.length
    · rw [decide_eq_true (p := (i : Int) < ((m.length : Nat) : Int)) (by omega), cond_true]
      obtain ⟨p, hp, h1, h2, h3⟩ := h i hlt
      have := find_l1 k m f x hx i (by omega) p hp h1 h2 h3 (self16 := skywaykeep3_LoadLimits.l2 k (m, (f, 0)) (x, 0) n) k 0 (Nat.zero_le _) (by omega)
      rw [show ((0 : Nat) : Int) = 0 from rfl] at this
      rw [this, show w64 ((i : Int) + 1) = ((i + 1 : Nat) : Int) from w64_id (by omega) (by omega)]
      exact ih (i + 1) (by omega) (by omega)
    · rw [decide_eq_false (p := (i : Int) < ((m.length : Nat) : Int)) (by omega)]
      rfl

theorem Over_told (k : Nat) {l : List Se} {a1 : List (List Nd)} {s : Int × Int} (hl : l.length ≤ 12) (h1 : load_check.F k l a1 = some 0) (h2 : load_span.F k s = some 0) {lim : List Int} (h3 : lim.length = l.length) : load_Over.F k l a1 lim s = load_Over.l1 k l a1 lim s k (s.1, ([], List.replicate l.length 0)) := by
  unfold load_Over.F
  rw [h1]
  simp only [Option.bind_some]
  rw [cond_neg (c := (0 : Int) != 0) (by rfl), h3, cond_neg (c := ((l.length : Nat) : Int) != ((l.length : Nat) : Int)) (by simp), h2]
  simp only [Option.bind_some]
  rw [cond_neg (c := (0 : Int) != 0) (by rfl), cond_pos (c := _ && _ && _) (by simp; omega), Int.toNat_natCast]

theorem LoadLimits_plain (k : Nat) (hk : 300000 ≤ k) (hf : skywaykeep3_loadFact.F k = some true) (l : List Se) (a1 : List (List Nd)) (s : Int × Int) : skywaykeep3_LoadLimits.F k l a1 s = some true := by
  unfold skywaykeep3_LoadLimits.F
  obtain ⟨r, hr, _⟩ := small_eq k (by omega) a1 6 400 (by omega)
  rw [hf, hr]
  simp only [Option.bind_some, Bool.not_true, cond_false]
  cases r with
  | false => rfl
  | true =>
    simp only [Bool.not_true, cond_false]
    rcases Peaks_cases k (by omega) l a1 s with ⟨e, he, h⟩ | ⟨h, hc, hsp, h0, h1, h2, h3, m, f, hp, hm, hfl, hpk⟩
    · rw [h]
      simp only [Option.bind_some]
      rw [cond_pos (c := e != 0) (by simpa using he)]
      rfl
    · rw [hp]
      simp only [Option.bind_some]
      have hl := h.sec.len
      rw [cond_neg (c := (0 : Int) != 0) (by rfl)]
      simp only [Option.bind_some]
      by_cases hz : m.length = 0
      · rw [cond_pos (c := ((m.length : Nat) : Int) == 0) (by rw [hz]; rfl), hfl, ← hm, hz]
        rfl
      · rw [cond_neg (c := ((m.length : Nat) : Int) == 0) (beq_false_of_ne (by omega))]
        rw [Over_told k hl hc hsp hm]
        have hn := over_none1 k (by omega) h h0 h2 m hm (fun j hj => (hpk j hj).most) k s.1 (List.replicate l.length 0) (Int.le_refl _) (by omega) (by omega) (by simp)
        rw [hn]
        simp only [Option.bind_some]
        rw [show slices_Clone_int.F k m = some m by
          unfold slices_Clone_int.F
          rw [Nat.ble_eq_true_of_le (show (0 + m.length) * 8 ≤ 140737488355328 by omega)]
          rfl]
        simp only [Option.bind_some]
        have hcnb : ∀ j, j < l.length → 0 ≤ gi m j ∧ gi m j ≤ 24 := fun j hj => by
          have p := hpk j hj
          have := cn_le k l (gi f j) a1 j
          have := h.few
          have := p.first
          omega
        obtain ⟨q, hq, hq1, hq2⟩ := dec_all k m (by omega) k 0 m (by omega) (by omega) rfl (fun j hj => by have := hcnb j (by omega); omega) (fun j hj _ => (hcnb j (by omega)).1)
        rw [show ((0 : Nat) : Int) = 0 from rfl] at hq
        rw [hq]
        simp only [Option.bind_some]
        rw [Over_told k hl hc hsp (hq1.trans hm)]
        obtain ⟨x', e1, e2, e3⟩ := over_less1 k (by omega) h h0 h2 h3 q f (hq1.trans hm) (fun j hj => by
          have g := hq2 j (by omega)
          rw [if_pos (Nat.zero_le _)] at g
          rw [show gi q j + 1 = gi m j by omega]
          exact hpk j hj) k s.1 [] (List.replicate l.length 0) (Int.le_refl _) (by omega) (by omega) (by simp) (by simp) (fun j hj => by rw [gi_rep]; simp) (fun j hj => by
          rw [gi_rep]
          exact .inl ⟨(hpk j hj).low, rfl, fun q hq => by simp at hq⟩)
        rw [e1]
        simp only [Option.bind_some]
        rw [cond_neg (c := (0 : Int) != 0) (by rfl)]
        simp only [Option.bind_some]
        rw [cond_neg (c := (0 : Int) != 0) (by rfl)]
        simp only [Option.bind_some, List.length_nil]
        rw [cond_neg (c := decide (((0 : Nat) : Int) > 0)) (by rfl)]
        simp only [Option.bind_some]
        rw [cond_neg (c := ((f.length : Nat) : Int) != ((m.length : Nat) : Int)) (by rw [hfl, hm]; simp)]
        exact find_l2 k m f x' (by omega) (by omega) (by omega) (hfl.trans hm.symm) (fun j hj => e3 j (by omega)) k 0 (by omega) (by omega)

attribute [local irreducible] skywaykeep3_LoadLimits.F
theorem llim_cal (k : Nat) (x : DatPs (skywaykeep3_LoadLimits.C 0).ats) : (skywaykeep3_LoadLimits.C k).F x = skywaykeep3_LoadLimits.F k x.1 x.2.1 x.2.2 := rfl
theorem LoadLimits_law (x : DatPs (skywaykeep3_LoadLimits.C 0).ats) (_ : FitPs (skywaykeep3_LoadLimits.C 0).ats x) : ∃ k, (skywaykeep3_LoadLimits.C k).F x = some true :=
  ⟨300000 + 1000, (llim_cal _ x).trans (LoadLimits_plain (300000 + 1000) (by omega) (loadfact 300000) x.1 x.2.1 x.2.2)⟩

end Go.Proofs.Ytpnaicfmaglelaa.RT
