/- What is proved here: what the check of a tube, quotients rounded down and up, and the node of a tube at a time come to. They ask nothing. -/
import Derived.Test.YtdpchhbbmlhklaaGreatDoorRsT
import Derived.Test.YtdpchhbbmlhklaaGreatDoorPlA
namespace Go.Proofs.YtdpchhbbmlhklaaGreatDoor.RT
open Go Go.R

abbrev Nd := (Int × (Int × Int) × Int) × Int × Int
abbrev nd0 : Nd := ((0, ((0, 0), 0)), (0, 0))
def nd (l : List Nd) (j : Nat) : Nd := l.getD j ((0, ((0, 0), 0)), (0, 0))
theorem nd_eq (l : List Nd) (j : Nat) : l.getD j ((0, ((0, 0), 0)), (0, 0)) = nd l j := rfl
theorem nd_mem {l : List Nd} {j : Nat} (h : j < l.length) : nd l j ∈ l := by unfold nd; simp [List.getD, h]
theorem nd_of {l : List Nd} {m : Nd} (h : m ∈ l) : ∃ j, j < l.length ∧ nd l j = m := by
  obtain ⟨j, hj, e⟩ := List.mem_iff_getElem.1 h
  exact ⟨j, hj, by unfold nd; simp [List.getD, hj, e]⟩
/-- A node's time. -/
def tm (l : List Nd) (j : Nat) : Int := (nd l j).1.1
theorem tm_eq (l : List Nd) (j : Nat) : (nd l j).1.1 = tm l j := rfl

/-! ### Points -/

def PtOk (p : Int × Int) : Prop := -1000000 ≤ p.1 ∧ p.1 ≤ 1000000 ∧ -1000000 ≤ p.2 ∧ p.2 ≤ 1000000
instance (p : Int × Int) : Decidable (PtOk p) := by unfold PtOk; infer_instance

theorem pchk_eq (k : Nat) (p : Int × Int) : plane_Check.F k p = some (if PtOk p then 0 else 4) := by
  unfold plane_Check.F
  simp only [cond_some, Option.bind_some]
  by_cases h1 : p.1 < -1000000
  · rw [decide_eq_true h1, if_neg (show ¬ PtOk p by unfold PtOk; omega)]; rfl
  rw [decide_eq_false h1]
  by_cases h2 : p.1 > 1000000
  · rw [decide_eq_true h2, if_neg (show ¬ PtOk p by unfold PtOk; omega)]; rfl
  rw [decide_eq_false h2]
  by_cases h3 : p.2 < -1000000
  · rw [decide_eq_true h3, if_neg (show ¬ PtOk p by unfold PtOk; omega)]; rfl
  rw [decide_eq_false h3]
  by_cases h4 : p.2 > 1000000
  · rw [decide_eq_true h4, if_neg (show ¬ PtOk p by unfold PtOk; omega)]; rfl
  rw [decide_eq_false h4, if_pos (show PtOk p by unfold PtOk; omega)]; rfl

attribute [local irreducible] plane_Check.F

/-! ### Tubes -/

structure NdOk (n : Nd) : Prop where
  time : 0 ≤ n.1.1 ∧ n.1.1 ≤ 200000
  pt : PtOk n.1.2.1
  height : 0 ≤ n.1.2.2 ∧ n.1.2.2 ≤ 60000
  radius : 0 ≤ n.2.1 ∧ n.2.1 ≤ 1000000
  band : 0 ≤ n.2.2 ∧ n.2.2 ≤ 60000

/-- A valid tube. -/
structure TubeOk (l : List Nd) : Prop where
  pos : 0 < l.length
  len : l.length ≤ 64
  node : ∀ n ∈ l, NdOk n
  ord : l.Pairwise fun a b => a.1.1 < b.1.1

/-- Behind a time: the rest of a tube. -/
def TubL : Option Int → List Nd → Prop
  | _, [] => True
  | p, n :: r => NdOk n ∧ (∀ q, p = some q → q < n.1.1) ∧ TubL (some n.1.1) r

theorem tubL_iff (l : List Nd) : ∀ p, TubL p l ↔ (∀ n ∈ l, NdOk n ∧ ∀ q, p = some q → q < n.1.1) ∧ l.Pairwise fun a b => a.1.1 < b.1.1 := by
  induction l with
  | nil => intro p; simp [TubL]
  | cons m r ih =>
    intro p
    simp only [TubL, ih, List.pairwise_cons, List.mem_cons, forall_eq_or_imp]
    constructor
    · rintro ⟨h1, h2, h3, h4⟩
      exact ⟨⟨⟨h1, h2⟩, fun x hx => ⟨(h3 x hx).1, fun q hq => by have := h2 q hq; have := (h3 x hx).2 _ rfl; omega⟩⟩, fun x hx => (h3 x hx).2 _ rfl, h4⟩
    · rintro ⟨⟨⟨h1, h2⟩, h3⟩, h4, h5⟩
      exact ⟨h1, h2, fun x hx => ⟨(h3 x hx).1, fun q hq => by cases hq; exact h4 x hx⟩, h5⟩

theorem tubeOk_iff {l : List Nd} (h0 : 0 < l.length) (hl : l.length ≤ 64) : TubL none l ↔ TubeOk l := by
  rw [tubL_iff]
  exact ⟨fun h => ⟨h0, hl, fun n hn => (h.1 n hn).1, h.2⟩, fun h => ⟨fun n hn => ⟨h.node n hn, fun q hq => by cases hq⟩, h.ord⟩⟩

def before (l : List Nd) (i : Nat) : Option Int := if i = 0 then none else some (tm l (i - 1))

theorem tcheck_loop (k : Nat) (l : List Nd) (hl : l.length ≤ 64) : ∀ n i : Nat, i ≤ l.length → l.length - i < n →
    ∃ e, tube_Check.l0 k l n i = some e ∧ (e = 0 ↔ TubL (before l i) (l.drop i)) := by
  intro n
  induction n with
  | zero => intro i _ h; omega
  | succ n ih =>
    intro i hi hn
    rw [tube_Check.l0_succ]
    unfold tube_Check.l0b
    by_cases hlt : i < l.length
    · have hd := drop_cons hlt (nd0 : Nd)
      rw [nd_eq] at hd
      rw [decide_eq_true (p := (i : Int) < ((l.length : Nat) : Int)) (by omega), decide_eq_true (p := 0 ≤ (i : Int)) (by omega)]
      simp only [Bool.and_self, cond_true, getD_nat, nd_eq, tm_eq]
      rw [hd]
      simp only [TubL, tm_eq]
      by_cases h1 : tm l i < 0
      · rw [decide_eq_true h1]
        exact ⟨12, rfl, ⟨fun h => absurd h (by decide), fun h => by have := h.1.time.1; rw [tm_eq] at this; omega⟩⟩
      rw [decide_eq_false h1]
      by_cases h2 : tm l i > 200000
      · rw [decide_eq_true h2]
        exact ⟨12, rfl, ⟨fun h => absurd h (by decide), fun h => by have := h.1.time.2; rw [tm_eq] at this; omega⟩⟩
      rw [decide_eq_false h2]
      simp only [cond_false]
      have hX : (bif decide ((i : Int) > 0) then bif decide (0 ≤ w64 ((i : Int) - 1)) && decide (w64 ((i : Int) - 1) < ((l.length : Nat) : Int)) then some (Sum.inl (decide (tm l i ≤ tm l (w64 ((i : Int) - 1)).toNat))) else none else some (Sum.inl false) : Option (Bool ⊕ Int)) = some (Sum.inl (decide (¬ ∀ q, before l i = some q → q < tm l i))) := by
        by_cases hz : i = 0
        · subst hz
          rw [decide_eq_false (p := ¬ ∀ q, before l 0 = some q → q < tm l 0) (by simp [before])]
          rfl
        · rw [decide_eq_true (p := (i : Int) > 0) (by omega), w64_id (n := (i : Int) - 1) (by omega) (by omega), inIdx (n := l.length) (by omega) (by omega), show ((i : Int) - 1).toNat = i - 1 by omega]
          simp only [cond_true, before, hz, if_false, Option.some.injEq, forall_eq']
          congr 2
          exact propext (by omega)
      rw [hX]
      simp only [Option.bind_some]
      by_cases h3 : ∀ q, before l i = some q → q < tm l i
      · rw [decide_eq_false (p := ¬ ∀ q, before l i = some q → q < tm l i) (by simpa using h3)]
        simp only [cond_false, pchk_eq, Option.bind_some]
        by_cases h4 : PtOk (nd l i).1.2.1
        · rw [if_pos h4, cond_neg (c := (0 : Int) != 0) (by rfl)]
          simp only [cond_some, Option.bind_some]
          by_cases g1 : (nd l i).1.2.2 < 0
          · rw [decide_eq_true g1]
            exact ⟨4, rfl, ⟨fun h => absurd h (by decide), fun h => by have := h.1.height.1; omega⟩⟩
          rw [decide_eq_false g1]
          by_cases g2 : (nd l i).1.2.2 > 60000
          · rw [decide_eq_true g2]
            exact ⟨4, rfl, ⟨fun h => absurd h (by decide), fun h => by have := h.1.height.2; omega⟩⟩
          rw [decide_eq_false g2]
          by_cases g3 : (nd l i).2.1 < 0
          · rw [decide_eq_true g3]
            exact ⟨4, rfl, ⟨fun h => absurd h (by decide), fun h => by have := h.1.radius.1; omega⟩⟩
          rw [decide_eq_false g3]
          by_cases g4 : (nd l i).2.1 > 1000000
          · rw [decide_eq_true g4]
            exact ⟨4, rfl, ⟨fun h => absurd h (by decide), fun h => by have := h.1.radius.2; omega⟩⟩
          rw [decide_eq_false g4]
          by_cases g5 : (nd l i).2.2 < 0
          · rw [decide_eq_true g5]
            exact ⟨4, rfl, ⟨fun h => absurd h (by decide), fun h => by have := h.1.band.1; omega⟩⟩
          rw [decide_eq_false g5]
          by_cases g6 : (nd l i).2.2 > 60000
          · rw [decide_eq_true g6]
            exact ⟨4, rfl, ⟨fun h => absurd h (by decide), fun h => by have := h.1.band.2; omega⟩⟩
          rw [decide_eq_false g6]
          simp only [cond_false]
          rw [show w64 ((i : Int) + 1) = ((i + 1 : Nat) : Int) from w64_id (by omega) (by omega)]
          obtain ⟨e, he, hi2⟩ := ih (i + 1) (by omega) (by omega)
          refine ⟨e, he, hi2.trans ?_⟩
          rw [before, if_neg (by omega), Nat.add_sub_cancel]
          exact ⟨fun h => ⟨⟨⟨by rw [tm_eq]; omega, by rw [tm_eq]; omega⟩, h4, ⟨by omega, by omega⟩, ⟨by omega, by omega⟩, ⟨by omega, by omega⟩⟩, h3, h⟩, fun h => h.2.2⟩
        · rw [if_neg h4]
          exact ⟨4, rfl, ⟨fun h => absurd h (by decide), fun h => absurd h.1.pt h4⟩⟩
      · rw [decide_eq_true (p := ¬ ∀ q, before l i = some q → q < tm l i) h3]
        exact ⟨12, rfl, ⟨fun h => absurd h (by decide), fun h => absurd h.2.1 h3⟩⟩
    · rw [decide_eq_false (p := (i : Int) < ((l.length : Nat) : Int)) (by omega), List.drop_eq_nil_of_le (by omega)]
      exact ⟨0, rfl, by simp [TubL]⟩

theorem tcheck_eq (k : Nat) (hk : 100 ≤ k) (l : List Nd) : ∃ e, tube_Check.F k l = some e ∧ (e = 0 ↔ TubeOk l) := by
  unfold tube_Check.F
  by_cases hl : l.length ≤ 64
  · rw [cond_neg (decide_eq_false (by omega))]
    by_cases h0 : l.length = 0
    · rw [cond_pos (c := ((l.length : Nat) : Int) == 0) (by simp [h0])]
      exact ⟨3, rfl, ⟨fun h => absurd h (by decide), fun h => by have := h.pos; omega⟩⟩
    · rw [cond_neg (c := ((l.length : Nat) : Int) == 0) (by simpa using h0)]
      obtain ⟨e, he, h⟩ := tcheck_loop k l hl k 0 (by omega) (by omega)
      exact ⟨e, he, h.trans (tubeOk_iff (l := l) (by omega) hl)⟩
  · rw [cond_pos (decide_eq_true (by omega))]
    exact ⟨2, rfl, ⟨fun h => absurd h (by decide), fun h => absurd h.len hl⟩⟩

attribute [local irreducible] tube_Check.F

theorem tcheck_pos {k : Nat} (hk : 100 ≤ k) {l : List Nd} (h : TubeOk l) : tube_Check.F k l = some 0 := by
  obtain ⟨e, he, hi⟩ := tcheck_eq k hk l
  rw [he, hi.2 h]
theorem tcheck_neg {k : Nat} (hk : 100 ≤ k) {l : List Nd} (h : ¬ TubeOk l) : ∃ e, e ≠ 0 ∧ tube_Check.F k l = some e := by
  obtain ⟨e, he, hi⟩ := tcheck_eq k hk l
  exact ⟨e, fun e0 => h (hi.1 e0), he⟩

theorem TubeOk.at {l : List Nd} (h : TubeOk l) {j : Nat} (hj : j < l.length) : NdOk (nd l j) := h.node _ (nd_mem hj)
theorem TubeOk.lt {l : List Nd} (h : TubeOk l) {i j : Nat} (hij : i < j) (hj : j < l.length) : tm l i < tm l j := by
  have := List.pairwise_iff_getElem.1 h.ord i j (by omega) hj hij
  unfold tm nd
  rwa [List.getD, List.getD, List.getElem?_eq_getElem hj, List.getElem?_eq_getElem (show i < l.length by omega)]
theorem TubeOk.le {l : List Nd} (h : TubeOk l) {i j : Nat} (hij : i ≤ j) (hj : j < l.length) : tm l i ≤ tm l j := by
  rcases Nat.lt_or_ge i j with g | g
  · exact Int.le_of_lt (h.lt g hj)
  · rw [show i = j by omega]; exact Int.le_refl _
theorem TubeOk.tmb {l : List Nd} (h : TubeOk l) {j : Nat} (hj : j < l.length) : 0 ≤ tm l j ∧ tm l j ≤ 200000 := (h.at hj).time

/-- A tube's last time. -/
def tl (l : List Nd) : Int := tm l (l.length - 1)
theorem last_ix {l : List Nd} (h : 0 < l.length) (h' : l.length ≤ 64) : w64 (((l.length : Nat) : Int) - 1) = ((l.length - 1 : Nat) : Int) := by
  rw [w64_id (by omega) (by omega)]; omega

/-! ### Quotients -/

theorem divDown_eq (k : Nat) {a d : Int} (hd : 0 < d) (ha : -4611686018427387904 ≤ a) (ha' : a ≤ 4611686018427387904) : num_DivDown.F k a d = some (a / d, 0) := by
  unfold num_DivDown.F
  have hq0 : -4611686018427387904 ≤ a / d := by
    have h1 : -4611686018427387904 ≤ -4611686018427387904 / d * 1 + 0 ∨ True := .inr trivial
    rcases Int.lt_or_le a 0 with hn | hn
    · have := Int.le_ediv_of_mul_le hd (a := -4611686018427387904) (b := a) (by
        have : -4611686018427387904 * d ≤ -4611686018427387904 * 1 := by
          have := Int.mul_le_mul_of_nonpos_left (c := 1) (b := d) (a := -4611686018427387904) (by omega) (by omega)
          simpa using this
        omega)
      exact this
    · have := Int.ediv_nonneg hn (Int.le_of_lt hd); omega
  have hq1 : a / d ≤ 4611686018427387904 := by
    rcases Int.lt_or_le a 0 with hn | hn
    · have := Int.ediv_neg_of_neg_of_pos hn hd; omega
    · have := Int.ediv_le_self d hn; omega
  have ht : Int.tdiv a d = a / d + if 0 ≤ a ∨ d ∣ a then 0 else 1 := by
    rw [Int.tdiv_eq_ediv]
    rw [Int.sign_eq_one_of_pos hd]
  rw [cond_neg (c := d == 0) (beq_false_of_ne (by omega))]
  have e1 : (bif (a == (-9223372036854775808)) then some (d == (-1)) else some false) = some false := by
    rw [cond_neg (beq_false_of_ne (by omega))]
  rw [e1]
  simp only [Option.bind_some, cond_false]
  rw [cond_pos (c := d != 0) (by simp; omega), cond_pos (c := d != 0) (by simp; omega)]
  have hds : decide (d < 0) = false := decide_eq_false (by omega)
  by_cases hdv : d ∣ a
  · have hm : Int.tmod a d = 0 := Int.tmod_eq_zero_of_dvd hdv
    rw [hm, cond_neg (c := (0 : Int) != 0) (by rfl)]
    simp only [Option.bind_some, cond_false]
    rw [ht, if_pos (.inr hdv), Int.add_zero, w64_id (by omega) (by omega)]
  · have hm : Int.tmod a d ≠ 0 := fun h => hdv (Int.dvd_of_tmod_eq_zero h)
    rw [cond_pos (c := Int.tmod a d != 0) (by simpa using hm)]
    simp only [Option.bind_some, hds]
    by_cases hn : a < 0
    · rw [decide_eq_true hn]
      show some (w64 (w64 (Int.tdiv a d) - 1), (0 : Int)) = _
      rw [ht, if_neg (by rintro (h | h); omega; exact hdv h), w64_id (n := a / d + 1) (by omega) (by omega), w64_id (by omega) (by omega)]
      congr 2
      omega
    · rw [decide_eq_false hn]
      show some (w64 (Int.tdiv a d), (0 : Int)) = _
      rw [ht, if_pos (.inl (by omega)), Int.add_zero, w64_id (by omega) (by omega)]

/-- A quotient, rounded up. -/
def up (a d : Int) : Int := a / d + if d ∣ a then 0 else 1

theorem divUp_eq (k : Nat) {a d : Int} (hd : 0 < d) (ha : -4611686018427387904 ≤ a) (ha' : a ≤ 4611686018427387904) : num_DivUp.F k a d = some (up a d, 0) := by
  unfold num_DivUp.F
  rw [divDown_eq k hd ha ha']
  simp only [Option.bind_some]
  rw [cond_pos (c := (0 : Int) == 0) (by rfl), cond_pos (c := d != 0) (by simp; omega)]
  simp only [Option.bind_some]
  by_cases hdv : d ∣ a
  · rw [Int.tmod_eq_zero_of_dvd hdv, cond_neg (c := (0 : Int) != 0) (by rfl), up, if_pos hdv, Int.add_zero]
  · have hm : Int.tmod a d ≠ 0 := fun h => hdv (Int.dvd_of_tmod_eq_zero h)
    rw [cond_pos (c := Int.tmod a d != 0) (by simpa using hm), up, if_neg hdv]
    have hq0 : -4611686018427387904 ≤ a / d := by
      rcases Int.lt_or_le a 0 with hn | hn
      · exact Int.le_ediv_of_mul_le hd (by
          have := Int.mul_le_mul_of_nonpos_left (c := 1) (b := d) (a := -4611686018427387904) (by omega) (by omega)
          omega)
      · have := Int.ediv_nonneg hn (Int.le_of_lt hd); omega
    have hq1 : a / d ≤ 4611686018427387904 := by
      rcases Int.lt_or_le a 0 with hn | hn
      · have := Int.ediv_neg_of_neg_of_pos hn hd; omega
      · have := Int.ediv_le_self d hn; omega
    rw [w64_id (by omega) (by omega)]

attribute [local irreducible] num_DivDown.F num_DivUp.F

/-! ### The node at a time -/

/-- What lies between two numbers. -/
def btw (a b n d : Int) : Int := a + (b - a) * n / d
def abv (a b n d : Int) : Int := a + up ((b - a) * n) d

/-- The node of a segment at a time. -/
def seg (a b : Nd) (t : Int) : Nd :=
  ((t, ((btw a.1.2.1.1 b.1.2.1.1 (t - a.1.1) (b.1.1 - a.1.1), btw a.1.2.1.2 b.1.2.1.2 (t - a.1.1) (b.1.1 - a.1.1)), btw a.1.2.2 b.1.2.2 (t - a.1.1) (b.1.1 - a.1.1))),
    (abv a.2.1 b.2.1 (t - a.1.1) (b.1.1 - a.1.1), abv a.2.2 b.2.2 (t - a.1.1) (b.1.1 - a.1.1)))

/-- The node at a time, out of the index of the segment. -/
def ndAt (l : List Nd) (q : Nat) (t : Int) : Nd := if tm l q = t then nd l q else seg (nd l q) (nd l (q + 1)) t

/-- The segment of a time. -/
def InSeg (l : List Nd) (q : Nat) (t : Int) : Prop := q < l.length ∧ tm l q ≤ t ∧ (q + 1 < l.length → t < tm l (q + 1))

theorem prod_bound {a b : Int} {A B : Nat} (ha : a.natAbs ≤ A) (hb : b.natAbs ≤ B) : (a * b).natAbs ≤ A * B := by
  rw [Int.natAbs_mul]; exact Nat.mul_le_mul ha hb

theorem toward_eq (k : Nat) {a b : Int × Int} (ha : PtOk a) (hb : PtOk b) {n d : Int} (hd : 0 < d) (hd' : d ≤ 200000) (hn : 0 ≤ n) (hn' : n ≤ d) :
    ∃ e, plane_Toward.F k a b n d = some ((w64 (a.1 + w64 ((b.1 - a.1) * n / d)), w64 (a.2 + w64 ((b.2 - a.2) * n / d))), e) ∧ e = 0 := by
  unfold plane_Toward.F
  refine ⟨0, ?_, rfl⟩
  rw [decide_eq_false (p := d ≤ 0) (by omega), decide_eq_false (p := d > 200000) (by omega), decide_eq_false (p := n < 0) (by omega), decide_eq_false (p := n > d) (by omega)]
  simp only [cond_false, Option.bind_some, pchk_eq, if_pos ha, if_pos hb]
  have hA := ha; have hB := hb
  unfold PtOk at hA hB
  have h0 : ((0 : Int) != 0) = false := rfl
  rw [h0]
  simp only [cond_false, Option.bind_some]
  have b1 : ((b.1 - a.1) * n).natAbs ≤ 2000000 * 200000 := prod_bound (by omega) (by omega)
  have b2 : ((b.2 - a.2) * n).natAbs ≤ 2000000 * 200000 := prod_bound (by omega) (by omega)
  rw [w64_id (n := b.1 - a.1) (by omega) (by omega), w64_id (n := b.2 - a.2) (by omega) (by omega), w64_id (n := (b.1 - a.1) * n) (by omega) (by omega), w64_id (n := (b.2 - a.2) * n) (by omega) (by omega)]
  rw [divDown_eq k hd (by omega) (by omega), divDown_eq k hd (by omega) (by omega)]
  simp only [Option.bind_some]
  have q1 : ∀ x : Int, x.natAbs ≤ 400000000000 → w64 (x / d) = x / d := fun x hx => by
    have h1 : x / d ≤ 400000000000 := by
      rcases Int.lt_or_le x 0 with g | g
      · have := Int.ediv_neg_of_neg_of_pos g hd; omega
      · have := Int.ediv_le_self d g; omega
    have h2 : -400000000000 ≤ x / d := Int.le_ediv_of_mul_le hd (by
      have := Int.mul_le_mul_of_nonpos_left (c := 1) (b := d) (a := -400000000000) (by omega) (by omega)
      omega)
    exact w64_id (by omega) (by omega)
  rw [q1 _ (by omega), q1 _ (by omega)]

/-- What lies between two numbers lies between them. -/
theorem btw_bounds {a b n d : Int} (hd : 0 < d) (hn : 0 ≤ n) (hn' : n ≤ d) : min a b ≤ btw a b n d ∧ btw a b n d ≤ max a b := by
  unfold btw
  rcases Int.le_total a b with h | h
  · have h1 : 0 ≤ (b - a) * n := Int.mul_nonneg (by omega) hn
    have h2 : (b - a) * n ≤ (b - a) * d := Int.mul_le_mul_of_nonneg_left hn' (by omega)
    have h3 : 0 ≤ (b - a) * n / d := Int.ediv_nonneg h1 (by omega)
    have h4 : (b - a) * n / d ≤ b - a := Int.ediv_le_of_le_mul hd h2
    omega
  · have h1 : (b - a) * n ≤ 0 := Int.mul_nonpos_of_nonpos_of_nonneg (by omega) hn
    have h2 : (b - a) * d ≤ (b - a) * n := Int.mul_le_mul_of_nonpos_left (by omega) hn'
    have h3 : (b - a) * n / d ≤ 0 := Int.ediv_le_of_le_mul hd (by omega)
    have h4 : b - a ≤ (b - a) * n / d := Int.le_ediv_of_mul_le hd h2
    omega

theorem up_bounds {a d : Int} (hd : 0 < d) : a / d ≤ up a d ∧ up a d ≤ a / d + 1 ∧ a ≤ up a d * d := by
  unfold up
  by_cases h : d ∣ a
  · rw [if_pos h]
    refine ⟨by omega, by omega, ?_⟩
    rw [Int.add_zero, Int.ediv_mul_cancel h]
    exact Int.le_refl _
  · rw [if_neg h]
    refine ⟨by omega, by omega, ?_⟩
    have := Int.lt_ediv_add_one_mul_self a hd
    omega

theorem up_le {a d c : Int} (hd : 0 < d) (h : a ≤ c * d) : up a d ≤ c := by
  unfold up
  by_cases hv : d ∣ a
  · rw [if_pos hv, Int.add_zero]; exact Int.ediv_le_of_le_mul hd h
  · rw [if_neg hv]
    have : a ≠ c * d := fun e => hv (e ▸ Int.dvd_mul_left _ _)
    have := Int.ediv_lt_of_lt_mul hd (show a < c * d by omega)
    omega

theorem abv_bounds {a b n d : Int} (hd : 0 < d) (hn : 0 ≤ n) (hn' : n ≤ d) : min a b ≤ abv a b n d ∧ abv a b n d ≤ max a b := by
  unfold abv
  have hu := up_bounds (a := (b - a) * n) hd
  have hb := btw_bounds (a := a) (b := b) hd hn hn'
  unfold btw at hb
  refine ⟨by omega, ?_⟩
  rcases Int.le_total a b with h | h
  · have := up_le (c := b - a) hd (Int.mul_le_mul_of_nonneg_left hn' (show 0 ≤ b - a by omega))
    omega
  · have := up_le (a := (b - a) * n) (c := 0) hd (by have := Int.mul_nonpos_of_nonpos_of_nonneg (show b - a ≤ 0 by omega) hn; omega)
    omega

theorem between_eq (k : Nat) {a b n d : Int} (ha : a.natAbs ≤ 1000000) (hb : b.natAbs ≤ 1000000) (hd : 0 < d) (hd' : d ≤ 200000) (hn : 0 ≤ n) (hn' : n ≤ d) : tube_between.F k a b n d = some (btw a b n d) := by
  unfold tube_between.F
  have b1 : ((b - a) * n).natAbs ≤ 2000000 * 200000 := prod_bound (by omega) (by omega)
  rw [w64_id (n := b - a) (by omega) (by omega), w64_id (n := (b - a) * n) (by omega) (by omega), divDown_eq k hd (by omega) (by omega)]
  have := btw_bounds (a := a) (b := b) hd hn hn'
  have e : a + (b - a) * n / d = btw a b n d := rfl
  simp only [Option.bind_some, e]
  rw [w64_id (by omega) (by omega)]

theorem above_eq (k : Nat) {a b n d : Int} (ha : a.natAbs ≤ 1000000) (hb : b.natAbs ≤ 1000000) (hd : 0 < d) (hd' : d ≤ 200000) (hn : 0 ≤ n) (hn' : n ≤ d) : tube_above.F k a b n d = some (abv a b n d) := by
  unfold tube_above.F
  have b1 : ((b - a) * n).natAbs ≤ 2000000 * 200000 := prod_bound (by omega) (by omega)
  rw [w64_id (n := b - a) (by omega) (by omega), w64_id (n := (b - a) * n) (by omega) (by omega), divUp_eq k hd (by omega) (by omega)]
  have := abv_bounds (a := a) (b := b) hd hn hn'
  have e : a + up ((b - a) * n) d = abv a b n d := rfl
  simp only [Option.bind_some, e]
  rw [w64_id (by omega) (by omega)]

attribute [local irreducible] plane_Toward.F tube_between.F tube_above.F

theorem at_loop (k : Nat) (l : List Nd) (h : TubeOk l) (t : Int) : ∀ n i : Nat, i < l.length → l.length - i < n → tm l i ≤ t →
    ∃ q : Nat, tube_at.l0 k l t n i = some (.inl (q : Int)) ∧ InSeg l q t := by
  intro n
  induction n with
  | zero => intro i _ h; omega
  | succ n ih =>
    intro i hi hn ht
    have hlen := h.len
    rw [tube_at.l0_succ]
    unfold tube_at.l0b
    rw [show w64 ((i : Int) + 1) = ((i + 1 : Nat) : Int) from w64_id (by omega) (by omega)]
    by_cases hlt : i + 1 < l.length
    · rw [decide_eq_true (p := ((i + 1 : Nat) : Int) < ((l.length : Nat) : Int)) (by omega), decide_eq_true (p := 0 ≤ ((i + 1 : Nat) : Int)) (by omega)]
      simp only [Bool.and_self, cond_true, getD_nat, nd_eq, tm_eq, Option.bind_some]
      by_cases hc : tm l (i + 1) ≤ t
      · rw [decide_eq_true hc]
        exact ih (i + 1) hlt (by omega) hc
      · rw [decide_eq_false hc]
        exact ⟨i, rfl, hi, ht, fun _ => by omega⟩
    · rw [decide_eq_false (p := ((i + 1 : Nat) : Int) < ((l.length : Nat) : Int)) (by omega)]
      exact ⟨i, rfl, hi, ht, fun h => absurd h hlt⟩

theorem InSeg.next {l : List Nd} {q : Nat} {t : Int} (h : InSeg l q t) (hl : t ≤ tl l) (hne : tm l q ≠ t) : q + 1 < l.length := by
  rcases Nat.lt_or_ge (q + 1) l.length with g | g
  · exact g
  · have : q = l.length - 1 := by have := h.1; omega
    have := h.2.1
    unfold tl at hl
    subst q
    omega

theorem tat_eq (k : Nat) (hk : 100 ≤ k) (l : List Nd) (h : TubeOk l) (t : Int) :
    (¬ (tm l 0 ≤ t ∧ t ≤ tl l) ∧ tube_at.F k l t = some (nd0, 12)) ∨ (tm l 0 ≤ t ∧ t ≤ tl l ∧ ∃ q, InSeg l q t ∧ tube_at.F k l t = some (ndAt l q t, 0)) := by
  have hp := h.pos
  have hlen := h.len
  unfold tube_at.F
  rw [last_ix hp hlen]
  rw [cond_pos (c := decide ((0 : Nat) ≤ 0) && decide ((0 : Int) < ((l.length : Nat) : Int))) (by simp; omega)]
  rw [cond_pos (c := decide (0 ≤ ((l.length - 1 : Nat) : Int)) && decide (((l.length - 1 : Nat) : Int) < ((l.length : Nat) : Int))) (by simp; omega)]
  simp only [Int.toNat_natCast, cond_some, Option.bind_some, nd_eq, tm_eq]
  change _ ∧ ((bif (bif decide (t < tm l 0) then true else decide (t > tl l)) then _ else _) = _) ∨ _ ∧ _ ∧ ∃ q, _ ∧ ((bif (bif decide (t < tm l 0) then true else decide (t > tl l)) then _ else _) = _)
  by_cases h1 : t < tm l 0
  · rw [decide_eq_true h1]
    exact .inl ⟨by omega, rfl⟩
  rw [decide_eq_false h1]
  by_cases h2 : t > tl l
  · rw [decide_eq_true h2]
    exact .inl ⟨by omega, rfl⟩
  rw [decide_eq_false h2]
  refine .inr ⟨by omega, by omega, ?_⟩
  obtain ⟨q, hq, hs⟩ := at_loop k l h t k 0 hp (by omega) (by omega)
  refine ⟨q, hs, ?_⟩
  rw [show ((0 : Nat) : Int) = 0 from rfl] at hq
  rw [hq]
  simp only [cond_false, Option.bind_some]
  have hql := hs.1
  rw [inIdx (n := l.length) (by omega) (by omega)]
  simp only [cond_true, Int.toNat_natCast]
  by_cases he : tm l q = t
  · rw [cond_pos (c := tm l q == t) (beq_iff_eq.2 he), ndAt, if_pos he]
    rfl
  · rw [cond_neg (c := tm l q == t) (beq_false_of_ne he)]
    have hn := hs.next (by omega) he
    have hlt := h.lt (Nat.lt_succ_self q) hn
    have ha := h.at hql
    have hb := h.at hn
    have hq0 := h.tmb hql
    have hq1 := h.tmb hn
    have hs2 := hs.2.1
    have hs3 := hs.2.2 hn
    rw [show w64 ((q : Int) + 1) = ((q + 1 : Nat) : Int) from w64_id (by omega) (by omega), inIdx (n := l.length) (by omega) (by omega)]
    simp only [cond_true, Int.toNat_natCast]
    rw [w64_id (n := t - tm l q) (by omega) (by omega), w64_id (n := tm l (q + 1) - tm l q) (by omega) (by omega)]
    obtain ⟨e, ht, _⟩ := toward_eq k ha.pt hb.pt (n := t - tm l q) (d := tm l (q + 1) - tm l q) (by omega) (by omega) (by omega) (by omega)
    have a1 := ha.height; have a2 := ha.radius; have a3 := ha.band
    have b1 := hb.height; have b2 := hb.radius; have b3 := hb.band
    rw [ht, between_eq k (by omega) (by omega) (by omega) (by omega) (by omega) (by omega), above_eq k (by omega) (by omega) (by omega) (by omega) (by omega) (by omega), above_eq k (by omega) (by omega) (by omega) (by omega) (by omega) (by omega)]
    simp only [Option.bind_some]
    rw [ndAt, if_neg he]
    have hA := ha.pt; have hB := hb.pt
    unfold PtOk at hA hB
    have fix : ∀ x y : Int, x.natAbs ≤ 1000000 → y.natAbs ≤ 1000000 → w64 (x + w64 ((y - x) * (t - tm l q) / (tm l (q + 1) - tm l q))) = btw x y (t - tm l q) (tm l (q + 1) - tm l q) := fun x y hx hy => by
      have hbb := btw_bounds (a := x) (b := y) (n := t - tm l q) (d := tm l (q + 1) - tm l q) (by omega) (by omega) (by omega)
      unfold btw at hbb ⊢
      rw [w64_id (n := (y - x) * (t - tm l q) / (tm l (q + 1) - tm l q)) (by omega) (by omega), w64_id (by omega) (by omega)]
    rw [fix _ _ (by omega) (by omega), fix _ _ (by omega) (by omega)]
    rfl

attribute [local irreducible] tube_at.F

theorem ndAt_time {l : List Nd} {q : Nat} {t : Int} : (ndAt l q t).1.1 = t := by
  unfold ndAt
  split
  · assumption
  · rfl

theorem seg_ok {l : List Nd} (h : TubeOk l) {q : Nat} {t : Int} (hs : InSeg l q t) (hl : t ≤ tl l) : NdOk (ndAt l q t) := by
  unfold ndAt
  by_cases he : tm l q = t
  · rw [if_pos he]; exact h.at hs.1
  · rw [if_neg he]
    have hn := hs.next hl he
    have ha := h.at hs.1
    have hb := h.at hn
    have hq0 := h.tmb hs.1
    have hq1 := h.tmb hn
    have hs2 := hs.2.1
    have hs3 := hs.2.2 hn
    have hA := ha.pt; have hB := hb.pt
    unfold PtOk at hA hB
    have a1 := ha.height; have a2 := ha.radius; have a3 := ha.band
    have b1 := hb.height; have b2 := hb.radius; have b3 := hb.band
    have kb : ∀ x y : Int, min x y ≤ btw x y (t - (nd l q).1.1) ((nd l (q + 1)).1.1 - (nd l q).1.1) ∧ btw x y (t - (nd l q).1.1) ((nd l (q + 1)).1.1 - (nd l q).1.1) ≤ max x y := fun x y => btw_bounds (by rw [tm_eq, tm_eq]; omega) (by rw [tm_eq]; omega) (by rw [tm_eq, tm_eq]; omega)
    have ka : ∀ x y : Int, min x y ≤ abv x y (t - (nd l q).1.1) ((nd l (q + 1)).1.1 - (nd l q).1.1) ∧ abv x y (t - (nd l q).1.1) ((nd l (q + 1)).1.1 - (nd l q).1.1) ≤ max x y := fun x y => abv_bounds (by rw [tm_eq, tm_eq]; omega) (by rw [tm_eq]; omega) (by rw [tm_eq, tm_eq]; omega)
    refine ⟨⟨by show 0 ≤ t; omega, by show t ≤ 200000; omega⟩, ?_, ?_, ?_, ?_⟩
    · have k1 := kb (nd l q).1.2.1.1 (nd l (q + 1)).1.2.1.1
      have k2 := kb (nd l q).1.2.1.2 (nd l (q + 1)).1.2.1.2
      show PtOk (_, _)
      unfold PtOk
      dsimp only
      omega
    · have k1 := kb (nd l q).1.2.2 (nd l (q + 1)).1.2.2
      show 0 ≤ btw _ _ _ _ ∧ btw _ _ _ _ ≤ 60000
      omega
    · have k1 := ka (nd l q).2.1 (nd l (q + 1)).2.1
      show 0 ≤ abv _ _ _ _ ∧ abv _ _ _ _ ≤ 1000000
      omega
    · have k1 := ka (nd l q).2.2 (nd l (q + 1)).2.2
      show 0 ≤ abv _ _ _ _ ∧ abv _ _ _ _ ≤ 60000
      omega

end Go.Proofs.YtdpchhbbmlhklaaGreatDoor.RT
