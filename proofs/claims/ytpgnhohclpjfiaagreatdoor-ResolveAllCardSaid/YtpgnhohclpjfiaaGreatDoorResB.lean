/- What is proved here: all clashes, and the law ResolveAll. They ask nothing. -/
import Derived.Test.YtpgnhohclpjfiaaGreatDoorRaT
import Derived.Test.YtpgnhohclpjfiaaGreatDoorResA
namespace Go.Proofs.YtpgnhohclpjfiaaGreatDoor.RT
open Go Go.R

attribute [local irreducible] tube_Check.F tube_at.F plane_Check.F tube_Point.F skywaykeep3_small.F plane_Distance.F probe_separated.F probe_pair.F

/-! ### Checks -/

theorem sepc_tot (k : Nat) (s : Int × Int) : ∃ e, probe_CheckSep.F k s = some e := by
  unfold probe_CheckSep.F
  cases decide (s.1 < 0) <;> cases decide (s.1 > 1000000) <;> cases decide (s.2 < 0) <;> cases decide (s.2 > 60000) <;> exact ⟨_, rfl⟩

theorem prck_loop (k : Nat) (hk : 100 ≤ k) (l : List (List Nd)) (hl : l.length ≤ 64) (hT : ∀ t ∈ l, TubeOk t) : ∀ n i : Nat, i ≤ l.length → l.length - i < n → probe_check.l0 k l n i = some 0 := by
  intro n
  induction n with
  | zero => intro i _ h; omega
  | succ n ih =>
    intro i hi hn
    rw [probe_check.l0_succ]
    unfold probe_check.l0b
    by_cases hlt : i < l.length
    · rw [decide_eq_true (p := (i : Int) < ((l.length : Nat) : Int)) (by omega), decide_eq_true (p := 0 ≤ (i : Int)) (by omega)]
      have hg : l.getD ((i : Int)).toNat [] = tub l i := by rw [Int.toNat_natCast]; rfl
      rw [hg, tcheck_pos hk (hT _ (by unfold tub; simp [List.getD, hlt]))]
      simp only [Bool.and_self, cond_true, Option.bind_some]
      rw [cond_neg (c := (0 : Int) != 0) (by rfl), show w64 ((i : Int) + 1) = ((i + 1 : Nat) : Int) from w64_id (by omega) (by omega)]
      exact ih (i + 1) (by omega) (by omega)
    · rw [decide_eq_false (p := (i : Int) < ((l.length : Nat) : Int)) (by omega)]
      rfl

theorem prck_eq (k : Nat) (hk : 100 ≤ k) (s : Int × Int) (hs : probe_CheckSep.F k s = some 0) (l : List (List Nd)) (hl : l.length ≤ 64) (hT : ∀ t ∈ l, TubeOk t) : probe_check.F k s l = some 0 := by
  unfold probe_check.F
  rw [hs]
  simp only [Option.bind_some]
  rw [cond_neg (c := (0 : Int) != 0) (by rfl)]
  exact prck_loop k hk l hl hT k 0 (by omega) (by omega)

theorem rsck_loop (k : Nat) (hk : 100 ≤ k) (l : List (List Nd)) (hl : l.length ≤ 64) (hT : ∀ t ∈ l, TubeOk t) : ∀ n i : Nat, i ≤ l.length → l.length - i < n → resolve_check.l0 k l n i = some (.inl ()) := by
  intro n
  induction n with
  | zero => intro i _ h; omega
  | succ n ih =>
    intro i hi hn
    rw [resolve_check.l0_succ]
    unfold resolve_check.l0b
    by_cases hlt : i < l.length
    · rw [decide_eq_true (p := (i : Int) < ((l.length : Nat) : Int)) (by omega), decide_eq_true (p := 0 ≤ (i : Int)) (by omega)]
      have hg : l.getD ((i : Int)).toNat [] = tub l i := by rw [Int.toNat_natCast]; rfl
      rw [hg, tcheck_pos hk (hT _ (by unfold tub; simp [List.getD, hlt]))]
      simp only [Bool.and_self, cond_true, Option.bind_some]
      rw [cond_neg (c := (0 : Int) != 0) (by rfl), show w64 ((i : Int) + 1) = ((i + 1 : Nat) : Int) from w64_id (by omega) (by omega)]
      exact ih (i + 1) (by omega) (by omega)
    · rw [decide_eq_false (p := (i : Int) < ((l.length : Nat) : Int)) (by omega)]
      rfl

attribute [local irreducible] probe_CheckSep.F probe_check.F

/-- Few, valid and short flights. -/
structure Few (l : List (List Nd)) : Prop where
  few : l.length ≤ 5
  ok : ∀ t ∈ l, TubeOk t
  short : ∀ t ∈ l, tl t - tm t 0 ≤ 300

theorem Few.at {l : List (List Nd)} (h : Few l) {i : Nat} (hi : i < l.length) : TubeOk (tub l i) ∧ tl (tub l i) - tm (tub l i) 0 ≤ 300 := by
  have hm : tub l i ∈ l := by unfold tub; simp [List.getD, hi]
  exact ⟨h.ok _ hm, h.short _ hm⟩

/-! ### Free -/

def IsFree (k : Nat) (s : Int × Int) (l : List (List Nd)) (i : Nat) : Prop := ∀ q, q < l.length → q ≠ i → Fr k s (tub l q) (tub l i)

theorem free_loop (k : Nat) (hk : 1000 ≤ k) (s : Int × Int) (hs : probe_CheckSep.F k s = some 0) {l : List (List Nd)} (h : Few l) {i : Nat} (hi : i < l.length) : ∀ n j : Nat, j ≤ l.length → l.length - j < n → ∃ b, resolve_free.l0 k l (i : Int) (tub l i) s n j = some b ∧ (b = true ↔ ∀ q, j ≤ q → q < l.length → q ≠ i → Fr k s (tub l q) (tub l i)) := by
  intro n
  have hf := h.few
  induction n with
  | zero => intro i _ h; omega
  | succ n ih =>
    intro j hj hn
    rw [resolve_free.l0_succ]
    unfold resolve_free.l0b
    by_cases hlt : j < l.length
    · rw [decide_eq_true (p := (j : Int) < ((l.length : Nat) : Int)) (by omega), decide_eq_true (p := 0 ≤ (j : Int)) (by omega)]
      simp only [Bool.and_self, cond_true]
      rw [show w64 ((j : Int) + 1) = ((j + 1 : Nat) : Int) from w64_id (by omega) (by omega)]
      obtain ⟨b, hb, hq⟩ := ih (j + 1) (by omega) (by omega)
      by_cases e : j = i
      · rw [cond_pos (c := (j : Int) == (i : Int)) (by rw [e]; simp)]
        refine ⟨b, hb, hq.trans ⟨fun g q q0 q1 q2 => g q (by omega) q1 q2, fun g q q0 q1 q2 => g q (by omega) q1 q2⟩⟩
      · rw [cond_neg (c := (j : Int) == (i : Int)) (beq_false_of_ne (by omega))]
        have hg : l.getD ((j : Int)).toNat [] = tub l j := by rw [Int.toNat_natCast]; rfl
        obtain ⟨tj, sj⟩ := h.at hlt
        obtain ⟨ti, _⟩ := h.at hi
        obtain ⟨r, hr, r1, _, r3⟩ := pair_eq k hk s tj ti sj
        have hP : probe_Pair.F k (tub l j) (tub l i) s = some (r, 0) := by
          unfold probe_Pair.F
          rw [prck_eq k (by omega) s hs [tub l j, tub l i] (by simp) (fun t ht => by
            simp only [List.mem_cons, List.not_mem_nil, or_false] at ht
            rcases ht with rfl | rfl
            · exact tj
            · exact ti)]
          simp only [Option.bind_some]
          rw [cond_neg (c := (0 : Int) != 0) (by rfl), hr]
          rfl
        rw [hg, hP]
        simp only [Option.bind_some]
        rw [cond_neg (c := (0 : Int) != 0) (by rfl)]
        simp only [Option.bind_some]
        by_cases z : r = []
        · rw [z, cond_neg (c := decide (((([] : List Spn).length : Nat) : Int) > 0)) (by rfl)]
          refine ⟨b, hb, hq.trans ⟨fun g q q0 q1 q2 => ?_, fun g q q0 q1 q2 => g q (by omega) q1 q2⟩⟩
          by_cases e2 : q = j
          · rw [e2]; exact r3.1 z
          · exact g q (by omega) q1 q2
        · have hlr : 0 < r.length := List.length_pos_iff.2 z
          rw [cond_pos (c := decide (((r.length : Nat) : Int) > 0)) (decide_eq_true (by omega))]
          exact ⟨false, rfl, ⟨fun g => (by cases g), fun g => absurd (r3.2 (g j (Nat.le_refl _) hlt e)) z⟩⟩
    · rw [decide_eq_false (p := (j : Int) < ((l.length : Nat) : Int)) (by omega)]
      exact ⟨true, rfl, ⟨fun _ q q0 q1 => by omega, fun _ => rfl⟩⟩

theorem Free_eq (k : Nat) (hk : 1000 ≤ k) (s : Int × Int) (hs : probe_CheckSep.F k s = some 0) {l : List (List Nd)} (h : Few l) {i : Nat} (hi : i < l.length) : ∃ b, resolve_Free.F k l (i : Int) s = some (b, 0) ∧ (b = true ↔ IsFree k s l i) := by
  have hf := h.few
  obtain ⟨b, hb, hq⟩ := free_loop k hk s hs h hi k 0 (Nat.zero_le _) (by omega)
  unfold resolve_Free.F resolve_check.F resolve_free.F
  rw [hs]
  simp only [Option.bind_some]
  rw [cond_neg (c := (0 : Int) != 0) (by rfl), cond_neg (c := decide (((l.length : Nat) : Int) > 24)) (decide_eq_false (by omega))]
  have hc := rsck_loop k (by omega) l (by omega) h.ok k 0 (Nat.zero_le _) (by omega)
  rw [show ((0 : Nat) : Int) = 0 from rfl] at hc hb
  rw [hc]
  simp only [Option.bind_some]
  rw [decide_eq_false (p := (i : Int) < 0) (by omega), decide_eq_false (p := (i : Int) ≥ ((l.length : Nat) : Int)) (by omega)]
  simp only [cond_false, Option.bind_some]
  rw [cond_neg (c := (0 : Int) != 0) (by rfl), inIdx (n := l.length) (by omega) (by omega), cond_true]
  have hg : l.getD ((i : Int)).toNat [] = tub l i := by rw [Int.toNat_natCast]; rfl
  rw [hg, hb]
  exact ⟨b, rfl, hq.trans ⟨fun g q q1 q2 => g q (Nat.zero_le _) q1 q2, fun g q _ q1 q2 => g q q1 q2⟩⟩

attribute [local irreducible] resolve_Free.F

/-! ### All clashes -/

abbrev Ch := Int × Int × Int × Int

structure AllOk (k : Nat) (s : Int × Int) (l : List (List Nd)) (D : Nat → Nat → Prop) (out : List Ch) : Prop where
  sound : ∀ c ∈ out, ∃ i j : Nat, c.1 = (i : Int) ∧ c.2.1 = (j : Int) ∧ i < j ∧ j < l.length ∧ D i j ∧ ¬ Fr k s (tub l i) (tub l j)
  comp : ∀ i j, i < j → j < l.length → D i j → ¬ Fr k s (tub l i) (tub l j) → ∃ c ∈ out, c.1 = (i : Int) ∧ c.2.1 = (j : Int)
  dist : out.Pairwise fun c d => ¬ (c.1 = d.1 ∧ c.2.1 = d.2.1 ∧ c.2.2.1 = d.2.2.1)

def mk (a b : Nat) (o : Spn) : Ch := ((a : Int), ((b : Int), (o.1, w64 (o.2 - 1))))

theorem app_loop (k : Nat) (a b : Nat) (o0 o1 : List Ch) (r : List Spn) (hr : r.length ≤ 400) {self6 : (Int × List Ch) → Option (List Ch ⊕ (List Ch × Int))} : ∀ (n i : Nat) (out : List Ch), i ≤ r.length → r.length - i < n → out.length + (r.length - i) ≤ 1000000 →
    probe_All.l0 k ((b : Int), o0) ((a : Int), o1) self6 r n ((i : Int), out) = self6 (w64 ((a : Int) + 1), out ++ (r.drop i).map (mk a b)) := by
  intro n
  induction n with
  | zero => intro i _ _ h; omega
  | succ n ih =>
    intro i out hi hn ho
    rw [probe_All.l0_succ]
    unfold probe_All.l0b
    dsimp only
    by_cases hlt : i < r.length
    · rw [decide_eq_true (p := (i : Int) < ((r.length : Nat) : Int)) (by omega), decide_eq_true (p := 0 ≤ (i : Int)) (by omega), Int.toNat_natCast, show w64 ((i : Int) + 1) = ((i + 1 : Nat) : Int) from w64_id (by omega) (by omega)]
      simp only [Bool.and_self, cond_true]
      rw [cond_pos (c := Nat.ble ((out.length + 1) * 32) 140737488355328) (Nat.ble_eq_true_of_le (by omega)), ih (i + 1) _ (by omega) (by omega) (by rw [List.length_append, List.length_singleton]; omega), drop_cons hlt ((0, 0) : Spn), List.append_assoc]
      rfl
    · rw [decide_eq_false (p := (i : Int) < ((r.length : Nat) : Int)) (by omega), List.drop_eq_nil_of_le (by omega), List.map_nil, List.append_nil]
      rfl

def Done (b a : Nat) (i j : Nat) : Prop := j < b ∨ (j = b ∧ i < a)

theorem all_step {k : Nat} {s : Int × Int} {l : List (List Nd)} {a b : Nat} (hab : a < b) (hb : b < l.length) {out : List Ch} (h : AllOk k s l (Done b a) out) {r : List Spn} (hp : (fs r).Pairwise (· < ·)) (hr : r = [] ↔ Fr k s (tub l a) (tub l b)) : AllOk k s l (Done b (a + 1)) (out ++ r.map (mk a b)) := by
  have mem : ∀ c ∈ r.map (mk a b), c.1 = (a : Int) ∧ c.2.1 = (b : Int) := fun c hc => by
    rw [List.mem_map] at hc
    obtain ⟨o, _, rfl⟩ := hc
    exact ⟨rfl, rfl⟩
  refine ⟨fun c hc => ?_, fun i j hij hj hD hF => ?_, ?_⟩
  · rw [List.mem_append] at hc
    rcases hc with hc | hc
    · obtain ⟨i, j, c1, c2, c3, c4, c5, c6⟩ := h.sound c hc
      exact ⟨i, j, c1, c2, c3, c4, by unfold Done at *; omega, c6⟩
    · obtain ⟨c1, c2⟩ := mem c hc
      exact ⟨a, b, c1, c2, hab, hb, by unfold Done; omega, fun hF => by rw [hr.2 hF] at hc; simp at hc⟩
  · by_cases e : i = a ∧ j = b
    · obtain ⟨rfl, rfl⟩ := e
      obtain ⟨o, r', hor⟩ : ∃ o r', r = o :: r' := by
        cases r with
        | nil => exact absurd (hr.1 rfl) hF
        | cons o r' => exact ⟨o, r', rfl⟩
      exact ⟨mk i j o, by rw [List.mem_append, List.mem_map]; exact .inr ⟨o, by rw [hor]; exact List.mem_cons_self .., rfl⟩, rfl, rfl⟩
    · obtain ⟨c, hc, c1⟩ := h.comp i j hij hj (by unfold Done at *; omega) hF
      exact ⟨c, List.mem_append_left _ hc, c1⟩
  · rw [List.pairwise_append]
    refine ⟨h.dist, ?_, fun c hc d hd e => ?_⟩
    · unfold fs at hp
      rw [List.pairwise_map] at hp ⊢
      exact hp.imp fun {x y} hxy e => by
        have := e.2.2
        change x.1 = y.1 at this
        omega
    · obtain ⟨i, j, c1, c2, c3, c4, c5, c6⟩ := h.sound c hc
      obtain ⟨d1, d2⟩ := mem d hd
      unfold Done at c5
      omega

theorem all_l1 (k : Nat) (hk : 1000 ≤ k) (s : Int × Int) {l : List (List Nd)} (h : Few l) {b : Nat} (hb : b < l.length) (o0 : List Ch) {self4 : (Int × List Ch) → Option (List Ch ⊕ (List Ch × Int))} : ∀ (n a : Nat) (out : List Ch), a ≤ b → b - a < n → out.length ≤ 400 * (8 * b + a) → AllOk k s l (Done b a) out →
    ∃ out', probe_All.l1 k l s ((b : Int), o0) self4 n ((a : Int), out) = self4 (w64 ((b : Int) + 1), out') ∧ out'.length ≤ 400 * (8 * b + b) ∧ AllOk k s l (Done b b) out' := by
  intro n
  have hf := h.few
  induction n with
  | zero => intro a _ _ h; omega
  | succ n ih =>
    intro a out ha hn ho hA
    rw [probe_All.l1_succ]
    unfold probe_All.l1b
    dsimp only
    by_cases hlt : a < b
    · rw [decide_eq_true (p := (a : Int) < (b : Int)) (by omega), inIdx (n := l.length) (by omega) (by omega), inIdx (n := l.length) (by omega) (by omega)]
      simp only [cond_true]
      have hg : l.getD ((a : Int)).toNat [] = tub l a := by rw [Int.toNat_natCast]; rfl
      have hg2 : l.getD ((b : Int)).toNat [] = tub l b := by rw [Int.toNat_natCast]; rfl
      obtain ⟨ta, sa⟩ := h.at (show a < l.length by omega)
      obtain ⟨tb, _⟩ := h.at hb
      obtain ⟨r, hr, r1, r2, r3⟩ := pair_eq k hk s ta tb sa
      rw [hg, hg2, hr]
      simp only [Option.bind_some]
      have := app_loop k a b o0 out r r1 (self6 := probe_All.l1 k l s ((b : Int), o0) self4 n) k 0 out (Nat.zero_le _) (by omega) (by omega)
      rw [show ((0 : Nat) : Int) = 0 from rfl, List.drop_zero] at this
      rw [this, show w64 ((a : Int) + 1) = ((a + 1 : Nat) : Int) from w64_id (by omega) (by omega)]
      exact ih (a + 1) _ (by omega) (by omega) (by rw [List.length_append, List.length_map]; omega) (all_step hlt hb hA r2 r3)
    · rw [decide_eq_false (p := (a : Int) < (b : Int)) (by omega)]
      have : a = b := by omega
      subst this
      exact ⟨out, rfl, ho, hA⟩

theorem all_l2 (k : Nat) (hk : 1000 ≤ k) (s : Int × Int) {l : List (List Nd)} (h : Few l) : ∀ (n b : Nat) (out : List Ch), b ≤ l.length → l.length - b < n → out.length ≤ 400 * (8 * b) → AllOk k s l (Done b 0) out →
    ∃ out', probe_All.l2 k l s n ((b : Int), out) = some (.inl out') ∧ out'.length ≤ 100000 ∧ AllOk k s l (Done l.length 0) out' := by
  intro n
  have hf := h.few
  induction n with
  | zero => intro b _ _ h; omega
  | succ n ih =>
    intro b out hb hn ho hA
    rw [probe_All.l2_succ]
    unfold probe_All.l2b
    dsimp only
    by_cases hlt : b < l.length
    · rw [decide_eq_true (p := (b : Int) < ((l.length : Nat) : Int)) (by omega), cond_true]
      obtain ⟨out', e, e1, e2⟩ := all_l1 k hk s h hlt out (self4 := probe_All.l2 k l s n) k 0 out (Nat.zero_le _) (by omega) (by omega) hA
      rw [show ((0 : Nat) : Int) = 0 from rfl] at e
      rw [e, show w64 ((b : Int) + 1) = ((b + 1 : Nat) : Int) from w64_id (by omega) (by omega)]
      refine ih (b + 1) out' (by omega) (by omega) (by omega) ⟨fun c hc => ?_, fun i j hij hj hD hF => e2.comp i j hij hj (by unfold Done at *; omega) hF, e2.dist⟩
      obtain ⟨i, j, c1, c2, c3, c4, c5, c6⟩ := e2.sound c hc
      exact ⟨i, j, c1, c2, c3, c4, by unfold Done at *; omega, c6⟩
    · rw [decide_eq_false (p := (b : Int) < ((l.length : Nat) : Int)) (by omega)]
      have : b = l.length := by omega
      subst this
      exact ⟨out, rfl, by omega, hA⟩

/-! ### The order of clashes -/

def Lt (x y : Ch) : Prop := x.2.2.1 < y.2.2.1 ∨ (x.2.2.1 = y.2.2.1 ∧ (x.1 < y.1 ∨ (x.1 = y.1 ∧ x.2.1 < y.2.1)))
instance (x y : Ch) : Decidable (Lt x y) := by unfold Lt; infer_instance
def ccmp (x y : Ch) : Int := if Lt x y then -1 else if Lt y x then 1 else 0

theorem ccmp_ok : CmpOk ccmp := by
  refine ⟨fun x y => ?_, fun x y z h1 h2 => ?_, fun x y z h1 h2 => ?_⟩
  · unfold ccmp
    by_cases a : Lt x y
    · have b : ¬ Lt y x := by unfold Lt at *; omega
      simp [a, b]
    · by_cases b : Lt y x
      · simp [a, b]
      · simp [a, b]
  · unfold ccmp at *
    have a : Lt x y := by by_cases a : Lt x y; exact a; rw [if_neg a] at h1; split at h1 <;> omega
    have b : Lt y z := by by_cases b : Lt y z; exact b; rw [if_neg b] at h2; split at h2 <;> omega
    rw [if_pos (by unfold Lt at *; omega)]
    omega
  · unfold ccmp at *
    have a : ¬ Lt x y := fun a => by rw [if_pos a] at h1; omega
    have b : ¬ Lt y z := fun b => by rw [if_pos b] at h2; omega
    rw [if_neg (by unfold Lt at *; omega)]
    split <;> omega

theorem cmpi_eq (k : Nat) (a b : Int) : cmp_Compare_int.F k a b = some (if a < b then -1 else if b < a then 1 else 0) := by
  unfold cmp_Compare_int.F cmp_isNaN_int.F
  simp only [Option.bind_some, bne_self_eq_false, cond_false]
  by_cases h : a < b
  · rw [decide_eq_true h, if_pos h]; rfl
  · rw [decide_eq_false h, if_neg h]
    by_cases g : b < a
    · rw [decide_eq_true (p := a > b) g, if_pos g]; rfl
    · rw [decide_eq_false (p := a > b) g, if_neg g]; rfl

theorem or3_eq (m : Nat) (a b c : Int) : cmp_Or_int.F (m + 5) [a, b, c] = some (if a ≠ 0 then a else if b ≠ 0 then b else c) := by
  unfold cmp_Or_int.F
  rw [cmp_Or_int.l0_succ]
  unfold cmp_Or_int.l0b
  change (bif a != 0 then some a else cmp_Or_int.l0 (m + 5) [a, b, c] (m + 4) 1) = _
  by_cases h : a = 0
  · rw [cond_neg (c := a != 0) (by simp [h]), if_neg (by simp [h]), cmp_Or_int.l0_succ]
    unfold cmp_Or_int.l0b
    change (bif b != 0 then some b else cmp_Or_int.l0 (m + 5) [a, b, c] (m + 3) 2) = _
    by_cases g : b = 0
    · rw [cond_neg (c := b != 0) (by simp [g]), if_neg (by simp [g]), cmp_Or_int.l0_succ]
      unfold cmp_Or_int.l0b
      change (bif c != 0 then some c else cmp_Or_int.l0 (m + 5) [a, b, c] (m + 2) 3) = _
      by_cases f : c = 0
      · rw [cond_neg (c := c != 0) (by simp [f]), cmp_Or_int.l0_succ, f]
        rfl
      · rw [cond_pos (c := c != 0) (by simpa using f)]
    · rw [cond_pos (c := b != 0) (by simpa using g), if_pos g]
  · rw [cond_pos (c := a != 0) (by simpa using h), if_pos h]

theorem ccmp_eq (m : Nat) (x y : Ch) : probe_All_1.F (m + 5) x y = some (ccmp x y) := by
  unfold probe_All_1.F
  rw [cmpi_eq, cmpi_eq, cmpi_eq]
  simp only [Option.bind_some]
  rw [or3_eq]
  simp only [Option.bind_some]
  congr 1
  unfold ccmp
  by_cases h1 : x.2.2.1 < y.2.2.1
  · rw [if_pos h1, if_pos (show (-1 : Int) ≠ 0 by decide), if_pos (show Lt x y by unfold Lt; omega)]
  · by_cases h2 : y.2.2.1 < x.2.2.1
    · rw [if_neg h1, if_pos h2, if_pos (show (1 : Int) ≠ 0 by decide), if_neg (show ¬ Lt x y by unfold Lt; omega), if_pos (show Lt y x by unfold Lt; omega)]
    · rw [if_neg h1, if_neg h2, if_neg (show ¬ (0 : Int) ≠ 0 by decide)]
      by_cases h3 : x.1 < y.1
      · rw [if_pos h3, if_pos (show (-1 : Int) ≠ 0 by decide), if_pos (show Lt x y by unfold Lt; omega)]
      · by_cases h4 : y.1 < x.1
        · rw [if_neg h3, if_pos h4, if_pos (show (1 : Int) ≠ 0 by decide), if_neg (show ¬ Lt x y by unfold Lt; omega), if_pos (show Lt y x by unfold Lt; omega)]
        · rw [if_neg h3, if_neg h4, if_neg (show ¬ (0 : Int) ≠ 0 by decide)]
          by_cases h5 : x.2.1 < y.2.1
          · rw [if_pos h5, if_pos (show Lt x y by unfold Lt; omega)]
          · by_cases h6 : y.2.1 < x.2.1
            · rw [if_neg h5, if_pos h6, if_neg (show ¬ Lt x y by unfold Lt; omega), if_pos (show Lt y x by unfold Lt; omega)]
            · rw [if_neg h5, if_neg h6, if_neg (show ¬ Lt x y by unfold Lt; omega), if_neg (show ¬ Lt y x by unfold Lt; omega)]

attribute [local irreducible] probe_All_1.F

theorem all_eq2 (k : Nat) (hk : 1000 ≤ k) (s : Int × Int) (hs : probe_CheckSep.F k s = some 0) {l : List (List Nd)} (h : Few l) : (∃ e, e ≠ 0 ∧ probe_All.F k l s = some ([], e)) ∨ ∃ L out, probe_All.F k l s = some (L, 0) ∧ L.Perm out ∧ L.length ≤ 256 ∧ AllOk k s l (Done l.length 0) out := by
  have hf := h.few
  unfold probe_All.F
  rw [hs]
  simp only [Option.bind_some]
  rw [cond_neg (c := (0 : Int) != 0) (by rfl), cond_neg (c := decide (((l.length : Nat) : Int) > 24)) (decide_eq_false (by omega)), prck_eq k (by omega) s hs l (by omega) h.ok]
  simp only [Option.bind_some]
  rw [cond_neg (c := (0 : Int) != 0) (by rfl)]
  obtain ⟨out, e, e1, e2⟩ := all_l2 k hk s h k 0 [] (Nat.zero_le _) (by omega) (by simp) ⟨fun c hc => (by cases hc), fun i j hij hj hD _ => (by unfold Done at hD; omega), List.Pairwise.nil⟩
  rw [show ((0 : Nat) : Int) = 0 from rfl] at e
  rw [e]
  simp only [Option.bind_some]
  by_cases c : ((out.length : Nat) : Int) > 256
  · rw [decide_eq_true c]
    exact .inl ⟨2, by decide, rfl⟩
  · rw [decide_eq_false c, cond_false]
    obtain ⟨m, rfl⟩ : ∃ m, k = m + 5 := ⟨k - 5, by omega⟩
    obtain ⟨ys, hy⟩ := sorted_exists (cmp := fun a b => probe_All_1.F (m + 5) a b) ccmp_ok (by omega) (fun x _ y _ => ccmp_eq m x y) (e2.dist.imp fun {x y} hxy hz => hxy (by
      unfold ccmp at hz
      by_cases a : Lt x y
      · rw [if_pos a] at hz; omega
      · by_cases b : Lt y x
        · rw [if_neg a, if_pos b] at hz; omega
        · unfold Lt at a b; omega))
    have hperm : ys.Perm out := by obtain ⟨_, _, _, _, _, h4, _⟩ := hy; exact h4
    rw [sortO_eq hy]
    exact .inr ⟨ys, out, rfl, hperm, by rw [hperm.length_eq]; omega, e2⟩

attribute [local irreducible] probe_All.F

/-! ### The law -/

theorem met_loop (k : Nat) (L : List Ch) (hL : L.length ≤ 256) (i : Nat) (f : Int) (b : Bool) (hb : b = true ↔ ∀ c ∈ L, c.1 ≠ (i : Int) ∧ c.2.1 ≠ (i : Int)) {self5 : (Int × Int) → Option Bool} : ∀ n q : Nat, q ≤ L.length → L.length - q < n → (∀ c ∈ L.take q, c.1 ≠ (i : Int) ∧ c.2.1 ≠ (i : Int)) →
    skywaykeep3_ResolveAll.l0 k (L, 0) (f, (i : Int)) self5 (b, 0) n (q : Int) = bif b then self5 (w64 (f + 1), w64 ((i : Int) + 1)) else self5 (f, w64 ((i : Int) + 1)) := by
  intro n
  induction n with
  | zero => intro q _ h; omega
  | succ n ih =>
    intro q hq hn hno
    rw [skywaykeep3_ResolveAll.l0_succ]
    unfold skywaykeep3_ResolveAll.l0b
    dsimp only
    by_cases hlt : q < L.length
    · rw [decide_eq_true (p := (q : Int) < ((L.length : Nat) : Int)) (by omega), decide_eq_true (p := 0 ≤ (q : Int)) (by omega), Int.toNat_natCast, show w64 ((q : Int) + 1) = ((q + 1 : Nat) : Int) from w64_id (by omega) (by omega)]
      simp only [Bool.and_self, cond_true]
      obtain ⟨c, hc⟩ : ∃ c, L.getD q (0, (0, (0, 0))) = c := ⟨_, rfl⟩
      have hm : c ∈ L := by rw [← hc]; simp [List.getD, hlt]
      rw [hc]
      by_cases e : c.1 = (i : Int) ∨ c.2.1 = (i : Int)
      · have hbf : b = false := by
          cases b with
          | false => rfl
          | true => exact absurd e (by have := hb.1 rfl c hm; omega)
        have hX : (bif c.1 == (i : Int) then some true else some (c.2.1 == (i : Int))) = some true := by
          by_cases e1 : c.1 = (i : Int)
          · rw [cond_pos (c := c.1 == (i : Int)) (beq_iff_eq.2 e1)]
          · rw [cond_neg (c := c.1 == (i : Int)) (beq_false_of_ne e1), beq_iff_eq.2 (e.resolve_left e1)]
        rw [hX, hbf]
        rfl
      · have hX : (bif c.1 == (i : Int) then some true else some (c.2.1 == (i : Int))) = some false := by
          rw [cond_neg (c := c.1 == (i : Int)) (beq_false_of_ne (fun g => e (.inl g))), beq_false_of_ne (fun g => e (.inr g))]
        rw [hX]
        simp only [Option.bind_some, cond_false]
        refine ih (q + 1) (by omega) (by omega) fun c' hc' => ?_
        rw [List.take_add_one, List.mem_append] at hc'
        rcases hc' with hc' | hc'
        · exact hno c' hc'
        · have : c' = c := by
            rw [← hc]
            simp [hlt] at hc'
            simp [List.getD, hlt, hc']
          rw [this]
          omega
    · rw [decide_eq_false (p := (q : Int) < ((L.length : Nat) : Int)) (by omega), cond_false]
      rw [List.take_of_length_le (by omega)] at hno
      have hbt : b = true := hb.2 hno
      rw [hbt]
      rfl

theorem rall_loop (k : Nat) (hk : 1000 ≤ k) (s : Int × Int) (hs : probe_CheckSep.F k s = some 0) {l : List (List Nd)} (h : Few l) {L out : List Ch} (hp : L.Perm out) (hL : L.length ≤ 256) (hA : AllOk k s l (Done l.length 0) out) : ∀ (n i : Nat) (f : Int), i ≤ l.length → l.length - i < n → 0 ≤ f → f ≤ i → (f = i ↔ ∀ q, q < i → IsFree k s l q) →
    skywaykeep3_ResolveAll.l1 k l s (L, 0) n (f, (i : Int)) = some true := by
  intro n
  have hf := h.few
  have met : ∀ i, i < l.length → (IsFree k s l i ↔ ∀ c ∈ L, c.1 ≠ (i : Int) ∧ c.2.1 ≠ (i : Int)) := fun i hi => by
    constructor
    · intro hF c hc
      obtain ⟨a, b, c1, c2, c3, c4, _, c6⟩ := hA.sound c (hp.mem_iff.1 hc)
      constructor
      · intro e
        have : a = i := by omega
        subst this
        exact c6 (Fr.comm (by omega) (h.at c4).1 (h.at hi).1 (hF b c4 (by omega)))
      · intro e
        have : b = i := by omega
        subst this
        exact c6 (hF a (by omega) (by omega))
    · intro hN q hq hqi
      refine Classical.byContradiction fun hF => ?_
      rcases Nat.lt_or_gt_of_ne hqi with g | g
      · obtain ⟨c, hc, c1, c2⟩ := hA.comp q i g hi (by unfold Done; omega) hF
        exact (hN c (hp.mem_iff.2 hc)).2 c2
      · obtain ⟨c, hc, c1, c2⟩ := hA.comp i q g hq (by unfold Done; omega) (fun hF' => hF (Fr.comm (by omega) (h.at hi).1 (h.at hq).1 hF'))
        exact (hN c (hp.mem_iff.2 hc)).1 c1
  induction n with
  | zero => intro i _ _ h; omega
  | succ n ih =>
    intro i f hi hn f0 f1 hfi
    rw [skywaykeep3_ResolveAll.l1_succ]
    unfold skywaykeep3_ResolveAll.l1b
    dsimp only
    by_cases hlt : i < l.length
    · rw [decide_eq_true (p := (i : Int) < ((l.length : Nat) : Int)) (by omega), cond_true]
      obtain ⟨b, hb, hbf⟩ := Free_eq k hk s hs h hlt
      rw [hb]
      simp only [Option.bind_some]
      rw [cond_neg (c := (0 : Int) != 0) (by rfl)]
      have := met_loop k L hL i f b (hbf.trans (met i hlt)) (self5 := skywaykeep3_ResolveAll.l1 k l s (L, 0) n) k 0 (Nat.zero_le _) (by omega) (fun c hc => by simp at hc)
      rw [show ((0 : Nat) : Int) = 0 from rfl] at this
      rw [this, show w64 ((i : Int) + 1) = ((i + 1 : Nat) : Int) from w64_id (by omega) (by omega)]
      cases b with
      | true =>
        have hF := hbf.1 rfl
        rw [cond_true, w64_id (n := f + 1) (by omega) (by omega)]
        refine ih (i + 1) (f + 1) (by omega) (by omega) (by omega) (by omega) ⟨fun g q hq => ?_, fun g => ?_⟩
        · by_cases e : q = i
          · rw [e]; exact hF
          · exact hfi.1 (by omega) q (by omega)
        · have := hfi.2 (fun q hq => g q (by omega))
          omega
      | false =>
        rw [cond_false]
        refine ih (i + 1) f (by omega) (by omega) (by omega) (by omega) ⟨fun g => by omega, fun g => ?_⟩
        have := hbf.2 (g i (by omega))
        cases this
    · rw [decide_eq_false (p := (i : Int) < ((l.length : Nat) : Int)) (by omega), cond_false]
      have hil : i = l.length := by omega
      subst hil
      by_cases hz : L = []
      · have hall : f = (l.length : Int) := hfi.2 fun q hq => (met q hq).2 (fun c hc => by rw [hz] at hc; cases hc)
        rw [hall, hz]
        simp
      · have hLp : 0 < L.length := List.length_pos_iff.2 hz
        have hne : f ≠ (l.length : Int) := fun e => by
          obtain ⟨c, L', hcL⟩ : ∃ c L', L = c :: L' := by
            cases L with
            | nil => exact absurd rfl hz
            | cons c L' => exact ⟨c, L', rfl⟩
          have hc : c ∈ L := by rw [hcL]; exact List.mem_cons_self ..
          obtain ⟨a, b, c1, c2, c3, c4, _, _⟩ := hA.sound c (hp.mem_iff.1 hc)
          exact ((met b c4).1 (hfi.1 e b c4) c hc).2 c2
        rw [beq_false_of_ne hne, beq_false_of_ne (show ((L.length : Nat) : Int) ≠ 0 by omega)]
        rfl

theorem ResolveAll_plain (k : Nat) (hk : 2000 ≤ k) (hf : skywaykeep3_resolveFact.F k = some true) (l : List (List Nd)) (s : Int × Int) : skywaykeep3_ResolveAll.F k l s = some true := by
  unfold skywaykeep3_ResolveAll.F
  obtain ⟨r, hr, hq⟩ := small_eq k (by omega) l 5 300 (by omega)
  rw [hf, hr]
  simp only [Option.bind_some, Bool.not_true, cond_false]
  cases r with
  | false => rfl
  | true =>
    obtain ⟨q1, q2⟩ := hq.1 rfl
    have h : Few l := ⟨by omega, fun t ht => (q2 t ht).1, fun t ht => (q2 t ht).2⟩
    clear hq hr
    simp only [Bool.not_true, cond_false]
    obtain ⟨e, he⟩ := sepc_tot k s
    by_cases z : e = 0
    · subst z
      rcases all_eq2 k (by omega) s he h with ⟨e, he', hA⟩ | ⟨L, out, hA, hp, hL, hO⟩
      · rw [hA]
        simp only [Option.bind_some]
        rw [cond_pos (c := e != 0) (by simpa using he')]
      · rw [hA]
        simp only [Option.bind_some]
        rw [cond_neg (c := (0 : Int) != 0) (by rfl)]
        have hf5 := h.few
        exact rall_loop k (by omega) s he h hp hL hO k 0 0 (Nat.zero_le _) (by omega) (Int.le_refl _) (Int.le_refl _) ⟨fun _ q hq => by omega, fun _ => rfl⟩
    · have hA : probe_All.F k l s = some ([], e) := by
        unfold probe_All.F
        rw [he]
        simp only [Option.bind_some]
        rw [cond_pos (c := e != 0) (by simpa using z)]
      rw [hA]
      simp only [Option.bind_some]
      rw [cond_pos (c := e != 0) (by simpa using z)]

theorem resfact (m : Nat) : skywaykeep3_resolveFact.F (m + 1000) = some true := by kernel_rfl

attribute [local irreducible] skywaykeep3_ResolveAll.F
theorem rall_cal (k : Nat) (x : DatPs (skywaykeep3_ResolveAll.C 0).ats) : (skywaykeep3_ResolveAll.C k).F x = skywaykeep3_ResolveAll.F k x.1 x.2 := rfl
theorem ResolveAll_law (x : DatPs (skywaykeep3_ResolveAll.C 0).ats) (_ : FitPs (skywaykeep3_ResolveAll.C 0).ats x) : ∃ k, (skywaykeep3_ResolveAll.C k).F x = some true :=
  ⟨300000 + 1000, (rall_cal _ x).trans (ResolveAll_plain (300000 + 1000) (by omega) (resfact 300000) x.1 x.2)⟩

end Go.Proofs.YtpgnhohclpjfiaaGreatDoor.RT
