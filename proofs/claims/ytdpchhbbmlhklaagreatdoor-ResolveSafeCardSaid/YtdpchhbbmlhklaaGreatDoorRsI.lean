/- What is proved here: the law ResolveSafe. It asks nothing. -/
import Derived.Test.YtdpchhbbmlhklaaGreatDoorRsT
import Derived.Test.YtdpchhbbmlhklaaGreatDoorRpA
import Derived.Test.YtdpchhbbmlhklaaGreatDoorTubP
import Derived.Test.YtdpchhbbmlhklaaGreatDoorRsH
import Derived.Test.YtdpchhbbmlhklaaGreatDoorRsR
namespace Go.Proofs.YtdpchhbbmlhklaaGreatDoor.RT
open Go Go.R

attribute [local irreducible] tube_Check.F tube_at.F plane_Check.F tube_Point.F skywaykeep3_small.F plane_Distance.F probe_separated.F probe_pair.F probe_CheckSep.F probe_check.F effect_Of.F resolve_Candidates.F phrase_Check.F

/-- Of two flights one is short. -/
theorem pair_eq2 (k : Nat) (hk : 1000 ≤ k) (s : Int × Int) {x y : List Nd} (hx : TubeOk x) (hy : TubeOk y) (hsp : tl x - tm x 0 ≤ 300 ∨ tl y - tm y 0 ≤ 300) : ∃ r, probe_pair.F k x y s = some r ∧ (r = [] ↔ Fr k s x y) := by
  have px := hx.pos
  have py := hy.pos
  unfold probe_pair.F probe_common.F
  rw [last_ix px hx.len, last_ix py hy.len]
  rw [cond_pos (c := decide ((0 : Nat) ≤ 0) && decide ((0 : Int) < ((x.length : Nat) : Int))) (by simp; omega), cond_pos (c := decide ((0 : Nat) ≤ 0) && decide ((0 : Int) < ((y.length : Nat) : Int))) (by simp; omega), inIdx (n := x.length) (by omega) (by omega), inIdx (n := y.length) (by omega) (by omega)]
  simp only [cond_true, Option.bind_some, Int.toNat_natCast]
  change ∃ r, probe_pair.l0 k x y s (mx (tm x 0) (tm y 0), mn (tl x) (tl y)) k (mx (tm x 0) (tm y 0), []) = some r ∧ _
  have h1 := mx_ge (tm x 0) (tm y 0)
  have h2 := mn_le (tl x) (tl y)
  generalize mx (tm x 0) (tm y 0) = a at h1 ⊢
  generalize mn (tl x) (tl y) = b at h2 ⊢
  obtain ⟨r, q1, _, _, q4⟩ := pair_loop k (by omega) s hx hy (a, b) (show b ≤ tl x by omega) (show b ≤ tl y by omega) k a [] (by omega) (by omega) (by show (b + 1 - a).toNat < k; omega) (by show 0 + (b + 1 - a).toNat ≤ 100000; omega) (fun o h => by cases h) List.Pairwise.nil
  exact ⟨r, q1, q4.trans ⟨fun h t t0 t1 t2 t3 => h.2 t (by omega) (by show t ≤ b; omega), fun h => ⟨rfl, fun u u0 u1 => h u (by omega) (by omega) (by change u ≤ b at u1; omega) (by change u ≤ b at u1; omega)⟩⟩⟩

theorem Pair_eq2 (k : Nat) (hk : 1000 ≤ k) (s : Int × Int) (hs : probe_CheckSep.F k s = some 0) {x y : List Nd} (hx : TubeOk x) (hy : TubeOk y) (hsp : tl x - tm x 0 ≤ 300 ∨ tl y - tm y 0 ≤ 300) : ∃ r, probe_Pair.F k x y s = some (r, 0) ∧ (r = [] ↔ Fr k s x y) := by
  obtain ⟨r, h1, h2⟩ := pair_eq2 k hk s hx hy hsp
  refine ⟨r, ?_, h2⟩
  unfold probe_Pair.F
  rw [prck_eq k (by omega) s hs [x, y] (by simp) (fun t ht => by
    simp only [List.mem_cons, List.not_mem_nil, or_false] at ht
    rcases ht with rfl | rfl
    · exact hx
    · exact hy)]
  simp only [Option.bind_some]
  rw [cond_neg (c := (0 : Int) != 0) (by rfl), h1]
  rfl

/-- A tube is free of all but one of a list. -/
def FreeOf (k : Nat) (s : Int × Int) (l : List (List Nd)) (i : Int) (t : List Nd) (j : Nat) : Prop := ∀ q : Nat, j ≤ q → q < l.length → (q : Int) ≠ i → Fr k s (tub l q) t

theorem free2 (k : Nat) (hk : 1000 ≤ k) (s : Int × Int) (hs : probe_CheckSep.F k s = some 0) {l : List (List Nd)} (h : Few l) (i : Int) {t : List Nd} (ht : TubeOk t) : ∀ n j : Nat, j ≤ l.length → l.length - j < n → ∃ b, resolve_free.l0 k l i t s n j = some b ∧ (b = true ↔ FreeOf k s l i t j) := by
  intro n
  have hf := h.few
  induction n with
  | zero => intro i _ h; omega
  | succ n ih =>
    intro j hj hn
    rw [resolve_free.l0_succ]
    unfold resolve_free.l0b
    by_cases hlt : j < l.length
    · rw [decide_eq_true (p := (j : Int) < ((l.length : Nat) : Int)) (by omega), decide_eq_true (p := 0 ≤ (j : Int)) (by omega)]
      simp only [Bool.and_self, cond_true]
      rw [show w64 ((j : Int) + 1) = ((j + 1 : Nat) : Int) from w64_id (by omega) (by omega)]
      obtain ⟨b, hb, hq⟩ := ih (j + 1) (by omega) (by omega)
      by_cases e : (j : Int) = i
      · rw [cond_pos (c := (j : Int) == i) (beq_iff_eq.2 e)]
        refine ⟨b, hb, hq.trans ⟨fun g q q0 q1 q2 => g q (by omega) q1 q2, fun g q q0 q1 q2 => g q (by omega) q1 q2⟩⟩
      · rw [cond_neg (c := (j : Int) == i) (beq_false_of_ne e)]
        have hg : l.getD ((j : Int)).toNat [] = tub l j := by rw [Int.toNat_natCast]; rfl
        obtain ⟨tj, sj⟩ := h.at hlt
        obtain ⟨r, hP, r3⟩ := Pair_eq2 k hk s hs tj ht (.inl sj)
        rw [hg, hP]
        simp only [Option.bind_some]
        rw [cond_neg (c := (0 : Int) != 0) (by rfl)]
        simp only [Option.bind_some]
        by_cases z : r = []
        · rw [z, cond_neg (c := decide (((([] : List Spn).length : Nat) : Int) > 0)) (by rfl)]
          refine ⟨b, hb, hq.trans ⟨fun g q q0 q1 q2 => ?_, fun g q q0 q1 q2 => g q (by omega) q1 q2⟩⟩
          by_cases e2 : q = j
          · rw [e2]; exact r3.1 z
          · exact g q (by omega) q1 q2
        · have hlr : 0 < r.length := List.length_pos_iff.2 z
          rw [cond_pos (c := decide (((r.length : Nat) : Int) > 0)) (decide_eq_true (by omega))]
          exact ⟨false, rfl, ⟨fun g => (by cases g), fun g => absurd (r3.2 (g j (Nat.le_refl _) hlt e)) z⟩⟩
    · rw [decide_eq_false (p := (j : Int) < ((l.length : Nat) : Int)) (by omega)]
      exact ⟨true, rfl, ⟨fun _ q q0 q1 => by omega, fun _ => rfl⟩⟩

theorem uncl2 (k : Nat) (hk : 1000 ≤ k) (s : Int × Int) (hs : probe_CheckSep.F k s = some 0) {l : List (List Nd)} (h : Few l) (i : Int) {t : List Nd} (ht : TubeOk t) : ∀ n j : Nat, j ≤ l.length → l.length - j < n → ∃ b, skywaykeep3_unclashed.l0 k l i t s n j = some b ∧ (b = true ↔ FreeOf k s l i t j) := by
  intro n
  have hf := h.few
  induction n with
  | zero => intro i _ h; omega
  | succ n ih =>
    intro j hj hn
    rw [skywaykeep3_unclashed.l0_succ]
    unfold skywaykeep3_unclashed.l0b
    by_cases hlt : j < l.length
    · rw [decide_eq_true (p := (j : Int) < ((l.length : Nat) : Int)) (by omega), decide_eq_true (p := 0 ≤ (j : Int)) (by omega)]
      simp only [Bool.and_self, cond_true]
      rw [show w64 ((j : Int) + 1) = ((j + 1 : Nat) : Int) from w64_id (by omega) (by omega)]
      obtain ⟨b, hb, hq⟩ := ih (j + 1) (by omega) (by omega)
      by_cases e : (j : Int) = i
      · rw [cond_pos (c := (j : Int) == i) (beq_iff_eq.2 e)]
        refine ⟨b, hb, hq.trans ⟨fun g q q0 q1 q2 => g q (by omega) q1 q2, fun g q q0 q1 q2 => g q (by omega) q1 q2⟩⟩
      · rw [cond_neg (c := (j : Int) == i) (beq_false_of_ne e)]
        have hg : l.getD ((j : Int)).toNat [] = tub l j := by rw [Int.toNat_natCast]; rfl
        obtain ⟨tj, sj⟩ := h.at hlt
        obtain ⟨r, hP, r3⟩ := Pair_eq2 k hk s hs ht tj (.inr sj)
        rw [hg]
        unfold probe_First.F
        rw [hP]
        simp only [Option.bind_some]
        rw [cond_neg (c := (0 : Int) != 0) (by rfl)]
        by_cases z : r = []
        · rw [z, cond_pos (c := ((([] : List Spn).length : Nat) : Int) == 0) (by rfl)]
          simp only [Option.bind_some]
          rw [cond_neg (c := (8 : Int) != 8) (by rfl)]
          refine ⟨b, hb, hq.trans ⟨fun g q q0 q1 q2 => ?_, fun g q q0 q1 q2 => g q (by omega) q1 q2⟩⟩
          by_cases e2 : q = j
          · rw [e2]; exact (r3.1 z).comm (by omega) ht tj
          · exact g q (by omega) q1 q2
        · have hlr : 0 < r.length := List.length_pos_iff.2 z
          rw [cond_neg (c := ((r.length : Nat) : Int) == 0) (beq_false_of_ne (by omega)), cond_pos (c := decide ((0 : Nat) ≤ 0) && decide ((0 : Int) < ((r.length : Nat) : Int))) (by simp; omega)]
          simp only [Option.bind_some]
          rw [cond_pos (c := (0 : Int) != 8) (by rfl)]
          exact ⟨false, rfl, ⟨fun g => (by cases g), fun g => absurd (r3.2 ((g j (Nat.le_refl _) hlt e).comm (by omega) tj ht)) z⟩⟩
    · rw [decide_eq_false (p := (j : Int) < ((l.length : Nat) : Int)) (by omega)]
      exact ⟨true, rfl, ⟨fun _ q q0 q1 => by omega, fun _ => rfl⟩⟩

/-- The two ways to look whether a tube is free are one. -/
theorem both (k : Nat) (hk : 1000 ≤ k) (s : Int × Int) (hs : probe_CheckSep.F k s = some 0) {l : List (List Nd)} (h : Few l) (i : Int) {t : List Nd} (ht : TubeOk t) : ∃ b, resolve_free.F k l i t s = some b ∧ skywaykeep3_unclashed.F k l i t s = some b := by
  have hf := h.few
  obtain ⟨b, h1, h2⟩ := free2 k hk s hs h i ht k 0 (Nat.zero_le _) (by omega)
  obtain ⟨c, h3, h4⟩ := uncl2 k hk s hs h i ht k 0 (Nat.zero_le _) (by omega)
  have : b = c := by
    have := h2.trans h4.symm
    cases b <;> cases c <;> simp_all
  subst this
  exact ⟨b, h1, h3⟩

attribute [local irreducible] resolve_free.F skywaykeep3_unclashed.F

theorem eqn_loop (k : Nat) (l : List Nd) (hl : l.length ≤ 64) : ∀ n i : Nat, i ≤ l.length → l.length - i < n → slices_Equal_api_TubeNode.l0 k l l n i = some true := by
  intro n
  induction n with
  | zero => intro i _ h; omega
  | succ n ih =>
    intro i hi hn
    rw [slices_Equal_api_TubeNode.l0_succ]
    unfold slices_Equal_api_TubeNode.l0b
    by_cases hlt : i < l.length
    · rw [decide_eq_true (p := (i : Int) < ((l.length : Nat) : Int)) (by omega), decide_eq_true (p := 0 ≤ (i : Int)) (by omega), show w64 ((i : Int) + 1) = ((i + 1 : Nat) : Int) from w64_id (by omega) (by omega)]
      simp only [Bool.and_self, cond_true, beq_self_eq_true, Bool.not_true, cond_false]
      exact ih (i + 1) hlt (by omega)
    · rw [decide_eq_false (p := (i : Int) < ((l.length : Nat) : Int)) (by omega)]
      rfl
theorem eqn_self (k : Nat) (hk : 100 ≤ k) (l : List Nd) (hl : l.length ≤ 64) : slices_Equal_api_TubeNode.F k l l = some true := by
  unfold slices_Equal_api_TubeNode.F
  rw [cond_neg (c := ((l.length : Nat) : Int) != ((l.length : Nat) : Int)) (by simp)]
  exact eqn_loop k l hl k 0 (Nat.zero_le _) (by omega)

/-- What a clearance makes of a tube, and whether it is free then. -/
noncomputable def good (k : Nat) (l : List (List Nd)) (i : Int) (s : Int × Int) (x : List Nd) (t : Int) (a : Kd) (c : Cl) : Bool :=
  match effect_Of.F k x c t a (0, 0) with
  | some (m, e) => (e == 0) && (resolve_free.F k l i m s).getD false
  | none => false

theorem try_c (k : Nat) (hk : 1000 ≤ k) (s : Int × Int) (hs : probe_CheckSep.F k s = some 0) {l : List (List Nd)} (h : Few l) (i : Int) (x : List Nd) (t : Int) (a : Kd) (c : Cl) :
    ∃ m e, effect_Of.F k x c t a (0, 0) = some (m, e) ∧ (e = 0 → TubeOk m) ∧ ((bif e == 0 then (resolve_free.F k l i m s).bind fun r7 => some r7 else some false) = some (good k l i s x t a c)) ∧ ((bif e == 0 then (skywaykeep3_unclashed.F k l i m s).bind fun r7 => some r7 else some false) = some (good k l i s x t a c)) ∧ (good k l i s x t a c = true → e = 0) := by
  unfold good
  rcases of_till k (by omega) x c t a (0, 0) with ⟨e, he, h1⟩ | ⟨_, _, M, h1, hT⟩
  · rw [h1]
    dsimp only
    refine ⟨_, _, rfl, fun z => absurd z he, ?_, ?_, ?_⟩
    · rw [beq_false_of_ne he]; rfl
    · rw [beq_false_of_ne he]; rfl
    · rw [beq_false_of_ne he]; intro z; cases z
  · rw [h1]
    obtain ⟨b, h2, h3⟩ := both k hk s hs h i hT.1
    refine ⟨M, 0, rfl, fun _ => hT.1, ?_, ?_, fun _ => rfl⟩
    · dsimp only; rw [h2]; rfl
    · dsimp only; rw [h2, h3]; rfl

theorem best_loop (k : Nat) (hk : 1000 ≤ k) (s : Int × Int) (hs : probe_CheckSep.F k s = some 0) {l : List (List Nd)} (h : Few l) {i : Nat} (hi : i < l.length) (t : Int) (a : Kd) (L : List Cl) (hL : L.length ≤ 18) : ∀ n j : Nat, j ≤ L.length → L.length - j < n →
    (resolve_Best.l0 k l i s t a (L, 0) n j = some ((ByteArray.empty, (0, (0, ByteArray.empty))), [], 8)) ∨
    ∃ q m, j ≤ q ∧ q < L.length ∧ (∀ p, j ≤ p → p < q → good k l i s (tub l i) t a (L.getD p (ByteArray.empty, (0, (0, ByteArray.empty)))) = false) ∧ good k l i s (tub l i) t a (L.getD q (ByteArray.empty, (0, (0, ByteArray.empty)))) = true ∧
      effect_Of.F k (tub l i) (L.getD q (ByteArray.empty, (0, (0, ByteArray.empty)))) t a (0, 0) = some (m, 0) ∧ TubeOk m ∧ resolve_Best.l0 k l i s t a (L, 0) n j = some (L.getD q (ByteArray.empty, (0, (0, ByteArray.empty))), m, 0) := by
  intro n
  induction n with
  | zero => intro i _ h; omega
  | succ n ih =>
    intro j hj hn
    rw [resolve_Best.l0_succ]
    unfold resolve_Best.l0b
    dsimp only
    by_cases hlt : j < L.length
    · rw [decide_eq_true (p := (j : Int) < ((L.length : Nat) : Int)) (by omega), decide_eq_true (p := 0 ≤ (j : Int)) (by omega), decide_eq_true (p := 0 ≤ (i : Int)) (by omega), decide_eq_true (p := (i : Int) < ((l.length : Nat) : Int)) (by omega)]
      simp only [Bool.and_self, cond_true]
      rw [show w64 ((j : Int) + 1) = ((j + 1 : Nat) : Int) from w64_id (by omega) (by omega), Int.toNat_natCast, Int.toNat_natCast, tub_eq]
      have hc : ((L.getD j (ByteArray.empty, (0, (0, ByteArray.empty)))).1, (((L.getD j (ByteArray.empty, (0, (0, ByteArray.empty)))).2).1, (((L.getD j (ByteArray.empty, (0, (0, ByteArray.empty)))).2).2))) = L.getD j (ByteArray.empty, (0, (0, ByteArray.empty))) := rfl
      rw [hc]
      obtain ⟨m, e, h1, h2, h3, _, h5⟩ := try_c k hk s hs h i (tub l i) t a (L.getD j (ByteArray.empty, (0, (0, ByteArray.empty))))
      rw [h1]
      simp only [Option.bind_some]
      rw [h3]
      simp only [Option.bind_some]
      cases hg : good k l i s (tub l i) t a (L.getD j (ByteArray.empty, (0, (0, ByteArray.empty)))) with
      | true =>
        obtain rfl := h5 hg
        exact .inr ⟨j, m, Nat.le_refl _, hlt, fun p p0 p1 => by omega, hg, h1, h2 rfl, rfl⟩
      | false =>
        simp only [cond_false]
        rcases ih (j + 1) hlt (by omega) with g | ⟨q, m', g1, g2, g3, g4⟩
        · exact .inl g
        · refine .inr ⟨q, m', by omega, g2, fun p p0 p1 => ?_, g4⟩
          by_cases e : p = j
          · rw [e]; exact hg
          · exact g3 p (by omega) p1
    · rw [decide_eq_false (p := (j : Int) < ((L.length : Nat) : Int)) (by omega)]
      exact .inl rfl

theorem cl_eq2 (x y : Cl) : (x.1 == y.1 && (x.2.1 == y.2.1 && (x.2.2.1 == y.2.2.1 && (x.2.2.2 == y.2.2.2)))) = decide (x = y) := by
  obtain ⟨x1, x2, x3, x4⟩ := x
  obtain ⟨y1, y2, y3, y4⟩ := y
  dsimp only
  rw [bb_dec, bb_dec, bb_eq, bb_eq]
  by_cases h1 : x1 = y1 <;> by_cases h2 : x2 = y2 <;> by_cases h3 : x3 = y3 <;> by_cases h4 : x4 = y4 <;> simp [h1, h2, h3, h4]

theorem safe_loop (k : Nat) (hk : 1000 ≤ k) (s : Int × Int) (hs : probe_CheckSep.F k s = some 0) {l : List (List Nd)} (h : Few l) {i : Nat} (hi : i < l.length) (t : Int) (a : Kd) (L : List Cl) (hL : L.length ≤ 18) {q : Nat} {m : List Nd} (hq : q < L.length)
    (hbefore : ∀ p, p < q → good k l i s (tub l i) t a (L.getD p (ByteArray.empty, (0, (0, ByteArray.empty)))) = false) (hg : good k l i s (tub l i) t a (L.getD q (ByteArray.empty, (0, (0, ByteArray.empty)))) = true)
    (hm : effect_Of.F k (tub l i) (L.getD q (ByteArray.empty, (0, (0, ByteArray.empty)))) t a (0, 0) = some (m, 0)) (hM : TubeOk m) : ∀ n j : Nat, j ≤ q → q - j < n →
    skywaykeep3_ResolveSafe.l0 k l i s t a (L.getD q (ByteArray.empty, (0, (0, ByteArray.empty))), m, 0) (L, 0) n j = some true := by
  intro n
  induction n with
  | zero => intro i _ h; omega
  | succ n ih =>
    intro j hj hn
    rw [skywaykeep3_ResolveSafe.l0_succ]
    unfold skywaykeep3_ResolveSafe.l0b
    dsimp only
    have hlt : j < L.length := by omega
    rw [decide_eq_true (p := (j : Int) < ((L.length : Nat) : Int)) (by omega), decide_eq_true (p := 0 ≤ (j : Int)) (by omega), decide_eq_true (p := 0 ≤ (i : Int)) (by omega), decide_eq_true (p := (i : Int) < ((l.length : Nat) : Int)) (by omega)]
    simp only [Bool.and_self, cond_true]
    rw [show w64 ((j : Int) + 1) = ((j + 1 : Nat) : Int) from w64_id (by omega) (by omega), Int.toNat_natCast, Int.toNat_natCast, tub_eq, cl_eq2]
    have hc : ((L.getD j (ByteArray.empty, (0, (0, ByteArray.empty)))).1, (((L.getD j (ByteArray.empty, (0, (0, ByteArray.empty)))).2).1, (((L.getD j (ByteArray.empty, (0, (0, ByteArray.empty)))).2).2))) = L.getD j (ByteArray.empty, (0, (0, ByteArray.empty))) := rfl
    rw [hc]
    by_cases e : L.getD j (ByteArray.empty, (0, (0, ByteArray.empty))) = L.getD q (ByteArray.empty, (0, (0, ByteArray.empty)))
    · rw [decide_eq_true e, e, hm]
      obtain ⟨m', e', h1, h2, h3, h4, h5⟩ := try_c k hk s hs h i (tub l i) t a (L.getD q (ByteArray.empty, (0, (0, ByteArray.empty))))
      rw [hm] at h1
      injection h1 with h1
      injection h1 with h1 h1'
      subst h1; subst h1'
      rw [hg, cond_pos (c := (0 : Int) == 0) (by rfl)] at h4
      simp only [Option.bind_some, cond_true]
      rw [cond_pos (c := (0 : Int) == 0) (by rfl), eqn_self k (by omega) m hM.len]
      simp only [Option.bind_some, cond_true]
      rw [h4]
      rfl
    · rw [decide_eq_false e]
      have hjq : j < q := by
        rcases Nat.lt_or_ge j q with g | g
        · exact g
        · exfalso
          obtain rfl : j = q := by omega
          exact e rfl
      obtain ⟨m', e', h1, h2, h3, h4, h5⟩ := try_c k hk s hs h i (tub l i) t a (L.getD j (ByteArray.empty, (0, (0, ByteArray.empty))))
      rw [h1]
      simp only [Option.bind_some, cond_false]
      rw [h4, hbefore j hjq]
      simp only [Option.bind_some, cond_false]
      exact ih (j + 1) hjq (by omega)

theorem chk_cases (k : Nat) (hk : 100 ≤ k) {l : List (List Nd)} (h : Few l) (i : Int) (s : Int × Int) : (∃ e, e ≠ 0 ∧ resolve_check.F k l i s = some e) ∨ (resolve_check.F k l i s = some 0 ∧ probe_CheckSep.F k s = some 0 ∧ 0 ≤ i ∧ i < l.length) := by
  have hf := h.few
  unfold resolve_check.F
  obtain ⟨e, he⟩ := sepc_tot k s
  rw [he]
  simp only [Option.bind_some]
  by_cases z : e = 0
  · subst z
    rw [cond_neg (c := (0 : Int) != 0) (by rfl), cond_neg (c := decide (((l.length : Nat) : Int) > 24)) (decide_eq_false (by omega))]
    have hc := rsck_loop k (by omega) l (by omega) h.ok k 0 (Nat.zero_le _) (by omega)
    rw [show ((0 : Nat) : Int) = 0 from rfl] at hc
    rw [hc]
    simp only [Option.bind_some]
    by_cases g1 : i < 0
    · rw [decide_eq_true g1]; exact .inl ⟨4, by decide, rfl⟩
    rw [decide_eq_false g1]
    by_cases g2 : i ≥ ((l.length : Nat) : Int)
    · rw [decide_eq_true g2]; exact .inl ⟨4, by decide, rfl⟩
    rw [decide_eq_false g2]
    exact .inr ⟨rfl, trivial, by omega, by omega⟩
  · rw [cond_pos (c := e != 0) (by simpa using z)]
    exact .inl ⟨e, z, rfl⟩

attribute [local irreducible] resolve_check.F

theorem no_clear : ((ByteArray.empty == ByteArray.empty) && (((0 : Int) == 0) && (((0 : Int) == 0) && (ByteArray.empty == ByteArray.empty)))) = true := by rfl

theorem ResolveSafe_plain (k : Nat) (hk : 5000 ≤ k) (hf : skywaykeep3_resolveFact.F k = some true) (l : List (List Nd)) (i : Int) (s : Int × Int) (t : Int) (a : Kd) : skywaykeep3_ResolveSafe.F k l i s t a = some true := by
  unfold skywaykeep3_ResolveSafe.F
  obtain ⟨r, hr, hq⟩ := small_eq k (by omega) l 4 200 (by omega)
  rw [hf, hr]
  simp only [Option.bind_some, Bool.not_true, cond_false]
  cases r with
  | false => rfl
  | true =>
    obtain ⟨q1, q2⟩ := hq.1 rfl
    have h : Few l := ⟨by omega, fun t ht => (q2 t ht).1, fun t ht => by have := (q2 t ht).2; omega⟩
    clear hq hr
    simp only [Bool.not_true, cond_false]
    have bad : ∀ e : Int, e ≠ 0 → resolve_Best.F k l i s (⟨#[65, 49]⟩ : ByteArray) t a = some ((ByteArray.empty, (0, (0, ByteArray.empty))), [], e) →
        ((resolve_Best.F k l i s (⟨#[65, 49]⟩ : ByteArray) t a).bind fun r3 => bif (r3.2.2 != 0) then (bif (((r3.2.1.length : Nat) : Int) == 0) then some ((r3.1.1 == ByteArray.empty) && ((r3.1.2.1 == 0) && ((r3.1.2.2.1 == 0) && (r3.1.2.2.2 == ByteArray.empty)))) else some false).bind fun b4 => some b4 else bif (decide (0 ≤ i) && decide (i < ((l.length : Nat) : Int))) then (resolve_Candidates.F k (⟨#[65, 49]⟩ : ByteArray) (l.getD i.toNat []) t a).bind fun r5 => bif (r5.2 != 0) then some false else skywaykeep3_ResolveSafe.l0 k l i s t a r3 r5 k 0 else none) = some true := fun e he hb => by
      rw [hb]
      simp only [Option.bind_some]
      rw [cond_pos (c := e != 0) (by simpa using he)]
      rfl
    rcases chk_cases k (by omega) h i s with ⟨e, he, hc⟩ | ⟨hc, hs, i0, i1⟩
    · refine bad e he ?_
      unfold resolve_Best.F
      rw [hc]
      simp only [Option.bind_some]
      rw [cond_pos (c := e != 0) (by simpa using he)]
    · obtain ⟨i, rfl⟩ : ∃ n : Nat, i = (n : Int) := ⟨i.toNat, by omega⟩
      have hi : i < l.length := by omega
      have hin : (decide (0 ≤ (i : Int)) && decide ((i : Int) < ((l.length : Nat) : Int))) = true := by rw [decide_eq_true i0, decide_eq_true (by omega)]; rfl
      have hB : resolve_Best.F k l i s (⟨#[65, 49]⟩ : ByteArray) t a = (resolve_Candidates.F k (⟨#[65, 49]⟩ : ByteArray) (tub l i) t a).bind fun r2 => bif (r2.2 != 0) then some ((ByteArray.empty, (0, (0, ByteArray.empty))), [], r2.2) else (resolve_free.F k l i (tub l i) s).bind fun r3 => bif r3 then some ((ByteArray.empty, (0, (0, ByteArray.empty))), [], 11) else resolve_Best.l0 k l i s t a r2 k 0 := by
        unfold resolve_Best.F
        rw [hc]
        simp only [Option.bind_some]
        rw [cond_neg (c := (0 : Int) != 0) (by rfl), hin]
        simp only [cond_true, Int.toNat_natCast]
        rfl
      rcases cand_eq k hk (⟨#[65, 49]⟩ : ByteArray) (tub l i) t a with ⟨e, he, hca⟩ | ⟨_, _, _, _, _, ht, hd, sp, mv, _, _, _, _, _, _, hca⟩
      · refine bad e he ?_
        rw [hB, hca]
        simp only [Option.bind_some]
        rw [cond_pos (c := e != 0) (by simpa using he)]
      · have hlen : (cands (⟨#[65, 49]⟩ : ByteArray) a ht hd sp mv slots).length ≤ 18 := cands_len _ a ht hd sp mv slots
        generalize cands (⟨#[65, 49]⟩ : ByteArray) a ht hd sp mv slots = L at hca hlen
        rw [hca] at hB
        simp only [Option.bind_some] at hB
        rw [cond_neg (c := (0 : Int) != 0) (by rfl)] at hB
        obtain ⟨b, h1, _⟩ := both k (by omega) s hs h (i : Int) (h.at hi).1
        rw [h1] at hB
        simp only [Option.bind_some] at hB
        cases b with
        | true => exact bad 11 (by decide) hB
        | false =>
          simp only [cond_false] at hB
          rcases best_loop k (by omega) s hs h hi t a L hlen k 0 (Nat.zero_le _) (by omega) with g | ⟨q, m, g0, g1, g2, g3, g4, g5, g6⟩
          · rw [show ((0 : Nat) : Int) = 0 from rfl] at g
            exact bad 8 (by decide) (hB.trans g)
          · rw [show ((0 : Nat) : Int) = 0 from rfl] at g6
            rw [hB, g6]
            simp only [Option.bind_some]
            rw [cond_neg (c := (0 : Int) != 0) (by rfl), hin]
            simp only [cond_true, Int.toNat_natCast]
            rw [tub_eq, hca]
            simp only [Option.bind_some]
            rw [cond_neg (c := (0 : Int) != 0) (by rfl)]
            exact safe_loop k (by omega) s hs h hi t a L hlen g1 (fun p hp => g2 p (Nat.zero_le _) hp) g3 g4 g5 k 0 (Nat.zero_le _) (by omega)

theorem rsfact (m : Nat) : skywaykeep3_resolveFact.F (m + 1000) = some true := by kernel_rfl

attribute [local irreducible] skywaykeep3_ResolveSafe.F
theorem rsafe_cal (k : Nat) (x : DatPs (skywaykeep3_ResolveSafe.C 0).ats) : (skywaykeep3_ResolveSafe.C k).F x = skywaykeep3_ResolveSafe.F k x.1 x.2.1 x.2.2.1 x.2.2.2.1 x.2.2.2.2 := rfl
theorem ResolveSafe_law (x : DatPs (skywaykeep3_ResolveSafe.C 0).ats) (_ : FitPs (skywaykeep3_ResolveSafe.C 0).ats x) : ∃ k, (skywaykeep3_ResolveSafe.C k).F x = some true :=
  ⟨5000 + 1000, (rsafe_cal _ x).trans (ResolveSafe_plain (5000 + 1000) (by omega) (rsfact 5000) x.1 x.2.1 x.2.2.1 x.2.2.2.1 x.2.2.2.2)⟩
end Go.Proofs.YtdpchhbbmlhklaaGreatDoor.RT
