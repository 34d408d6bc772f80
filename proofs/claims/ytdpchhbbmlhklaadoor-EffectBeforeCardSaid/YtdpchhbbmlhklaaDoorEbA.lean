/- What is proved here: what 'small', 'has' and 'Differs' come to. They ask nothing. -/
import Derived.Test.YtdpchhbbmlhklaaDoorEbT
import Derived.Test.YtdpchhbbmlhklaaDoorTubA
namespace Go.Proofs.YtdpchhbbmlhklaaDoor.RT
open Go Go.R

attribute [local irreducible] tube_Check.F tube_at.F plane_Check.F

theorem bb_ne (a b : Int) : (a != b) = !decide (a = b) := by
  by_cases h : a = b
  · subst h; simp
  · rw [decide_eq_false h]; simpa using h
theorem bb_eq (a b : Int) : (a == b) = decide (a = b) := by
  by_cases h : a = b
  · subst h; simp
  · rw [decide_eq_false h]; exact beq_false_of_ne h

/-! ### Few and short tubes -/

def tub (l : List (List Nd)) (j : Nat) : List Nd := l.getD j []
theorem tub_eq (l : List (List Nd)) (j : Nat) : l.getD j [] = tub l j := rfl

theorem small_loop (k : Nat) (hk : 100 ≤ k) (l : List (List Nd)) (hl : l.length ≤ 64) (d : Int) : ∀ n i : Nat, i ≤ l.length → l.length - i < n →
    ∃ r, skywaykeep3_small.l0 k l d n i = some r ∧ (r = true ↔ ∀ t ∈ l.drop i, TubeOk t ∧ tl t - tm t 0 ≤ d) := by
  intro n
  induction n with
  | zero => intro i _ h; omega
  | succ n ih =>
    intro i hi hn
    rw [skywaykeep3_small.l0_succ]
    unfold skywaykeep3_small.l0b
    by_cases hlt : i < l.length
    · have hd := drop_cons hlt ([] : List Nd)
      rw [tub_eq] at hd
      rw [decide_eq_true (p := (i : Int) < ((l.length : Nat) : Int)) (by omega), decide_eq_true (p := 0 ≤ (i : Int)) (by omega)]
      have hg : l.getD ((i : Int)).toNat [] = tub l i := by rw [Int.toNat_natCast]; rfl
      rw [hg]
      simp only [Bool.and_self, cond_true]
      rw [hd]
      simp only [List.mem_cons, forall_eq_or_imp]
      by_cases ht : TubeOk (tub l i)
      · have hp := ht.pos
        have hle := ht.len
        rw [tcheck_pos hk ht]
        simp only [Option.bind_some]
        rw [cond_neg (c := (0 : Int) != 0) (by rfl), last_ix hp hle]
        rw [cond_pos (c := decide (0 ≤ (((tub l i).length - 1 : Nat) : Int)) && decide ((((tub l i).length - 1 : Nat) : Int) < (((tub l i).length : Nat) : Int))) (by simp; omega)]
        rw [cond_pos (c := decide ((0 : Nat) ≤ 0) && decide ((0 : Int) < (((tub l i).length : Nat) : Int))) (by simp; omega)]
        change ∃ r, (bif decide (w64 (tl (tub l i) - tm (tub l i) 0) > d) then some false else skywaykeep3_small.l0 k l d n (w64 (↑i + 1))) = some r ∧ _
        have b0 := ht.tmb (j := 0) (by omega)
        have b1 := ht.tmb (j := (tub l i).length - 1) (by omega)
        change 0 ≤ tl (tub l i) ∧ tl (tub l i) ≤ 200000 at b1
        rw [w64_id (by omega) (by omega)]
        by_cases hc : tl (tub l i) - tm (tub l i) 0 > d
        · rw [decide_eq_true hc]
          exact ⟨false, rfl, ⟨fun h => (by cases h), fun h => by have := h.1.2; omega⟩⟩
        · rw [decide_eq_false hc]
          simp only [cond_false]
          rw [show w64 ((i : Int) + 1) = ((i + 1 : Nat) : Int) from w64_id (by omega) (by omega)]
          obtain ⟨r, hr, hq⟩ := ih (i + 1) (by omega) (by omega)
          exact ⟨r, hr, hq.trans ⟨fun h => ⟨⟨ht, by omega⟩, h⟩, fun h => h.2⟩⟩
      · obtain ⟨e, he, hq⟩ := tcheck_neg hk ht
        rw [hq]
        simp only [Option.bind_some]
        rw [cond_pos (c := e != 0) (by simpa using he)]
        exact ⟨false, rfl, ⟨fun h => (by cases h), fun h => absurd h.1.1 ht⟩⟩
    · rw [decide_eq_false (p := (i : Int) < ((l.length : Nat) : Int)) (by omega), List.drop_eq_nil_of_le (by omega)]
      exact ⟨true, rfl, by simp⟩

theorem small_eq (k : Nat) (hk : 100 ≤ k) (l : List (List Nd)) (m d : Int) (hm : m ≤ 64) : ∃ r, skywaykeep3_small.F k l m d = some r ∧ (r = true ↔ (l.length : Int) ≤ m ∧ ∀ t ∈ l, TubeOk t ∧ tl t - tm t 0 ≤ d) := by
  unfold skywaykeep3_small.F
  by_cases hl : (l.length : Int) ≤ m
  · rw [cond_neg (decide_eq_false (by omega))]
    obtain ⟨r, hr, hq⟩ := small_loop k hk l (by omega) d k 0 (by omega) (by omega)
    exact ⟨r, hr, hq.trans ⟨fun h => ⟨hl, h⟩, fun h => h.2⟩⟩
  · rw [cond_pos (decide_eq_true (by omega))]
    exact ⟨false, rfl, ⟨fun h => (by cases h), fun h => absurd h.1 hl⟩⟩

/-! ### Where two tubes differ -/

def hs (l : List Nd) (t : Int) : Bool := decide (tm l 0 ≤ t) && decide (t ≤ tl l)
noncomputable def pt (k : Nat) (l : List Nd) (t : Int) : Nd := (tube_Point.F k l t).getD nd0

theorem has_eq (k : Nat) {l : List Nd} (h : TubeOk l) (t : Int) : effect_has.F k l t = some (hs l t) := by
  have hp := h.pos
  unfold effect_has.F
  rw [last_ix hp h.len]
  rw [cond_pos (c := decide ((0 : Nat) ≤ 0) && decide ((0 : Int) < ((l.length : Nat) : Int))) (by simp; omega)]
  rw [cond_pos (c := decide (0 ≤ ((l.length - 1 : Nat) : Int)) && decide (((l.length - 1 : Nat) : Int) < ((l.length : Nat) : Int))) (by simp; omega)]
  simp only [Int.toNat_natCast, nd_eq, tm_eq, cond_some, Option.bind_some]
  change some (bif decide (t ≥ tm l 0) then decide (t ≤ tl l) else false) = _
  unfold hs
  by_cases h1 : tm l 0 ≤ t
  · rw [decide_eq_true (p := t ≥ tm l 0) h1]; rfl
  · rw [decide_eq_false (p := t ≥ tm l 0) h1]; rfl

theorem at_cases (k : Nat) (hk : 100 ≤ k) {l : List Nd} (h : TubeOk l) (t : Int) : tube_at.F k l t = some (pt k l t, if hs l t = true then 0 else 12) ∧ tube_Point.F k l t = some (pt k l t) ∧ (hs l t = true → ∃ q, InSeg l q t ∧ pt k l t = ndAt l q t) := by
  have key : ∀ p e, tube_at.F k l t = some (p, e) → tube_Point.F k l t = some p ∧ pt k l t = p := fun p e hq => by
    have : tube_Point.F k l t = some p := by unfold tube_Point.F; rw [hq]; rfl
    exact ⟨this, by unfold pt; rw [this]; rfl⟩
  rcases tat_eq k hk l h t with ⟨h1, h2⟩ | ⟨h0, h1, q, h2, h3⟩
  · have hf : hs l t = false := by
      unfold hs
      by_cases g : tm l 0 ≤ t
      · rw [decide_eq_false (p := t ≤ tl l) (fun g' => h1 ⟨g, g'⟩)]; simp
      · rw [decide_eq_false g]; rfl
    obtain ⟨k1, k2⟩ := key _ _ h2
    rw [hf, k2]
    exact ⟨h2, k1, fun h => by cases h⟩
  · have hf : hs l t = true := by unfold hs; rw [decide_eq_true h0, decide_eq_true h1]; rfl
    obtain ⟨k1, k2⟩ := key _ _ h3
    rw [hf, k2]
    exact ⟨h3, k1, fun _ => ⟨q, h2, rfl⟩⟩

theorem point_eq (k : Nat) (hk : 100 ≤ k) {l : List Nd} (h : TubeOk l) (t : Int) : tube_Point.F k l t = some (pt k l t) := (at_cases k hk h t).2.1

theorem At_eq (k : Nat) (hk : 100 ≤ k) {l : List Nd} (h : TubeOk l) (t : Int) : tube_At.F k l t = some (pt k l t, if hs l t = true then 0 else 12) := by
  unfold tube_At.F
  rw [tcheck_pos hk h, (at_cases k hk h t).1]
  rfl

attribute [local irreducible] tube_Point.F tube_At.F effect_has.F skywaykeep3_small.F

def dif (k : Nat) (a b : List Nd) (t : Int) : Prop := hs a t ≠ hs b t ∨ (hs a t = true ∧ ((pt k a t).1.2.1 ≠ (pt k b t).1.2.1 ∨ (pt k a t).1.2.2 ≠ (pt k b t).1.2.2))
theorem dif_symm {k : Nat} {a b : List Nd} {t : Int} (h : dif k a b t) : dif k b a t := by
  rcases h with h | ⟨h1, h2⟩
  · exact .inl (Ne.symm h)
  · by_cases g : hs a t = hs b t
    · exact .inr ⟨by rw [← g]; exact h1, h2.imp Ne.symm Ne.symm⟩
    · exact .inl (Ne.symm g)
theorem dif_refl {k : Nat} {a : List Nd} {t : Int} : ¬ dif k a a t := by
  rintro (h | ⟨_, h | h⟩) <;> exact h rfl

open Classical in
theorem dloop_step (k : Nat) (hk : 100 ≤ k) {a b : List Nd} (ha : TubeOk a) (hb : TubeOk b) (n : Nat) {t : Int} (ht : 0 ≤ t) (ht' : t ≤ 200000) :
    effect_Differs.l0 k a b (n + 1) t = if t ≤ mx (tl a) (tl b) then (if dif k a b t then some (t, 0) else effect_Differs.l0 k a b n (t + 1)) else some (0, 8) := by
  rw [effect_Differs.l0_succ]
  unfold effect_Differs.l0b
  rw [last_ix ha.pos ha.len, last_ix hb.pos hb.len]
  simp only [Int.toNat_natCast, nd_eq, tm_eq]
  change (bif decide (t ≤ mx (tl a) (tl b)) then _ else _) = _
  by_cases h1 : t ≤ mx (tl a) (tl b)
  · rw [decide_eq_true h1, if_pos h1, has_eq k ha, has_eq k hb, point_eq k hk ha, point_eq k hk hb, w64_id (n := t + 1) (by omega) (by omega)]
    simp only [cond_true, Option.bind_some, cond_some]
    by_cases h2 : hs a t = hs b t
    · rw [h2, cond_neg (c := !(hs b t == hs b t)) (by simp)]
      cases h3 : hs b t with
      | false =>
        rw [if_neg (fun h => by rcases h with h | h; exact h h2; rw [h2, h3] at h; exact absurd h.1 (by simp))]
        rfl
      | true =>
        simp only [Bool.not_true, cond_false]
        by_cases h4 : (pt k a t).1.2.1 = (pt k b t).1.2.1
        · rw [h4]
          simp only [beq_self_eq_true, Bool.and_self, Bool.not_true, cond_false]
          by_cases h5 : (pt k a t).1.2.2 = (pt k b t).1.2.2
          · rw [cond_neg (c := (pt k a t).1.2.2 != (pt k b t).1.2.2) (by simpa using h5), if_neg]
            rintro (h | ⟨_, h | h⟩)
            · exact h h2
            · exact h h4
            · exact h h5
          · rw [cond_pos (c := (pt k a t).1.2.2 != (pt k b t).1.2.2) (by simpa using h5), if_pos (.inr ⟨by rw [h2, h3], .inr h5⟩)]
        · rw [if_pos (.inr ⟨by rw [h2, h3], .inl h4⟩)]
          have : ((pt k a t).1.2.1.1 == (pt k b t).1.2.1.1 && (pt k a t).1.2.1.2 == (pt k b t).1.2.1.2) = false := by
            rw [bb_eq, bb_eq]
            by_cases g1 : (pt k a t).1.2.1.1 = (pt k b t).1.2.1.1
            · rw [decide_eq_false (p := (pt k a t).1.2.1.2 = (pt k b t).1.2.1.2) (fun g2 => h4 (Prod.ext g1 g2))]
              simp
            · rw [decide_eq_false g1]; rfl
          rw [this]
          rfl
    · rw [cond_pos (c := !(hs a t == hs b t)) (by simpa using h2), if_pos (.inl h2)]
  · rw [decide_eq_false h1, if_neg h1]
    rfl

theorem mx_comm (a b : Int) : mx a b = mx b a := by unfold mx; split <;> split <;> omega
theorem mn_comm (a b : Int) : mn a b = mn b a := by unfold mn; split <;> split <;> omega
theorem mx_le {a b c : Int} (h : a ≤ c) (h' : b ≤ c) : mx a b ≤ c := by unfold mx; split <;> omega
theorem le_mn {a b c : Int} (h : c ≤ a) (h' : c ≤ b) : c ≤ mn a b := by unfold mn; split <;> omega
theorem mx_self (a : Int) : mx a a = a := by unfold mx; simp
theorem mn_self (a : Int) : mn a a = a := by unfold mn; simp

theorem dloop_symm (k : Nat) (hk : 100 ≤ k) {a b : List Nd} (ha : TubeOk a) (hb : TubeOk b) : ∀ (n : Nat) {t : Int}, 0 ≤ t → t ≤ 200001 → effect_Differs.l0 k a b n t = effect_Differs.l0 k b a n t := by
  intro n
  induction n with
  | zero => intro t _ _; rfl
  | succ n ih =>
    intro t ht ht'
    have h1 := (ha.tmb (j := a.length - 1) (by have := ha.pos; omega)).2
    have h2 := (hb.tmb (j := b.length - 1) (by have := hb.pos; omega)).2
    by_cases h200 : t ≤ 200000
    · rw [dloop_step k hk ha hb n ht h200, dloop_step k hk hb ha n ht h200, mx_comm (tl b) (tl a)]
      by_cases hc : t ≤ mx (tl a) (tl b)
      · rw [if_pos hc, if_pos hc]
        by_cases hd : dif k a b t
        · rw [if_pos hd, if_pos (dif_symm hd)]
        · rw [if_neg hd, if_neg (fun h => hd (dif_symm h)), ih (by omega) (by omega)]
      · rw [if_neg hc, if_neg hc]
    · have hm : mx (tl a) (tl b) ≤ 200000 := mx_le h1 h2
      have hm' : mx (tl b) (tl a) ≤ 200000 := mx_le h2 h1
      have out : ∀ {x y : List Nd}, TubeOk x → TubeOk y → mx (tl x) (tl y) ≤ 200000 → effect_Differs.l0 k x y (n + 1) t = some (0, 8) := fun {x y} hx hy hxy => by
        rw [effect_Differs.l0_succ]
        unfold effect_Differs.l0b
        rw [last_ix hx.pos hx.len, last_ix hy.pos hy.len]
        simp only [Int.toNat_natCast, nd_eq, tm_eq]
        change (bif decide (t ≤ mx (tl x) (tl y)) then _ else _) = _
        rw [decide_eq_false (p := t ≤ mx (tl x) (tl y)) (by omega)]
        rfl
      rw [out ha hb hm, out hb ha hm']

theorem dloop_end (k : Nat) {a b : List Nd} (ha : TubeOk a) (hb : TubeOk b) (n : Nat) {t : Int} (ht : mx (tl a) (tl b) < t) : effect_Differs.l0 k a b (n + 1) t = some (0, 8) := by
  rw [effect_Differs.l0_succ]
  unfold effect_Differs.l0b
  rw [last_ix ha.pos ha.len, last_ix hb.pos hb.len]
  simp only [Int.toNat_natCast, nd_eq, tm_eq]
  change (bif decide (t ≤ mx (tl a) (tl b)) then _ else _) = _
  rw [decide_eq_false (p := t ≤ mx (tl a) (tl b)) (by omega)]
  rfl

theorem dloop_res (k : Nat) (hk : 100 ≤ k) {a b : List Nd} (ha : TubeOk a) (hb : TubeOk b) : ∀ (n : Nat) {t : Int}, 0 ≤ t → mx (tl a) (tl b) + 1 - t < n → ∃ s e, effect_Differs.l0 k a b (n + 1) t = some (s, e) ∧ (e = 8 ∨ (e = 0 ∧ dif k a b s)) := by
  intro n
  have h1 := (ha.tmb (j := a.length - 1) (by have := ha.pos; omega)).2
  have h2 := (hb.tmb (j := b.length - 1) (by have := hb.pos; omega)).2
  have hm : mx (tl a) (tl b) ≤ 200000 := mx_le h1 h2
  induction n with
  | zero => intro t ht hn; exact ⟨0, 8, dloop_end k ha hb 0 (by omega), .inl rfl⟩
  | succ n ih =>
    intro t ht hn
    by_cases hc : t ≤ mx (tl a) (tl b)
    · rw [dloop_step k hk ha hb _ ht (by omega), if_pos hc]
      by_cases hd : dif k a b t
      · rw [if_pos hd]; exact ⟨t, 0, rfl, .inr ⟨rfl, hd⟩⟩
      · rw [if_neg hd]; exact ih (by omega) (by omega)
    · exact ⟨0, 8, dloop_end k ha hb _ (by omega), .inl rfl⟩

theorem dloop_refl (k : Nat) (hk : 100 ≤ k) {a : List Nd} (ha : TubeOk a) : ∀ (n : Nat) {t : Int}, 0 ≤ t → mx (tl a) (tl a) + 1 - t < n → effect_Differs.l0 k a a (n + 1) t = some (0, 8) := by
  intro n
  have h1 := (ha.tmb (j := a.length - 1) (by have := ha.pos; omega)).2
  have hm : mx (tl a) (tl a) ≤ 200000 := mx_le h1 h1
  induction n with
  | zero => intro t ht hn; exact dloop_end k ha ha 0 (by omega)
  | succ n ih =>
    intro t ht hn
    by_cases hc : t ≤ mx (tl a) (tl a)
    · rw [dloop_step k hk ha ha _ ht (by omega), if_pos hc, if_neg dif_refl]
      exact ih (by omega) (by omega)
    · exact dloop_end k ha ha _ (by omega)

theorem differs_eq (k : Nat) (hk : 300000 ≤ k) {a b : List Nd} (ha : TubeOk a) (hb : TubeOk b) :
    effect_Differs.F k a b = if mx (tl a) (tl b) - mn (tm a 0) (tm b 0) > 20000 then some (0, 2) else effect_Differs.l0 k a b k (mn (tm a 0) (tm b 0)) := by
  have pa := ha.pos
  have pb := hb.pos
  unfold effect_Differs.F
  rw [tcheck_pos (by omega) ha, tcheck_pos (by omega) hb, last_ix pa ha.len, last_ix pb hb.len]
  simp only [Option.bind_some]
  rw [cond_neg (c := (0 : Int) != 0) (by rfl)]
  rw [cond_pos (c := decide ((0 : Nat) ≤ 0) && decide ((0 : Int) < ((a.length : Nat) : Int))) (by simp; omega)]
  rw [cond_pos (c := decide ((0 : Nat) ≤ 0) && decide ((0 : Int) < ((b.length : Nat) : Int))) (by simp; omega)]
  rw [cond_pos (c := decide (0 ≤ ((a.length - 1 : Nat) : Int)) && decide (((a.length - 1 : Nat) : Int) < ((a.length : Nat) : Int))) (by simp; omega)]
  rw [cond_pos (c := decide (0 ≤ ((b.length - 1 : Nat) : Int)) && decide (((b.length - 1 : Nat) : Int) < ((b.length : Nat) : Int))) (by simp; omega)]
  simp only [Int.toNat_natCast, nd_eq, tm_eq]
  change (bif decide (w64 (mx (tl a) (tl b) - mn (tm a 0) (tm b 0)) > 20000) then _ else _) = _
  have h1 := ha.tmb (j := a.length - 1) (by omega)
  have h2 := hb.tmb (j := b.length - 1) (by omega)
  have h3 := ha.tmb (j := 0) (by omega)
  have h4 := hb.tmb (j := 0) (by omega)
  have b1 : mx (tl a) (tl b) ≤ 200000 := mx_le h1.2 h2.2
  have b2 : 0 ≤ mx (tl a) (tl b) := by
    have e1 : 0 ≤ tl a := h1.1
    have e2 : 0 ≤ tl b := h2.1
    unfold mx; split <;> omega
  have b3 : 0 ≤ mn (tm a 0) (tm b 0) := le_mn h3.1 h4.1
  have b4 : mn (tm a 0) (tm b 0) ≤ 200000 := by unfold mn; split <;> omega
  rw [w64_id (by omega) (by omega)]
  by_cases hc : mx (tl a) (tl b) - mn (tm a 0) (tm b 0) > 20000
  · rw [decide_eq_true hc, if_pos hc]; rfl
  · rw [decide_eq_false hc, if_neg hc]; rfl

attribute [local irreducible] effect_Differs.F

theorem differs_self (k : Nat) (hk : 300000 ≤ k) {a : List Nd} (ha : TubeOk a) (hs : tl a - tm a 0 ≤ 400) : effect_Differs.F k a a = some (0, 8) := by
  have h1 := ha.tmb (j := a.length - 1) (by have := ha.pos; omega)
  have h3 := ha.tmb (j := 0) ha.pos
  change 0 ≤ tl a ∧ tl a ≤ 200000 at h1
  rw [differs_eq k hk ha ha, mx_self, mn_self, if_neg (by omega), show k = (k - 1) + 1 by omega]
  have := dloop_refl (k - 1 + 1) (by omega) ha (k - 1) (t := tm a 0) h3.1 (by rw [mx_self]; omega)
  exact this

theorem effact (m : Nat) : skywaykeep3_effectFact.F (m + 1000) = some true := by kernel_rfl

end Go.Proofs.YtdpchhbbmlhklaaDoor.RT
