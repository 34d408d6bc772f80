/- What is proved here: a shifted tube, its visits, and the law SectorShifts. They ask nothing. -/
import Derived.Test.YtpnaicfmaglelaaLaT
import Derived.Test.YtpnaicfmaglelaaSecA
namespace Go.Proofs.Ytpnaicfmaglelaa.RT
open Go Go.R

attribute [local irreducible] tube_Check.F tube_at.F plane_Check.F tube_Point.F tube_At.F tube_All_1.F sector_Check.F sector_Place.F skywaykeep3_small.F sector_Path.F sector_Path.r0b

/-! ### A shifted tube -/

def sh (d : Int) (n : Nd) : Nd := ((n.1.1 + d, n.1.2), n.2)

theorem add_zero {p : Int × Int} (h : PtOk p) (k : Nat) : plane_Add.F k p (0, 0) = some p := by
  unfold PtOk at h
  unfold plane_Add.F
  dsimp only
  rw [show w64 (p.1 + 0) = p.1 by rw [w64_id (by omega) (by omega)]; omega, show w64 (p.2 + 0) = p.2 by rw [w64_id (by omega) (by omega)]; omega]

theorem shift_loop (k : Nat) {l : List Nd} (h : TubeOk l) {d : Int} (h0 : -200000 ≤ d) (h1 : d ≤ 200000) : ∀ (n i : Nat) (x : List Nd), i ≤ l.length → l.length - i < n → x.length ≤ 1000 → x.length + (l.length - i) ≤ 1000 →
    tube_Shift.l0 k l (0, 0) d n ((i : Int), x) = some (.inl (x ++ (l.drop i).map (sh d))) := by
  intro n
  induction n with
  | zero => intro i _ _ h; omega
  | succ n ih =>
    intro i x hi hn hx hx2
    have hlen := h.len
    rw [tube_Shift.l0_succ]
    unfold tube_Shift.l0b
    dsimp only
    by_cases hlt : i < l.length
    · have hd := drop_cons hlt (nd0 : Nd)
      rw [nd_eq] at hd
      rw [decide_eq_true (p := (i : Int) < ((l.length : Nat) : Int)) (by omega), decide_eq_true (p := 0 ≤ (i : Int)) (by omega)]
      have hg : l.getD ((i : Int)).toNat ((0, ((0, 0), 0)), (0, 0)) = nd l i := by rw [Int.toNat_natCast]; rfl
      rw [hg]
      simp only [Bool.and_self, cond_true]
      have ha := h.at hlt
      rw [add_zero ha.pt]
      simp only [Option.bind_some]
      rw [Nat.ble_eq_true_of_le (show (x.length + 1) * 48 ≤ 140737488355328 by omega), cond_true]
      have ht := ha.time
      rw [w64_id (n := (nd l i).1.1 + d) (by omega) (by omega), show w64 ((i : Int) + 1) = ((i + 1 : Nat) : Int) from w64_id (by omega) (by omega)]
      rw [ih (i + 1) _ (by omega) (by omega) (by rw [List.length_append, List.length_singleton]; omega) (by rw [List.length_append, List.length_singleton]; omega), hd, List.append_assoc]
      rfl
    · rw [decide_eq_false (p := (i : Int) < ((l.length : Nat) : Int)) (by omega), List.drop_eq_nil_of_le (by omega), List.map_nil, List.append_nil]
      rfl

theorem shift_eq (k : Nat) (hk : 100 ≤ k) {l : List Nd} (h : TubeOk l) (d : Int) : ∃ r e, tube_Shift.F k l (0, 0) d = some (r, e) ∧ (e = 0 → r = l.map (sh d) ∧ TubeOk (l.map (sh d)) ∧ -200000 ≤ d ∧ d ≤ 200000) := by
  unfold tube_Shift.F
  have hlen := h.len
  rw [tcheck_pos hk h]
  simp only [Option.bind_some]
  rw [cond_neg (c := (0 : Int) != 0) (by rfl)]
  rw [decide_eq_false (p := (0 : Int) < -2000000) (by omega), decide_eq_false (p := (0 : Int) > 2000000) (by omega)]
  simp only [cond_false, Option.bind_some]
  by_cases h0 : d < -200000
  · rw [decide_eq_true h0]
    exact ⟨[], 4, rfl, fun h => by cases h⟩
  rw [decide_eq_false h0]
  simp only [cond_false, Option.bind_some]
  by_cases h1 : d > 200000
  · rw [decide_eq_true h1]
    exact ⟨[], 4, rfl, fun h => by cases h⟩
  rw [decide_eq_false h1]
  simp only [cond_false]
  have := shift_loop k h (d := d) (by omega) (by omega) k 0 [] (by omega) (by omega) (by simp) (by simp; omega)
  rw [show ((0 : Nat) : Int) = 0 from rfl] at this
  rw [this]
  simp only [Option.bind_some, List.nil_append, List.drop_zero]
  by_cases hT : TubeOk (l.map (sh d))
  · rw [tcheck_pos hk hT]
    exact ⟨_, _, rfl, fun _ => ⟨rfl, hT, by omega, by omega⟩⟩
  · obtain ⟨e, he, hq⟩ := tcheck_neg hk hT
    rw [hq]
    simp only [Option.bind_some]
    rw [cond_pos (c := e != 0) (by simpa using he)]
    exact ⟨_, _, rfl, fun h => absurd h he⟩

attribute [local irreducible] tube_Shift.F

theorem nd_sh {l : List Nd} {j : Nat} (d : Int) (h : j < l.length) : nd (l.map (sh d)) j = sh d (nd l j) := by
  unfold nd
  simp [List.getD, h]
theorem tm_sh {l : List Nd} {j : Nat} (d : Int) (h : j < l.length) : tm (l.map (sh d)) j = tm l j + d := by
  unfold tm; rw [nd_sh d h]; rfl
theorem tl_sh {l : List Nd} (d : Int) (h : 0 < l.length) : tl (l.map (sh d)) = tl l + d := by
  unfold tl; rw [List.length_map, tm_sh d (by omega)]
theorem hs_sh {l : List Nd} (d t : Int) (h : 0 < l.length) : hs (l.map (sh d)) (t + d) = hs l t := by
  unfold hs
  rw [tm_sh d h, tl_sh d h]
  congr 1
  · exact decide_eq_decide.2 (by omega)
  · exact decide_eq_decide.2 (by omega)
theorem InSeg.uniq {l : List Nd} (h : TubeOk l) {q q' : Nat} {t : Int} (h1 : InSeg l q t) (h2 : InSeg l q' t) : q = q' := by
  rcases Nat.lt_trichotomy q q' with g | g | g
  · have a := h1.2.2 (by have := h2.1; omega)
    have b := h.le (show q + 1 ≤ q' by omega) h2.1
    have c := h2.2.1
    omega
  · exact g
  · have a := h2.2.2 (by have := h1.1; omega)
    have b := h.le (show q' + 1 ≤ q by omega) h1.1
    have c := h1.2.1
    omega
theorem InSeg.sh {l : List Nd} {q : Nat} {t : Int} (d : Int) (h : InSeg l q t) : InSeg (l.map (sh d)) q (t + d) := by
  refine ⟨by rw [List.length_map]; exact h.1, by rw [tm_sh d h.1]; have := h.2.1; omega, fun g => ?_⟩
  rw [List.length_map] at g
  rw [tm_sh d g]
  have := h.2.2 g
  omega
theorem seg_sh (a b : Nd) (t d : Int) : seg (sh d a) (sh d b) (t + d) = sh d (seg a b t) := by
  unfold seg sh
  dsimp only
  rw [show t + d - (a.1.1 + d) = t - a.1.1 by omega, show b.1.1 + d - (a.1.1 + d) = b.1.1 - a.1.1 by omega]

theorem pt_sh (k : Nat) (hk : 100 ≤ k) {l : List Nd} (h : TubeOk l) {d : Int} (hd : TubeOk (l.map (sh d))) {t : Int} (ht : hs l t = true) : pt k (l.map (sh d)) (t + d) = sh d (pt k l t) := by
  obtain ⟨q, hq, he⟩ := (at_cases k hk h t).2.2 ht
  obtain ⟨q', hq', he'⟩ := (at_cases k hk hd (t + d)).2.2 (by rw [hs_sh d t h.pos]; exact ht)
  have e := InSeg.uniq hd hq' (hq.sh d)
  subst e
  have hle : t ≤ tl l := by unfold hs at ht; simp at ht; exact ht.2
  rw [he, he']
  unfold ndAt
  rw [tm_sh d hq.1]
  by_cases z : tm l q' = t
  · rw [if_pos z, if_pos (by omega), nd_sh d hq.1]
  · rw [if_neg z, if_neg (by omega), nd_sh d hq.1, nd_sh d (hq.next hle z), seg_sh]

theorem nds_sh (k : Nat) (hk : 100 ≤ k) {l : List Nd} (h : TubeOk l) {d : Int} (hd : TubeOk (l.map (sh d))) : ∀ (n : Nat) (t : Int), tm l 0 ≤ t → t + n ≤ tl l + 1 → nds k (l.map (sh d)) n (t + d) = (nds k l n t).map (sh d)
  | 0, _, _, _ => rfl
  | n + 1, t, h0, h1 => by
    rw [nds, nds, List.map_cons, pt_sh k hk h hd (by unfold hs; rw [decide_eq_true (p := tm l 0 ≤ t) h0, decide_eq_true (p := t ≤ tl l) (by omega)]; rfl)]
    rw [show t + d + 1 = t + 1 + d by omega, nds_sh k hk h hd n (t + 1) (by omega) (by omega)]

/-! ### Shifted visits -/

def shV (d : Int) (v : Vs) : Vs := (v.1, (v.2.1 + d, v.2.2 + d))

theorem vs_sh {x : List Vs} {j : Nat} (d : Int) (h : j < x.length) : vs (x.map (shV d)) j = shV d (vs x j) := by
  unfold vs
  simp [List.getD, h]

theorem stepV_sh (i t d : Int) (x : List Vs) : stepV i (t + d) (x.map (shV d)) = (stepV i t x).map (shV d) := by
  unfold stepV
  rw [List.length_map]
  by_cases h : 0 < x.length
  · rw [vs_sh d (by omega)]
    by_cases hc : (vs x (x.length - 1)).1 = i
    · rw [if_pos ⟨h, hc⟩, if_pos ⟨h, hc⟩, List.map_set]
      rfl
    · rw [if_neg (fun g => hc g.2), if_neg (fun g => hc g.2), List.map_append]
      rfl
  · rw [if_neg (fun g => h g.1), if_neg (fun g => h g.1), List.map_append]
    rfl

theorem visits_sh (k : Nat) (l : List Se) (d : Int) : ∀ (ys : List Nd) (x : List Vs), visits k l (x.map (shV d)) (ys.map (sh d)) = (visits k l x ys).map (shV d)
  | [], x => rfl
  | y :: ys, x => by
    have := visits_sh k l d ys (stepV (plc k l y.1.2.1 y.1.2.2) y.1.1 x)
    rw [← stepV_sh] at this
    exact this

theorem path_sh (k : Nat) (hk : 100 ≤ k) (l : List Se) {t : List Nd} (h : TubeOk t) {d : Int} (hd : TubeOk (t.map (sh d))) : path k l (t.map (sh d)) = (path k l t).map (shV d) := by
  unfold path
  have hp := h.pos
  have hle : tm t 0 ≤ tl t := h.le (Nat.zero_le _) (by omega)
  rw [tm_sh d hp, tl_sh d hp, show tl t + d + 1 - (tm t 0 + d) = tl t + 1 - tm t 0 by omega, nds_sh k hk h hd _ _ (Int.le_refl _) (by omega)]
  exact visits_sh k l d _ []

/-! ### The law -/

theorem shifts_loop (k : Nat) (d : Int) (h0 : -200000 ≤ d) (h1 : d ≤ 200000) (x : List Vs) (e e' : Int) (hx : x.length ≤ 1000000) (hb : ∀ i, i < x.length → 0 ≤ (vs x i).2.1 ∧ (vs x i).2.1 ≤ 200000 ∧ 0 ≤ (vs x i).2.2 ∧ (vs x i).2.2 ≤ 200000) : ∀ n i : Nat, i ≤ x.length → x.length - i < n → skywaykeep3_SectorShifts.l0 k d (x, e) (x.map (shV d), e') n i = some true := by
  intro n
  induction n with
  | zero => intro i _ h; omega
  | succ n ih =>
    intro i hi hn
    rw [skywaykeep3_SectorShifts.l0_succ]
    unfold skywaykeep3_SectorShifts.l0b
    dsimp only
    rw [List.length_map]
    by_cases hlt : i < x.length
    · have hbi := hb i hlt
      rw [decide_eq_true (p := (i : Int) < ((x.length : Nat) : Int)) (by omega), decide_eq_true (p := 0 ≤ (i : Int)) (by omega)]
      have hg : x.getD ((i : Int)).toNat (0, (0, 0)) = vs x i := by rw [Int.toNat_natCast]; rfl
      have hg2 : (x.map (shV d)).getD ((i : Int)).toNat (0, (0, 0)) = shV d (vs x i) := by rw [Int.toNat_natCast, ← vs_sh d hlt]; rfl
      rw [hg, hg2]
      simp only [Bool.and_self, cond_true]
      rw [w64_id (n := (vs x i).2.1 + d) (by omega) (by omega), w64_id (n := (vs x i).2.2 + d) (by omega) (by omega), show w64 ((i : Int) + 1) = ((i + 1 : Nat) : Int) from w64_id (by omega) (by omega)]
      unfold shV
      simp only [beq_self_eq_true, Bool.and_self, Bool.not_true, cond_false]
      exact ih (i + 1) (by omega) (by omega)
    · rw [decide_eq_false (p := (i : Int) < ((x.length : Nat) : Int)) (by omega)]
      rfl

theorem SectorShifts_plain (k : Nat) (hk : 300000 ≤ k) (hf : skywaykeep3_sectorFact.F k = some true) (l : List Se) (t : List Nd) (d : Int) : skywaykeep3_SectorShifts.F k l t d = some true := by
  unfold skywaykeep3_SectorShifts.F
  obtain ⟨r, hr, hq⟩ := small_eq k (by omega) [t] 1 400 (by omega)
  rw [hf, hr]
  simp only [Option.bind_some, Bool.not_true, cond_false]
  cases r with
  | false => rfl
  | true =>
    obtain ⟨hT, hsp⟩ := (hq.1 rfl).2 t (by simp)
    clear hq hr
    simp only [Bool.not_true, cond_false]
    obtain ⟨u, e, he, hs⟩ := shift_eq k (by omega) hT d
    rw [he]
    simp only [Option.bind_some]
    by_cases z : e = 0
    · subst z
      obtain ⟨rfl, hU, h0, h1⟩ := hs rfl
      clear hs he
      rw [cond_neg (c := (0 : Int) != 0) (by rfl)]
      have hsu : tl (t.map (sh d)) - tm (t.map (sh d)) 0 = tl t - tm t 0 := by rw [tl_sh d hT.pos, tm_sh d hT.pos]; omega
      rcases path_cases k hk l t with ⟨e, he, h3, h⟩ | ⟨hz, hS, ⟨hn, _⟩ | ⟨_, ⟨hc, _⟩ | ⟨_, h⟩⟩⟩
      · rcases path_cases k hk l (t.map (sh d)) with ⟨e', he', h3', h'⟩ | ⟨hz', _⟩
        · rw [h3] at h3'
          cases h3'
          rw [h, h']
          simp only [Option.bind_some]
          rw [cond_neg (c := e != e) (by simp)]
          simp only [Option.bind_some]
          rw [cond_neg (by rfl)]
          exact shifts_loop k d h0 h1 [] e e (by simp) (fun i h => by simp at h) k 0 (by simp) (by simp; omega)
        · rw [h3] at hz'
          cases hz'
          exact absurd rfl he
      · exact absurd hT hn
      · omega
      · rcases path_cases k hk l (t.map (sh d)) with ⟨e', he', h3', _⟩ | ⟨_, _, ⟨hn, _⟩ | ⟨_, ⟨hc, _⟩ | ⟨_, h'⟩⟩⟩
        · rw [hz] at h3'
          cases h3'
          exact absurd rfl he'
        · exact absurd hU hn
        · omega
        · rw [h, h', path_sh k (by omega) l hT hU]
          have hv := path_ok k (by omega) hS hT
          have hvl : (path k l t).length ≤ 1000 := by
            have := visits_len k l (nds k t (tl t + 1 - tm t 0).toNat (tm t 0)) []
            rw [nds_len] at this
            simp only [List.length_nil] at this
            unfold path
            omega
          have b0 := hT.tmb (j := 0) hT.pos
          have b1 := hT.tmb (j := t.length - 1) (by have := hT.pos; omega)
          change 0 ≤ tl t ∧ tl t ≤ 200000 at b1
          generalize path k l t = x at hv hvl ⊢
          simp only [Option.bind_some]
          rw [cond_neg (c := (0 : Int) != 0) (by rfl)]
          simp only [Option.bind_some, List.length_map]
          rw [cond_neg (c := ((x.length : Nat) : Int) != ((x.length : Nat) : Int)) (by simp)]
          exact shifts_loop k d h0 h1 x 0 0 (by omega) (fun i hi => by have := hv.each i hi; omega) k 0 (by omega) (by omega)
    · rw [cond_pos (c := e != 0) (by simpa using z)]

attribute [local irreducible] skywaykeep3_SectorShifts.F
theorem sshi_cal (k : Nat) (x : DatPs (skywaykeep3_SectorShifts.C 0).ats) : (skywaykeep3_SectorShifts.C k).F x = skywaykeep3_SectorShifts.F k x.1 x.2.1 x.2.2 := rfl
theorem SectorShifts_law (x : DatPs (skywaykeep3_SectorShifts.C 0).ats) (_ : FitPs (skywaykeep3_SectorShifts.C 0).ats x) : ∃ k, (skywaykeep3_SectorShifts.C k).F x = some true :=
  ⟨300000 + 1000, (sshi_cal _ x).trans (SectorShifts_plain (300000 + 1000) (by omega) (secfact 300000) x.1 x.2.1 x.2.2)⟩

end Go.Proofs.Ytpnaicfmaglelaa.RT
