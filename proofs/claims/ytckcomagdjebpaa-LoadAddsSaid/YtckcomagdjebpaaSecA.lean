/- What is proved here: the visits of a flight, and the law SectorVisits. They ask nothing. -/
import Derived.Test.YtckcomagdjebpaaLdT
import Derived.Test.YtckcomagdjebpaaTubB
import Derived.Test.YtckcomagdjebpaaGeoB
namespace Go.Proofs.Ytckcomagdjebpaa.RT
open Go Go.R

attribute [local irreducible] tube_Check.F tube_at.F plane_Check.F tube_Point.F tube_At.F tube_All_1.F sector_Check.F sector_Place.F skywaykeep3_small.F

abbrev Vs := Int × Int × Int
def vs (x : List Vs) (j : Nat) : Vs := x.getD j (0, (0, 0))
theorem vs_eq (x : List Vs) (j : Nat) : x.getD j (0, (0, 0)) = vs x j := rfl

/-- One more second: the last visit goes on, or a new one begins. -/
def stepV (i t : Int) (x : List Vs) : List Vs :=
  if 0 < x.length ∧ (vs x (x.length - 1)).1 = i then x.set (x.length - 1) ((vs x (x.length - 1)).1, ((vs x (x.length - 1)).2.1, t)) else x ++ [(i, (t, t))]

theorem stepV_len (i t : Int) (x : List Vs) : (stepV i t x).length ≤ x.length + 1 := by
  unfold stepV
  split <;> simp

theorem round_eq (k : Nat) (hk : 2000 ≤ k) {l : List Se} (h : SecOk l) (x : List Vs) (hx : x.length ≤ 1000000) (y : Nd) : sector_Path.r0b k l x y = some (stepV (plc k l y.1.2.1 y.1.2.2) y.1.1 x) := by
  unfold sector_Path.r0b
  rw [(plc_eq k hk h y.1.2.1 y.1.2.2).1]
  simp only [Option.bind_some]
  unfold stepV
  by_cases h0 : 0 < x.length
  · have hi : w64 (((x.length : Nat) : Int) - 1) = ((x.length - 1 : Nat) : Int) := by rw [w64_id (by omega) (by omega)]; omega
    rw [decide_eq_true (p := ((x.length : Nat) : Int) > 0) (by omega), hi, inIdx (n := x.length) (by omega) (by omega)]
    simp only [cond_true, Option.bind_some, Int.toNat_natCast, vs_eq]
    by_cases hc : (vs x (x.length - 1)).1 = plc k l y.1.2.1 y.1.2.2
    · rw [cond_pos (c := (vs x (x.length - 1)).1 == plc k l y.1.2.1 y.1.2.2) (beq_iff_eq.2 hc), if_pos ⟨h0, hc⟩]
    · rw [cond_neg (c := (vs x (x.length - 1)).1 == plc k l y.1.2.1 y.1.2.2) (beq_false_of_ne hc), if_neg (fun h => hc h.2), Nat.ble_eq_true_of_le (show (x.length + 1) * 24 ≤ 140737488355328 by omega)]
      rfl
  · rw [decide_eq_false (p := ((x.length : Nat) : Int) > 0) (by omega), if_neg (fun h => h0 h.1)]
    simp only [cond_false, Option.bind_some]
    rw [Nat.ble_eq_true_of_le (show (x.length + 1) * 24 ≤ 140737488355328 by omega)]
    rfl

/-- The visits of nodes. -/
noncomputable def visits (k : Nat) (l : List Se) (x : List Vs) (ys : List Nd) : List Vs := ys.foldl (fun x y => stepV (plc k l y.1.2.1 y.1.2.2) y.1.1 x) x

theorem visits_eq (k : Nat) (hk : 2000 ≤ k) {l : List Se} (h : SecOk l) : ∀ (ys : List Nd) (x : List Vs), x.length + ys.length ≤ 1000000 → List.foldlM (sector_Path.r0b k l) x ys = some (visits k l x ys)
  | [], x, _ => rfl
  | y :: ys, x, hx => by
    simp only [List.length_cons] at hx
    rw [List.foldlM_cons, round_eq k hk h x (by omega) y]
    simp only [Option.bind_eq_bind, Option.bind_some]
    rw [visits_eq k hk h ys _ (by have := stepV_len (plc k l y.1.2.1 y.1.2.2) y.1.1 x; omega)]
    rfl

attribute [local irreducible] sector_Path.r0b

/-- The visits of a tube. -/
noncomputable def path (k : Nat) (l : List Se) (t : List Nd) : List Vs := visits k l [] (nds k t (tl t + 1 - tm t 0).toNat (tm t 0))

theorem path_cases (k : Nat) (hk : 300000 ≤ k) (l : List Se) (t : List Nd) :
    (∃ e, e ≠ 0 ∧ sector_Check.F k l = some e ∧ sector_Path.F k l t = some ([], e)) ∨ (sector_Check.F k l = some 0 ∧ SecOk l ∧
      ((¬ TubeOk t ∧ ∃ e, e ≠ 0 ∧ sector_Path.F k l t = some ([], e)) ∨ (TubeOk t ∧ ((tl t - tm t 0 > 20000 ∧ sector_Path.F k l t = some ([], 2)) ∨ (tl t - tm t 0 ≤ 20000 ∧ sector_Path.F k l t = some (path k l t, 0)))))) := by
  unfold sector_Path.F
  obtain ⟨e, he, hs⟩ := sec_eq k (by omega) l
  rw [he]
  simp only [Option.bind_some]
  by_cases z : e = 0
  · subst z
    right
    rw [cond_neg (c := (0 : Int) != 0) (by rfl)]
    have hS := hs rfl
    refine ⟨rfl, hS, ?_⟩
    by_cases hT : TubeOk t
    · right
      refine ⟨hT, ?_⟩
      have hp := hT.pos
      have b0 := hT.tmb (j := 0) hp
      have b1 := hT.tmb (j := t.length - 1) (by omega)
      change 0 ≤ tl t ∧ tl t ≤ 200000 at b1
      have hle : tm t 0 ≤ tl t := hT.le (Nat.zero_le _) (by omega)
      rw [tcheck_pos (by omega) hT]
      simp only [Option.bind_some]
      rw [cond_neg (c := (0 : Int) != 0) (by rfl), last_ix hp hT.len]
      rw [cond_pos (c := decide (0 ≤ ((t.length - 1 : Nat) : Int)) && decide (((t.length - 1 : Nat) : Int) < ((t.length : Nat) : Int))) (by simp; omega)]
      rw [cond_pos (c := decide ((0 : Nat) ≤ 0) && decide ((0 : Int) < ((t.length : Nat) : Int))) (by simp; omega)]
      change (_ ∧ (bif decide (w64 (tl t - tm t 0) > 20000) then _ else _) = _) ∨ (_ ∧ (bif decide (w64 (tl t - tm t 0) > 20000) then _ else _) = _)
      rw [w64_id (by omega) (by omega)]
      by_cases hc : tl t - tm t 0 > 20000
      · rw [decide_eq_true hc]
        exact .inl ⟨hc, rfl⟩
      · rw [decide_eq_false hc]
        refine .inr ⟨by omega, ?_⟩
        simp only [cond_false]
        rw [all_eq k (by omega) hT (by omega)]
        simp only [Option.bind_some]
        rw [visits_eq k (by omega) hS _ _ (by rw [nds_len]; simp only [List.length_nil]; omega)]
        rfl
    · left
      refine ⟨hT, ?_⟩
      obtain ⟨e', he', hq⟩ := tcheck_neg (k := k) (by omega) hT
      rw [hq]
      simp only [Option.bind_some]
      rw [cond_pos (c := e' != 0) (by simpa using he')]
      exact ⟨e', he', rfl⟩
  · left
    rw [cond_pos (c := e != 0) (by simpa using z)]
    exact ⟨e, z, rfl, rfl⟩

attribute [local irreducible] sector_Path.F

/-! ### Visits are consecutive -/

structure VOk (n t0 t : Int) (x : List Vs) : Prop where
  pos : 0 < x.length
  first : (vs x 0).2.1 = t0
  last : (vs x (x.length - 1)).2.2 = t
  each : ∀ i, i < x.length → -1 ≤ (vs x i).1 ∧ (vs x i).1 < n ∧ t0 ≤ (vs x i).2.1 ∧ (vs x i).2.1 ≤ (vs x i).2.2 ∧ (vs x i).2.2 ≤ t
  next : ∀ i, i + 1 < x.length → (vs x (i + 1)).2.1 = (vs x i).2.2 + 1 ∧ (vs x (i + 1)).1 ≠ (vs x i).1

theorem vs_set {x : List Vs} {j : Nat} (hj : j < x.length) (v : Vs) (i : Nat) : vs (x.set j v) i = if i = j then v else vs x i := by
  unfold vs
  rw [List.getD, List.getElem?_set, List.getD]
  by_cases e : j = i
  · subst e; rw [if_pos rfl, if_pos hj, if_pos rfl]; rfl
  · rw [if_neg e, if_neg (fun h => e h.symm)]
theorem vs_app {x : List Vs} (v : Vs) (i : Nat) (hi : i ≤ x.length) : vs (x ++ [v]) i = if i < x.length then vs x i else v := by
  unfold vs
  rw [List.getD, List.getD]
  by_cases h : i < x.length
  · rw [if_pos h, List.getElem?_append_left h]
  · rw [if_neg h, List.getElem?_append_right (by omega), show i - x.length = 0 by omega]; rfl

theorem VOk.step {n t0 t i : Int} {x : List Vs} (h : VOk n t0 t x) (h1 : -1 ≤ i) (h2 : i < n) (ht : t0 ≤ t) : VOk n t0 (t + 1) (stepV i (t + 1) x) := by
  have hp := h.pos
  unfold stepV
  by_cases hc : (vs x (x.length - 1)).1 = i
  · rw [if_pos ⟨hp, hc⟩]
    have hl : x.length - 1 < x.length := by omega
    have hv := vs_set hl ((vs x (x.length - 1)).1, ((vs x (x.length - 1)).2.1, t + 1))
    have he := h.each _ hl
    refine ⟨by simpa using hp, ?_, ?_, fun j hj => ?_, fun j hj => ?_⟩
    · rw [hv]
      split
      · rename_i e; rw [← e]; exact h.first
      · exact h.first
    · rw [List.length_set, hv, if_pos rfl]
    · rw [List.length_set] at hj
      rw [hv]
      split
      · dsimp only; omega
      · have := h.each j hj; omega
    · rw [List.length_set] at hj
      have hn := h.next j hj
      rw [hv, hv, if_neg (show ¬ j = x.length - 1 by omega)]
      split
      · rename_i e; rw [← e]; exact ⟨hn.1, hn.2⟩
      · exact hn
  · rw [if_neg (fun h => hc h.2)]
    have hv := fun j hj => vs_app (x := x) (i, (t + 1, t + 1)) j hj
    refine ⟨by simp, ?_, ?_, fun j hj => ?_, fun j hj => ?_⟩
    · rw [hv 0 (by omega), if_pos hp]; exact h.first
    · rw [List.length_append, List.length_singleton, Nat.add_sub_cancel, hv _ (Nat.le_refl _), if_neg (Nat.lt_irrefl _)]
    · rw [List.length_append, List.length_singleton] at hj
      rw [hv j (by omega)]
      split
      · rename_i e; have := h.each j e; omega
      · dsimp only; omega
    · rw [List.length_append, List.length_singleton] at hj
      rw [hv (j + 1) (by omega), hv j (by omega), if_pos (show j < x.length by omega)]
      split
      · rename_i e; exact h.next j e
      · have e : j = x.length - 1 := by omega
        subst e
        exact ⟨by have := h.last; dsimp only; omega, fun q => hc q.symm⟩

theorem VOk.begin {n t i : Int} (h1 : -1 ≤ i) (h2 : i < n) : VOk n t t (stepV i t []) := by
  have : stepV i t [] = [(i, (t, t))] := rfl
  rw [this]
  refine ⟨by simp, rfl, rfl, fun j hj => ?_, fun j hj => ?_⟩
  · have : j = 0 := by simpa using hj
    subst this
    show -1 ≤ i ∧ i < n ∧ t ≤ t ∧ t ≤ t ∧ t ≤ t
    omega
  · simp at hj

theorem visits_ok (k : Nat) (hk : 2000 ≤ k) {l : List Se} (h : SecOk l) {t : List Nd} (hT : TubeOk t) {t0 : Int} : ∀ (m : Nat) (s : Int) (x : List Vs), tm t 0 ≤ s + 1 → s + m ≤ tl t → t0 ≤ s → VOk (l.length : Int) t0 s x → VOk (l.length : Int) t0 (s + m) (visits k l x (nds k t m (s + 1)))
  | 0, s, x, _, _, _, hx => by simpa [nds, visits] using hx
  | m + 1, s, x, h0, h1, h2, hx => by
    have hp := plc_eq k hk h (pt k t (s + 1)).1.2.1 (pt k t (s + 1)).1.2.2
    have htime : (pt k t (s + 1)).1.1 = s + 1 := by
      have hc : hs t (s + 1) = true := by unfold hs; rw [decide_eq_true (p := tm t 0 ≤ s + 1) h0, decide_eq_true (p := s + 1 ≤ tl t) (by omega)]; rfl
      obtain ⟨q, _, hq⟩ := (at_cases k (by omega) hT (s + 1)).2.2 hc
      rw [hq, ndAt_time]
    have := visits_ok k hk h hT (t0 := t0) m (s + 1) (stepV (plc k l (pt k t (s + 1)).1.2.1 (pt k t (s + 1)).1.2.2) (s + 1) x) (by omega) (by omega) (by omega) (hx.step hp.2.1 hp.2.2 h2)
    rw [show s + ((m + 1 : Nat) : Int) = s + 1 + m by omega, nds]
    simp only [visits, List.foldl_cons]
    rw [htime]
    exact this

theorem path_ok (k : Nat) (hk : 2000 ≤ k) {l : List Se} (h : SecOk l) {t : List Nd} (hT : TubeOk t) : VOk (l.length : Int) (tm t 0) (tl t) (path k l t) := by
  have hp := hT.pos
  have hle : tm t 0 ≤ tl t := hT.le (Nat.zero_le _) (by omega)
  unfold path
  obtain ⟨m, hm⟩ : ∃ m : Nat, (tl t + 1 - tm t 0).toNat = m + 1 := ⟨(tl t - tm t 0).toNat, by omega⟩
  rw [hm, nds]
  have htime : (pt k t (tm t 0)).1.1 = tm t 0 := by
    have hc : hs t (tm t 0) = true := by unfold hs; rw [decide_eq_true (Int.le_refl _), decide_eq_true hle]; rfl
    obtain ⟨q, _, hq⟩ := (at_cases k (by omega) hT (tm t 0)).2.2 hc
    rw [hq, ndAt_time]
  have hpl := plc_eq k hk h (pt k t (tm t 0)).1.2.1 (pt k t (tm t 0)).1.2.2
  have := visits_ok k hk h hT (t0 := tm t 0) m (tm t 0) _ (by omega) (by omega) (Int.le_refl _) (VOk.begin (t := tm t 0) hpl.2.1 hpl.2.2)
  rw [show tm t 0 + (m : Int) = tl t by omega] at this
  simp only [visits, List.foldl_cons]
  rw [htime]
  exact this

/-! ### The law -/

theorem visits_loop (k : Nat) (l : List Se) {t0 t : Int} (h0 : 0 ≤ t0) (h1 : t ≤ 200000) (x : List Vs) (e : Int) (h : VOk (l.length : Int) t0 t x) (hx : x.length ≤ 1000000) : ∀ n i : Nat, i ≤ x.length → x.length - i < n → skywaykeep3_SectorVisits.l0 k l (x, e) n i = some true := by
  intro n
  induction n with
  | zero => intro i _ h; omega
  | succ n ih =>
    intro i hi hn
    rw [skywaykeep3_SectorVisits.l0_succ]
    unfold skywaykeep3_SectorVisits.l0b
    dsimp only
    by_cases hlt : i < x.length
    · have he := h.each i hlt
      rw [decide_eq_true (p := (i : Int) < ((x.length : Nat) : Int)) (by omega), decide_eq_true (p := 0 ≤ (i : Int)) (by omega), show w64 ((i : Int) + 1) = ((i + 1 : Nat) : Int) from w64_id (by omega) (by omega)]
      have hg : x.getD ((i : Int)).toNat (0, (0, 0)) = vs x i := by rw [Int.toNat_natCast]; rfl
      rw [hg, decide_eq_false (p := (vs x i).1 < -1) (by omega), decide_eq_false (p := (vs x i).1 ≥ ((l.length : Nat) : Int)) (by omega), decide_eq_false (p := (vs x i).2.1 > (vs x i).2.2) (by omega)]
      simp only [Bool.and_self, cond_true, cond_false]
      have hin := ih (i + 1) (by omega) (by omega)
      by_cases hz : i = 0
      · subst hz
        exact hin
      · rw [decide_eq_true (p := (i : Int) > 0) (by omega), show w64 ((i : Int) - 1) = ((i - 1 : Nat) : Int) by rw [w64_id (by omega) (by omega)]; omega, inIdx (n := x.length) (by omega) (by omega)]
        have hg2 : x.getD (((i - 1 : Nat) : Int)).toNat (0, (0, 0)) = vs x (i - 1) := by rw [Int.toNat_natCast]; rfl
        have hnx := h.next (i - 1) (by omega)
        rw [show i - 1 + 1 = i by omega] at hnx
        have he1 := h.each (i - 1) (by omega)
        rw [hg2, w64_id (n := (vs x (i - 1)).2.2 + 1) (by omega) (by omega), cond_neg (c := (vs x i).2.1 != (vs x (i - 1)).2.2 + 1) (by simp; exact hnx.1), beq_false_of_ne hnx.2]
        exact hin
    · rw [decide_eq_false (p := (i : Int) < ((x.length : Nat) : Int)) (by omega)]
      rfl

theorem visits_len (k : Nat) (l : List Se) : ∀ (ys : List Nd) (x : List Vs), (visits k l x ys).length ≤ x.length + ys.length
  | [], x => by simp [visits]
  | y :: ys, x => by
    have := visits_len k l ys (stepV (plc k l y.1.2.1 y.1.2.2) y.1.1 x)
    have := stepV_len (plc k l y.1.2.1 y.1.2.2) y.1.1 x
    simp only [visits, List.foldl_cons, List.length_cons] at *
    omega

theorem SectorVisits_plain (k : Nat) (hk : 300000 ≤ k) (hf : skywaykeep3_sectorFact.F k = some true) (l : List Se) (t : List Nd) : skywaykeep3_SectorVisits.F k l t = some true := by
  unfold skywaykeep3_SectorVisits.F
  obtain ⟨r, hr, hq⟩ := small_eq k (by omega) [t] 1 400 (by omega)
  rw [hf, hr]
  simp only [Option.bind_some, Bool.not_true, cond_false]
  cases r with
  | false => rfl
  | true =>
    obtain ⟨hT, hsp⟩ := (hq.1 rfl).2 t (by simp)
    clear hq hr
    simp only [Bool.not_true, cond_false]
    rcases path_cases k hk l t with ⟨e, he, _, h⟩ | ⟨_, hS, ⟨hn, _⟩ | ⟨_, ⟨hc, _⟩ | ⟨_, h⟩⟩⟩
    · rw [h]
      simp only [Option.bind_some]
      rw [cond_pos (c := e != 0) (by simpa using he)]
      rfl
    · exact absurd hT hn
    · omega
    · rw [h]
      have hv := path_ok k (by omega) hS hT
      have hvl : (path k l t).length ≤ 1000 := by
        have := visits_len k l (nds k t (tl t + 1 - tm t 0).toNat (tm t 0)) []
        rw [nds_len] at this
        simp only [List.length_nil] at this
        unfold path
        omega
      have hvp := hv.pos
      have htp := hT.pos
      have b0 := hT.tmb (j := 0) htp
      have b1 := hT.tmb (j := t.length - 1) (by omega)
      change 0 ≤ tl t ∧ tl t ≤ 200000 at b1
      generalize path k l t = x at hv hvl hvp ⊢
      simp only [Option.bind_some]
      rw [cond_neg (c := (0 : Int) != 0) (by rfl), cond_neg (c := ((x.length : Nat) : Int) == 0) (beq_false_of_ne (by omega))]
      rw [cond_pos (c := decide ((0 : Nat) ≤ 0) && decide ((0 : Int) < ((x.length : Nat) : Int))) (by simp; omega)]
      rw [cond_pos (c := decide ((0 : Nat) ≤ 0) && decide ((0 : Int) < ((t.length : Nat) : Int))) (by simp; omega)]
      rw [cond_neg (c := ((x.getD 0 (0, (0, 0))).2).1 != (((t.getD 0 ((0, ((0, 0), 0)), (0, 0))).1).1)) (by have := hv.first; change (vs x 0).2.1 = tm t 0 at this; change ((vs x 0).2.1 != tm t 0) = false; simp [this])]
      rw [show w64 (((x.length : Nat) : Int) - 1) = ((x.length - 1 : Nat) : Int) by rw [w64_id (by omega) (by omega)]; omega, last_ix htp hT.len]
      rw [inIdx (n := x.length) (by omega) (by omega), inIdx (n := t.length) (by omega) (by omega)]
      have hlast : (((x.getD (((x.length - 1 : Nat) : Int)).toNat (0, (0, 0))).2).2 != (((t.getD (((t.length - 1 : Nat) : Int)).toNat ((0, ((0, 0), 0)), (0, 0))).1).1)) = false := by
        rw [Int.toNat_natCast, Int.toNat_natCast]
        have := hv.last
        change (vs x (x.length - 1)).2.2 = tl t at this
        change ((vs x (x.length - 1)).2.2 != tl t) = false
        simp [this]
      rw [hlast]
      simp only [cond_true, Option.bind_some, cond_false]
      exact visits_loop k l b0.1 b1.2 x 0 hv (by omega) k 0 (by omega) (by omega)

theorem secfact (m : Nat) : skywaykeep3_sectorFact.F (m + 1000) = some true := by kernel_rfl

attribute [local irreducible] skywaykeep3_SectorVisits.F
theorem svis_cal (k : Nat) (x : DatPs (skywaykeep3_SectorVisits.C 0).ats) : (skywaykeep3_SectorVisits.C k).F x = skywaykeep3_SectorVisits.F k x.1 x.2 := rfl
theorem SectorVisits_law (x : DatPs (skywaykeep3_SectorVisits.C 0).ats) (_ : FitPs (skywaykeep3_SectorVisits.C 0).ats x) : ∃ k, (skywaykeep3_SectorVisits.C k).F x = some true :=
  ⟨300000 + 1000, (svis_cal _ x).trans (SectorVisits_plain (300000 + 1000) (by omega) (secfact 300000) x.1 x.2)⟩

end Go.Proofs.Ytckcomagdjebpaa.RT
