/- What is proved here: the plain law SlotFits, and the four laws of slots. They ask nothing. -/
import Derived.Test.YtdfopdlmdminbaaSlT
import Derived.Test.YtdfopdlmdminbaaPlA
import Derived.Test.YtdfopdlmdminbaaStrA
import Derived.Test.YtdfopdlmdminbaaFlowT
import Derived.Test.YtdfopdlmdminbaaSlotA
import Derived.Test.YtdfopdlmdminbaaSlotB
import Derived.Test.YtdfopdlmdminbaaSlotC
import Derived.Test.YtdfopdlmdminbaaSlotD
namespace Go.Proofs.Ytdfopdlmdminbaa.RT
open Go Go.R

attribute [local irreducible] slot_Assign.F slot_Check.F slot_Delays.F slot_Swap.F slot_Name.F flow_Over.F flow_Demand.F

theorem wiN_not (c : Cps) (t : Int) : ∀ r i : Nat, wiN c t r i = -1 → ∀ j, i ≤ j → j < i + r → ¬ ((ent c j).1.1 ≤ t ∧ t < (ent c j).1.2)
  | 0, i, _, j, h1, h2 => by omega
  | r + 1, i, h, j, h1, h2 => by
    simp only [wiN] at h
    split at h
    · omega
    · rename_i hn
      by_cases e : j = i
      · subst e; exact hn
      · exact wiN_not c t r (i + 1) h j (by omega) (by omega)

theorem wi_in {c : Cps} (h : CpOk c) {t : Int} {p : Nat} (hp : p < c.length) (h1 : (ent c p).1.1 ≤ t) (h2 : t < (ent c p).1.2) : wi c t = p := by
  rcases wi_facts c t with e | ⟨j, e, hj, h3, h4⟩
  · exact absurd ⟨h1, h2⟩ (wiN_not c t _ _ e p (by omega) (by omega))
  · rw [e]
    rcases Nat.lt_trichotomy j p with g | g | g
    · have := span_mono h p j g hp; omega
    · rw [g]
    · have := span_mono h j p g hj; omega

theorem ent_cons (x : (Int × Int) × Int) (r : Cps) (j : Nat) : ent (x :: r) (j + 1) = ent r j := by simp [ent]
theorem ent_zero (x : (Int × Int) × Int) (r : Cps) : ent (x :: r) 0 = x := rfl

theorem tk_place {t : Int} : ∀ {c : Cps} {a : Int} {c' : Cps}, (∀ x ∈ c, x.1.1 < x.1.2) → tk t c = some (a, c') → ∃ p : Nat, p < c.length ∧ (ent c p).1.1 ≤ a ∧ a < (ent c p).1.2 ∧ ∀ j, (ent c' j).1 = (ent c j).1 ∧ (ent c' j).2 = (ent c j).2 - (if j = p then 1 else 0)
  | [], a, c', _, h => by simp [tk] at h
  | x :: r, a, c', hc, h => by
    have hx := hc x (by simp)
    simp only [tk] at h
    split at h
    · rename_i hh
      simp only [Option.some.injEq, Prod.mk.injEq] at h
      obtain ⟨rfl, rfl⟩ := h
      refine ⟨0, by simp, ?_, ?_, fun j => ?_⟩
      · rw [ent_zero]; unfold mx; split <;> omega
      · rw [ent_zero]; unfold mx; split <;> omega
      · cases j with
        | zero => rw [ent_zero, ent_zero, if_pos rfl]; exact ⟨rfl, rfl⟩
        | succ j => rw [ent_cons, ent_cons, if_neg (by omega)]; exact ⟨rfl, by omega⟩
    · cases hr : tk t r with
      | none => rw [hr] at h; cases h
      | some q =>
        rw [hr] at h
        simp only [Option.map_some, Option.some.injEq, Prod.mk.injEq] at h
        obtain ⟨rfl, rfl⟩ := h
        obtain ⟨p, h1, h2, h3, h4⟩ := tk_place (a := q.1) (c' := q.2) (fun y hy => hc y (List.mem_cons_of_mem _ hy)) hr
        refine ⟨p + 1, by simpa using h1, by rw [ent_cons]; exact h2, by rw [ent_cons]; exact h3, fun j => ?_⟩
        cases j with
        | zero => rw [ent_zero, ent_zero, if_neg (by omega)]; exact ⟨rfl, by omega⟩
        | succ j =>
          rw [ent_cons, ent_cons]
          obtain ⟨k1, k2⟩ := h4 j
          refine ⟨k1, ?_⟩
          rw [k2]
          by_cases e : j = p
          · rw [if_pos e, if_pos (by omega)]
          · rw [if_neg e, if_neg (by omega)]

theorem asg_fits (place : ByteArray) {c0 : Cps} (h0 : CpOk c0) : ∀ {S : List Dm} {c : Cps} {s : List Sl}, Cap c → c.length = c0.length → (∀ j, (ent c j).1 = (ent c0 j).1) → asg place c S = some s →
    (∀ t ∈ s.map (·.2.2), wi c0 t ≠ -1) ∧ ∀ j, j < c0.length → (cnt c0 j (s.map (·.2.2)) : Int) ≤ (ent c j).2
  | [], c, s, hc, hl, hs, h => by
    simp only [asg, Option.some.injEq] at h
    subst h
    refine ⟨fun t ht => (by cases ht), fun j hj => ?_⟩
    have : ent c j ∈ c := getD_mem _ (by omega)
    have := hc _ this
    simp only [List.map_nil]
    unfold cnt
    simp
    omega
  | d :: r, c, s, hc, hl, hs, h => by
    simp only [asg, Option.bind_eq_some_iff, Option.map_eq_some_iff] at h
    obtain ⟨p, h1, s', h2, rfl⟩ := h
    obtain ⟨a, c'⟩ := p
    obtain ⟨t1, t2, _⟩ := tk_cap hc h1
    have hlt : ∀ x ∈ c, x.1.1 < x.1.2 := fun x hx => by
      obtain ⟨j, hj, e⟩ := List.mem_iff_getElem.1 hx
      have k1 := h0.2 j (by omega)
      have k2 := hs j
      unfold EnOk at k1
      rw [← k2] at k1
      have : ent c j = x := by rw [← e]; exact getD_get _ hj
      rw [this] at k1
      exact k1.2.2.1
    obtain ⟨p, p1, p2, p3, p4⟩ := tk_place hlt h1
    rw [hs p] at p2 p3
    have hwi := wi_in h0 (show p < c0.length by omega) p2 p3
    obtain ⟨g1, g2⟩ := asg_fits place h0 t1 (by omega) (fun j => by rw [(p4 j).1, hs j]) h2
    refine ⟨fun t ht => ?_, fun j hj => ?_⟩
    · simp only [List.map_cons, List.mem_cons] at ht
      rcases ht with rfl | ht
      · rw [hwi]; omega
      · exact g1 t ht
    · simp only [List.map_cons]
      rw [cnt_cons, hwi]
      have := g2 j hj
      rw [(p4 j).2] at this
      by_cases e : j = p
      · rw [if_pos e] at this
        rw [if_pos (by omega)]
        omega
      · rw [if_neg e] at this
        rw [if_neg (by omega)]
        omega

theorem fits_loop (k : Nat) (s : List Sl) (hs : s.length ≤ 24) (e : Int) : ∀ (n i : Nat) (out : List Int), i ≤ s.length → s.length - i < n → out.length = i →
    skywaykeep3_SlotFits.l0 k (s, e) n ((i : Int), out) = some (Sum.inl (out ++ (s.drop i).map (·.2.2))) := by
  intro n
  induction n with
  | zero => intro i _ _ h; omega
  | succ n ih =>
    intro i out hi hn ho
    rw [skywaykeep3_SlotFits.l0_succ]
    unfold skywaykeep3_SlotFits.l0b
    dsimp only
    by_cases hlt : i < s.length
    · have hd := drop_cons hlt ((ByteArray.empty, (ByteArray.empty, 0)) : Sl)
      rw [sl_eq] at hd
      rw [decide_eq_true (p := (i : Int) < ((s.length : Nat) : Int)) (by omega), decide_eq_true (p := 0 ≤ (i : Int)) (by omega), Nat.ble_eq_true_of_le (show (out.length + 1) * 8 ≤ 140737488355328 by omega), show w64 ((i : Int) + 1) = ((i + 1 : Nat) : Int) from w64_id (by omega) (by omega)]
      simp only [Bool.and_self, cond_true, getD_nat, sl_eq]
      rw [ih (i + 1) _ (by omega) (by omega) (by simp [ho]), hd]
      simp
    · rw [decide_eq_false (p := (i : Int) < ((s.length : Nat) : Int)) (by omega), List.drop_eq_nil_of_le (by omega)]
      simp

theorem fits_last (k : Nat) (x : List Int) (hx : x.length ≤ 24) (h : ∀ t ∈ x, 0 ≤ t) (e : Int) : ∀ n i : Nat, i ≤ x.length → x.length - i < n → skywaykeep3_SlotFits.l1 k (x, e) n i = some true := by
  intro n
  induction n with
  | zero => intro i _ h; omega
  | succ n ih =>
    intro i hi hn
    rw [skywaykeep3_SlotFits.l1_succ]
    unfold skywaykeep3_SlotFits.l1b
    dsimp only
    by_cases hlt : i < x.length
    · rw [decide_eq_true (p := (i : Int) < ((x.length : Nat) : Int)) (by omega), decide_eq_true (p := 0 ≤ (i : Int)) (by omega)]
      simp only [Bool.and_self, cond_true, getD_nat]
      unfold skywaykeep3_SlotFits_1.F
      have := h _ (getD_mem (0 : Int) hlt)
      rw [decide_eq_false (p := x.getD i 0 < 0) (by omega), show w64 ((i : Int) + 1) = ((i + 1 : Nat) : Int) from w64_id (by omega) (by omega)]
      exact ih (i + 1) (by omega) (by omega)
    · rw [decide_eq_false (p := (i : Int) < ((x.length : Nat) : Int)) (by omega)]
      rfl

theorem SlotFits_plain (k : Nat) (hk : 300 ≤ k) (hr : slot_Name.F k rwy = some true) (hf : skywaykeep3_slotFact.F k = some true) (l : List Dm) (c : Cps) : skywaykeep3_SlotFits.F k l c = some true := by
  unfold skywaykeep3_SlotFits.F
  rw [hf]
  simp only [Option.bind_some, Bool.not_true, cond_false]
  rw [show (⟨#[82, 87, 89]⟩ : ByteArray) = rwy from rfl]
  rcases assign_went k hk hr l c with ⟨e, he, h⟩ | ⟨S, s, hw, h⟩
  · rw [h]
    simp only [Option.bind_some]
    rw [cond_pos (c := e != 0) (by simpa using he)]
    rfl
  rw [h]
  simp only [Option.bind_some]
  rw [cond_neg (c := (0 : Int) != 0) (by rfl)]
  have hl := hw.len
  have hdl := went_dly hw
  rcases delays_cases k (by omega) l s with ⟨_, _, _, hn⟩ | ⟨d1, _⟩
  · exact absurd hdl hn
  rw [d1]
  simp only [Option.bind_some]
  have hfl := fits_loop k s (by omega) 0 k 0 [] (by omega) (by omega) rfl
  rw [show ((0 : Nat) : Int) = 0 from rfl] at hfl
  rw [hfl]
  simp only [Option.bind_some, List.nil_append, List.drop_zero]
  obtain ⟨f1, f2⟩ := asg_fits rwy hw.caps hw.caps.cap rfl (fun j => rfl) hw.asg
  have hul : (s.map (·.2.2)).length ≤ 60 := by simp; omega
  obtain ⟨x, o1, _, _⟩ := demand_eq k hk c hw.caps (s.map (·.2.2)) hul f1
  rw [over_eq k hk c hw.caps _ hul f1 f2, o1]
  simp only [Option.bind_some, beq_self_eq_true, cond_true, List.length_nil]
  rw [show ((s.length : Nat) : Int) = ((l.length : Nat) : Int) by omega]
  simp only [beq_self_eq_true]
  have hlast := fits_last k (l.map (dl s)) (by simp; omega) (fun t ht => by
    obtain ⟨d, hd, rfl⟩ := List.mem_map.1 ht
    have := hdl.each d hd
    unfold DlOk at this
    unfold dl
    omega) 0 k 0 (by omega) (by simp; omega)
  rw [show ((0 : Nat) : Int) = 0 from rfl] at hlast
  rw [show ((((0 : Nat) : Int) == 0)) = true from rfl]
  simp only [cond_true]
  rw [hlast]
  rfl

/-! ### The fact -/

attribute [local semireducible] slot_Check.F slot_Delays.F slot_Swap.F slot_Name.F

theorem assign_at (k : Nat) (hk : 300 ≤ k) (hr : slot_Name.F k rwy = some true) (l S : List Dm) (c : Cps) (s : List Sl) (h1 : slot_Check.F k l = some 0) (h2 : flow_Check.F k c = some 0) (hS : Srt l S) (ha : asg rwy c S = some s) : slot_Assign.F k rwy l c = some (s, 0) := by
  have hd : DmOk k l := by
    obtain ⟨e, g1, g2⟩ := scheck_eq k (by omega) l
    rw [h1] at g1
    exact g2.1 (Option.some.inj g1).symm
  have hc : CpOk c := by
    rcases fcheck_cases k hk c with ⟨_, h⟩ | ⟨⟨e, he, g⟩, _⟩
    · exact h
    · rw [h2] at g
      exact absurd (Option.some.inj g).symm he
  rcases assign_eq k hk rwy hr l c with ⟨_, _, _, hn⟩ | ⟨_, _, h⟩
  · exact absurd ⟨hd, hc⟩ hn
  · rw [h S hS, ha]

def fl : List Dm := [((⟨#[66, 50]⟩ : ByteArray), 4), ((⟨#[65, 49]⟩ : ByteArray), 3)]
def fc : Cps := [((0, 10), 1), ((10, 20), 1)]

theorem sfact_one (m : Nat) : slot_Assign.F (m + 300) rwy fl fc = some ([((⟨#[65, 49]⟩ : ByteArray), (rwy, 3)), ((⟨#[66, 50]⟩ : ByteArray), (rwy, 10))], 0) :=
  assign_at (m + 300) (by omega) (rwy_ok (m + 260)) fl [((⟨#[65, 49]⟩ : ByteArray), 3), ((⟨#[66, 50]⟩ : ByteArray), 4)] fc _ (by kernel_rfl) (by kernel_rfl) ⟨List.Perm.swap _ _ _, by simp only [List.pairwise_cons, List.mem_singleton, forall_eq, List.not_mem_nil, false_implies, implies_true, List.Pairwise.nil, and_true]; decide +kernel⟩ (by kernel_rfl)

theorem sfact_two (m : Nat) : slot_Assign.F (m + 300) rwy [((⟨#[66, 50]⟩ : ByteArray), 4)] fc = some ([((⟨#[66, 50]⟩ : ByteArray), (rwy, 4))], 0) :=
  assign_at (m + 300) (by omega) (rwy_ok (m + 260)) _ [((⟨#[66, 50]⟩ : ByteArray), 4)] fc _ (by kernel_rfl) (by kernel_rfl) ⟨List.Perm.refl _, by simp⟩ (by kernel_rfl)

theorem sfact_release (m : Nat) : slot_Release.F (m + 300) rwy (⟨#[65, 49]⟩ : ByteArray) fl fc = some ([((⟨#[66, 50]⟩ : ByteArray), (rwy, 4))], 0) := by
  unfold slot_Release.F
  rw [sfact_one]
  simp only [Option.bind_some]
  rw [cond_neg (c := (0 : Int) != 0) (by rfl), show slot_Release.l0 (m + 300) (⟨#[65, 49]⟩ : ByteArray) fl (m + 300) 0 = some 1 by kernel_rfl]
  simp only [Option.bind_some]
  rw [cond_neg (c := decide ((1 : Int) < 0)) (by rfl), show slices_Clone_api_SlotDemand.F (m + 300) fl = some fl by kernel_rfl]
  simp only [Option.bind_some]
  rw [show slices_Delete_api_SlotDemand.F (m + 300) fl 1 (w64 (1 + 1)) = some [((⟨#[66, 50]⟩ : ByteArray), 4)] by kernel_rfl]
  simp only [Option.bind_some]
  rw [sfact_two]
  rfl

attribute [local irreducible] slot_Release.F

theorem sfact (m : Nat) : skywaykeep3_slotFact.F (m + 300) = some true := by
  unfold skywaykeep3_slotFact.F skywaykeep3_caps.F
  simp only [Option.bind_some]
  rw [show (⟨#[82, 87, 89]⟩ : ByteArray) = rwy from rfl, show [((⟨#[66, 50]⟩ : ByteArray), (4 : Int)), ((⟨#[65, 49]⟩ : ByteArray), 3)] = fl from rfl, show [(((0 : Int), (10 : Int)), (1 : Int)), ((10, 20), 1)] = fc from rfl, sfact_one, sfact_release]
  simp only [Option.bind_some]
  show _ = some true
  kernel_rfl

attribute [local irreducible] skywaykeep3_SlotEarlier.F skywaykeep3_SlotImproves.F skywaykeep3_SlotSwaps.F skywaykeep3_SlotFits.F
theorem searlier_cal (k : Nat) (x : DatPs (skywaykeep3_SlotEarlier.C 0).ats) : (skywaykeep3_SlotEarlier.C k).F x = skywaykeep3_SlotEarlier.F k x.1 x.2.1 x.2.2 := rfl
theorem SlotEarlier_law (x : DatPs (skywaykeep3_SlotEarlier.C 0).ats) (_ : FitPs (skywaykeep3_SlotEarlier.C 0).ats x) : ∃ k, (skywaykeep3_SlotEarlier.C k).F x = some true :=
  ⟨340 + 300, (searlier_cal _ x).trans (SlotEarlier_plain (340 + 300) (by omega) (rwy_ok 600) (zzz_ok 600) (sfact 340) x.1 x.2.1 x.2.2)⟩
theorem simproves_cal (k : Nat) (x : DatPs (skywaykeep3_SlotImproves.C 0).ats) : (skywaykeep3_SlotImproves.C k).F x = skywaykeep3_SlotImproves.F k x.1 x.2.1 x.2.2 := rfl
theorem SlotImproves_law (x : DatPs (skywaykeep3_SlotImproves.C 0).ats) (_ : FitPs (skywaykeep3_SlotImproves.C 0).ats x) : ∃ k, (skywaykeep3_SlotImproves.C k).F x = some true :=
  ⟨340 + 300, (simproves_cal _ x).trans (SlotImproves_plain (340 + 300) (by omega) (rwy_ok 600) (sfact 340) x.1 x.2.1 x.2.2)⟩
theorem sswaps_cal (k : Nat) (x : DatPs (skywaykeep3_SlotSwaps.C 0).ats) : (skywaykeep3_SlotSwaps.C k).F x = skywaykeep3_SlotSwaps.F k x.1 x.2.1 x.2.2.1 x.2.2.2 := rfl
theorem SlotSwaps_law (x : DatPs (skywaykeep3_SlotSwaps.C 0).ats) (_ : FitPs (skywaykeep3_SlotSwaps.C 0).ats x) : ∃ k, (skywaykeep3_SlotSwaps.C k).F x = some true :=
  ⟨340 + 300, (sswaps_cal _ x).trans (SlotSwaps_plain (340 + 300) (by omega) (rwy_ok 600) (sfact 340) x.1 x.2.1 x.2.2.1 x.2.2.2)⟩
theorem sfits_cal (k : Nat) (x : DatPs (skywaykeep3_SlotFits.C 0).ats) : (skywaykeep3_SlotFits.C k).F x = skywaykeep3_SlotFits.F k x.1 x.2 := rfl
theorem SlotFits_law (x : DatPs (skywaykeep3_SlotFits.C 0).ats) (_ : FitPs (skywaykeep3_SlotFits.C 0).ats x) : ∃ k, (skywaykeep3_SlotFits.C k).F x = some true :=
  ⟨340 + 300, (sfits_cal _ x).trans (SlotFits_plain (340 + 300) (by omega) (rwy_ok 600) (sfact 340) x.1 x.2)⟩

end Go.Proofs.Ytdfopdlmdminbaa.RT
