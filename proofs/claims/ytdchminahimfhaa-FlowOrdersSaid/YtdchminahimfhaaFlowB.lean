/- What is proved here: the plain law FlowOrders. It asks nothing. -/
import Derived.Test.YtdchminahimfhaaFoT
import Derived.Test.YtdchminahimfhaaPlA
import Derived.Test.YtdchminahimfhaaFlowA
namespace Go.Proofs.Ytdchminahimfhaa.RT
open Go Go.R

attribute [local irreducible] flow_Check.F flow_within.F

/-- How many of the times fall into no window. -/
def outw (c : Cps) (l : List Int) : Nat := l.countP (fun t => wi c t == -1)

theorem outw_cons (c : Cps) (l : List Int) (t : Int) : outw c (t :: l) = outw c l + (if wi c t = -1 then 1 else 0) := by
  unfold outw
  rw [List.countP_cons]
  simp

theorem getD_set (l : List Int) (j : Nat) (v : Int) (hj : j < l.length) (q : Nat) : (l.set j v).getD q 0 = if j = q then v else l.getD q 0 := by
  rw [List.getD_eq_getElem?_getD, List.getElem?_set, List.getD_eq_getElem?_getD (l := l)]
  by_cases hij : j = q
  · rw [if_pos hij, if_pos hij, if_pos hj]; rfl
  · rw [if_neg hij, if_neg hij]

theorem demand_any (k : Nat) (hk : 300 ≤ k) (c : Cps) (h : CpOk c) (u : List Int) (hu : u.length ≤ 256) : ∀ (n i o : Nat) (l : List Int), i ≤ u.length → u.length - i < n → o ≤ i → l.length = c.length → (∀ j, j < c.length → 0 ≤ l.getD j 0 ∧ l.getD j 0 ≤ i) →
    ∃ l', flow_Demand.l0 k c u n ((o, i), l) = some (l', (o : Int) + outw c (u.drop i), 0) ∧ l'.length = c.length ∧ ∀ j, j < c.length → l'.getD j 0 = l.getD j 0 + cnt c j (u.drop i) := by
  intro n
  induction n with
  | zero => intro i _ _ _ h; omega
  | succ n ih =>
    intro i o l hi hm ho hl hb
    rw [flow_Demand.l0_succ]
    unfold flow_Demand.l0b
    dsimp only
    by_cases hlt : i < u.length
    · have e0 : decide ((i : Int) < ((u.length : Nat) : Int)) = true := decide_eq_true (by omega)
      have e1 : decide (0 ≤ (i : Int)) = true := decide_eq_true (by omega)
      simp only [e0, e1, Bool.and_self, cond_true, getD_nat]
      rw [within_eq k hk c h.1]
      simp only [Option.bind_some]
      rcases wi_facts c (u.getD i 0) with g1 | ⟨j, g1, g2, _⟩
      · rw [g1, decide_eq_false (p := (-1 : Int) ≥ 0) (by omega), w64_id (n := (i : Int) + 1) (by omega) (by omega), w64_id (n := (o : Int) + 1) (by omega) (by omega)]
        obtain ⟨l', h1, h2, h3⟩ := ih (i + 1) (o + 1) l (by omega) (by omega) (by omega) hl (fun q hq => by have := hb q hq; omega)
        refine ⟨l', ?_, h2, fun q hq => ?_⟩
        · rw [drop_cons hlt 0, outw_cons, g1, if_pos rfl]
          rw [show ((o : Int) + ((outw c (u.drop (i + 1)) + 1 : Nat) : Int)) = (((o + 1 : Nat) : Int) + (outw c (u.drop (i + 1)) : Nat)) by omega]
          exact h1
        · rw [h3 q hq, drop_cons hlt 0, cnt_cons, g1, if_neg (by omega)]; omega
      · have hj := hb j g2
        rw [g1, decide_eq_true (p := (j : Int) ≥ 0) (by omega), decide_eq_true (p := (j : Int) < ((l.length : Nat) : Int)) (by omega), getD_nat, Int.toNat_natCast]
        simp only [Bool.and_self, cond_true]
        rw [w64_id (n := (i : Int) + 1) (by omega) (by omega), w64_id (n := l.getD j 0 + 1) (by omega) (by omega)]
        have gs := getD_set l j (l.getD j 0 + 1) (by omega)
        obtain ⟨l', h1, h2, h3⟩ := ih (i + 1) o (l.set j (l.getD j 0 + 1)) (by omega) (by omega) (by omega) (by rw [List.length_set]; exact hl) (fun q hq => by
          rw [gs]
          have := hb q hq
          split <;> omega)
        refine ⟨l', ?_, h2, fun q hq => ?_⟩
        · rw [drop_cons hlt 0, outw_cons, g1, if_neg (by omega)]
          exact h1
        · rw [h3 q hq, gs, drop_cons hlt 0, cnt_cons, g1]
          by_cases hjq : j = q
          · subst hjq; rw [if_pos rfl, if_pos rfl]; omega
          · rw [if_neg hjq, if_neg (by omega)]; omega
    · rw [decide_eq_false (p := (i : Int) < ((u.length : Nat) : Int)) (by omega), List.drop_eq_nil_of_le (by omega)]
      exact ⟨l, by simp [outw], hl, fun j _ => by simp [cnt]⟩

/-- What the times come to. -/
def tmv (u : List Int) : Int := if 256 < u.length then 2 else if ∀ t ∈ u, 0 ≤ t ∧ t ≤ 200000 then 0 else 12

theorem times_any (k : Nat) (u : List Int) (hu : u.length ≤ 256) : ∀ n i : Nat, i ≤ u.length → u.length - i < n → flow_times.l0 k u n i = some (if ∀ t ∈ u.drop i, 0 ≤ t ∧ t ≤ 200000 then 0 else 12) := by
  intro n
  induction n with
  | zero => intro i _ h; omega
  | succ n ih =>
    intro i hi hm
    rw [flow_times.l0_succ]
    unfold flow_times.l0b
    by_cases hlt : i < u.length
    · have e0 : decide ((i : Int) < ((u.length : Nat) : Int)) = true := decide_eq_true (by omega)
      have e1 : decide (0 ≤ (i : Int)) = true := decide_eq_true (by omega)
      simp only [e0, e1, Bool.and_self, cond_true, getD_nat]
      rw [drop_cons hlt 0]
      simp only [List.forall_mem_cons]
      by_cases c1 : u.getD i 0 < 0
      · rw [decide_eq_true c1, if_neg (fun h => by omega)]; rfl
      by_cases c2 : u.getD i 0 > 200000
      · rw [decide_eq_false c1, decide_eq_true c2, if_neg (fun h => by omega)]; rfl
      rw [decide_eq_false c1, decide_eq_false c2, w64_id (n := (i : Int) + 1) (by omega) (by omega)]
      have := ih (i + 1) (by omega) (by omega)
      have e : ((0 ≤ u.getD i 0 ∧ u.getD i 0 ≤ 200000) ∧ ∀ t ∈ u.drop (i + 1), 0 ≤ t ∧ t ≤ 200000) ↔ ∀ t ∈ u.drop (i + 1), 0 ≤ t ∧ t ≤ 200000 := ⟨fun h => h.2, fun h => ⟨by omega, h⟩⟩
      simp only [e]
      exact this
    · rw [decide_eq_false (p := (i : Int) < ((u.length : Nat) : Int)) (by omega), List.drop_eq_nil_of_le (by omega)]
      simp

theorem times_val (k : Nat) (hk : 300 ≤ k) (u : List Int) : flow_times.F k u = some (tmv u) := by
  unfold flow_times.F tmv
  by_cases h : 256 < u.length
  · rw [decide_eq_true (p := ((u.length : Nat) : Int) > 256) (by omega), if_pos h]; rfl
  · rw [decide_eq_false (p := ((u.length : Nat) : Int) > 256) (by omega), if_neg h]
    have := times_any k u (by omega) k 0 (by omega) (by omega)
    rwa [List.drop_zero] at this

theorem tmv_reverse (u : List Int) : tmv u.reverse = tmv u := by
  unfold tmv
  simp only [List.length_reverse, List.mem_reverse]

attribute [local irreducible] flow_times.F

/-- The counts of all windows. -/
def cnts (c : Cps) (u : List Int) : List Int := (List.range c.length).map fun j => (cnt c j u : Int)

theorem cnts_length (c : Cps) (u : List Int) : (cnts c u).length = c.length := by simp [cnts]
theorem cnts_get (c : Cps) (u : List Int) {j : Nat} (h : j < c.length) : (cnts c u).getD j 0 = cnt c j u := by
  unfold cnts
  rw [List.getD_eq_getElem?_getD, List.getElem?_map, List.getElem?_range h]
  rfl

theorem list_ext {a b : List Int} (hl : a.length = b.length) (h : ∀ j, j < a.length → a.getD j 0 = b.getD j 0) : a = b := by
  apply List.ext_getElem? 
  intro j
  by_cases hj : j < a.length
  · have := h j hj
    rw [List.getD_eq_getElem?_getD, List.getD_eq_getElem?_getD, List.getElem?_eq_getElem hj, List.getElem?_eq_getElem (by omega : j < b.length)] at this
    rw [List.getElem?_eq_getElem hj, List.getElem?_eq_getElem (by omega : j < b.length)]
    exact congrArg some this
  · rw [List.getElem?_eq_none_iff.2 (by omega), List.getElem?_eq_none_iff.2 (by omega)]

theorem demand_val (k : Nat) (hk : 300 ≤ k) (c : Cps) (h : CpOk c) (u : List Int) : flow_Demand.F k c u = some (if tmv u = 0 then (cnts c u, (outw c u : Int), 0) else ([], 0, tmv u)) := by
  unfold flow_Demand.F
  have hl := h.1
  rw [fcheck_ok k hk c h]
  simp only [Option.bind_some]
  rw [times_val k hk u]
  simp only [Option.bind_some]
  rw [cond_neg (c := (0 : Int) != 0) (by rfl)]
  by_cases ht : tmv u = 0
  · have hu : u.length ≤ 256 := by
      unfold tmv at ht
      by_cases g : 256 < u.length
      · rw [if_pos g] at ht; omega
      · omega
    rw [if_pos ht, ht, cond_neg (c := (0 : Int) != 0) (by rfl), decide_eq_true (p := 0 ≤ ((c.length : Nat) : Int)) (by omega), decide_eq_true (p := ((c.length : Nat) : Int) ≤ _) (by omega), decide_eq_true (p := (8 : Int) * _ ≤ _) (by omega), Int.toNat_natCast]
    have gr : ∀ j, (List.replicate c.length (0 : Int)).getD j 0 = 0 := fun j => by
      rw [List.getD_eq_getElem?_getD, List.getElem?_replicate]; split <;> rfl
    obtain ⟨l', h1, h2, h3⟩ := demand_any k hk c h u hu k 0 0 (List.replicate c.length 0) (by omega) (by omega) (by omega) (by simp) (fun j _ => by rw [gr]; omega)
    have e : l' = cnts c u := list_ext (by rw [h2, cnts_length]) (fun j hj => by rw [h3 j (by omega), gr, List.drop_zero, cnts_get c u (by omega), Int.zero_add])
    subst e
    rw [List.drop_zero, show ((0 : Nat) : Int) = 0 from rfl, Int.zero_add] at h1
    exact h1
  · rw [if_neg ht, cond_pos (by simpa using ht)]

attribute [local irreducible] flow_Demand.F

theorem cnt_reverse (c : Cps) (j : Nat) (u : List Int) : cnt c j u.reverse = cnt c j u := by unfold cnt; exact List.countP_reverse
theorem outw_reverse (c : Cps) (u : List Int) : outw c u.reverse = outw c u := by unfold outw; exact List.countP_reverse
theorem cnts_reverse (c : Cps) (u : List Int) : cnts c u.reverse = cnts c u := by unfold cnts; simp only [cnt_reverse]

/-- The sum of the first n counts. -/
def sC (c : Cps) (u : List Int) : Nat → Nat
  | 0 => 0
  | n + 1 => sC c u n + cnt c n u

theorem sC_cons (c : Cps) (t : Int) (u : List Int) : ∀ n, sC c (t :: u) n = sC c u n + (if 0 ≤ wi c t ∧ wi c t < n then 1 else 0) := by
  intro n
  induction n with
  | zero => simp only [sC]; rw [if_neg (by omega)]
  | succ n ih =>
    simp only [sC, ih, cnt_cons]
    by_cases h : wi c t = (n : Int)
    · rw [if_pos h, if_neg (by omega), if_pos (by omega)]; omega
    · rw [if_neg h]
      by_cases g : 0 ≤ wi c t ∧ wi c t < n
      · rw [if_pos g, if_pos (by omega)]; omega
      · rw [if_neg g, if_neg (by omega)]; omega

theorem sC_total (c : Cps) (u : List Int) : sC c u c.length + outw c u = u.length := by
  induction u with
  | nil =>
    have : ∀ n, sC c [] n = 0 := fun n => by
      induction n with
      | zero => rfl
      | succ n ih => simp [sC, ih, cnt]
    simp [this, outw]
  | cons t u ih =>
    rw [sC_cons, outw_cons, List.length_cons]
    rcases wi_facts c t with g | ⟨j, g1, g2, _⟩
    · rw [g, if_neg (by omega), if_pos rfl]; omega
    · rw [g1, if_pos (by omega), if_neg (by omega)]; omega

theorem sC_mono (c : Cps) (u : List Int) {m n : Nat} (h : m ≤ n) : sC c u m ≤ sC c u n := by
  induction h with
  | refl => exact Nat.le_refl _
  | step _ ih => simp only [sC]; omega

theorem orders_loop (k : Nat) (c : Cps) (hl : c.length ≤ 256) (u : List Int) (hu : u.length ≤ 256) (o e : Int) : ∀ n i : Nat, i ≤ c.length → c.length - i < n →
    skywaykeep3_FlowOrders.l0 k (cnts c u, o, e) n ((outw c u : Int) + sC c u i, i) = some (Sum.inl (u.length : Int)) := by
  intro n
  induction n with
  | zero => intro i _ h; omega
  | succ n ih =>
    intro i hi hm
    rw [skywaykeep3_FlowOrders.l0_succ]
    unfold skywaykeep3_FlowOrders.l0b
    dsimp only
    have ht := sC_total c u
    rw [cnts_length]
    by_cases hlt : i < c.length
    · have e0 : decide ((i : Int) < ((c.length : Nat) : Int)) = true := decide_eq_true (by omega)
      have e1 : decide (0 ≤ (i : Int)) = true := decide_eq_true (by omega)
      simp only [e0, e1, Bool.and_self, cond_true, getD_nat]
      have hmn := sC_mono c u (show i + 1 ≤ c.length by omega)
      have hs : sC c u (i + 1) = sC c u i + cnt c i u := rfl
      rw [cnts_get c u hlt, w64_id (n := (i : Int) + 1) (by omega) (by omega), w64_id (by omega) (by omega), show (outw c u : Int) + sC c u i + cnt c i u = (outw c u : Int) + (sC c u (i + 1) : Nat) by omega]
      exact ih (i + 1) (by omega) (by omega)
    · rw [decide_eq_false (p := (i : Int) < ((c.length : Nat) : Int)) (by omega), show i = c.length by omega]
      simp only [cond_false]
      congr 2
      omega

theorem equal_loop (k : Nat) (a : List Int) (hl : a.length ≤ 256) : ∀ n i : Nat, i ≤ a.length → a.length - i < n → slices_Equal_int.l0 k a a n i = some true := by
  intro n
  induction n with
  | zero => intro i _ h; omega
  | succ n ih =>
    intro i hi hm
    rw [slices_Equal_int.l0_succ]
    unfold slices_Equal_int.l0b
    by_cases hlt : i < a.length
    · have e0 : decide ((i : Int) < ((a.length : Nat) : Int)) = true := decide_eq_true (by omega)
      have e1 : decide (0 ≤ (i : Int)) = true := decide_eq_true (by omega)
      simp only [e0, e1, Bool.and_self, cond_true, getD_nat]
      rw [cond_neg (by simp), w64_id (n := (i : Int) + 1) (by omega) (by omega)]
      exact ih (i + 1) (by omega) (by omega)
    · rw [decide_eq_false (p := (i : Int) < ((a.length : Nat) : Int)) (by omega)]
      rfl

theorem equal_refl (k : Nat) (hk : 300 ≤ k) (a : List Int) (hl : a.length ≤ 256) : slices_Equal_int.F k a a = some true := by
  unfold slices_Equal_int.F
  rw [cond_neg (by simp)]
  exact equal_loop k a hl k 0 (by omega) (by omega)

theorem clone_small (k : Nat) (a : List Int) (h : a.length ≤ 17592186044416) : slices_Clone_int.F k a = some a := by
  unfold slices_Clone_int.F
  rw [cond_pos (Nat.ble_eq_true_of_le (by omega)), List.nil_append]

attribute [local irreducible] skywaykeep3_flowFact.F slices_Equal_int.F slices_Clone_int.F skywaykeep3_FlowOrders.l0

theorem orders_nil (k : Nat) (hk : 300 ≤ k) (e : Int) : skywaykeep3_FlowOrders.l0 k ([], 0, e) k (0, 0) = some (Sum.inl 0) := by
  obtain ⟨m, rfl⟩ : ∃ m, k = m + 1 := ⟨k - 1, by omega⟩
  rw [skywaykeep3_FlowOrders.l0_succ]
  rfl

theorem FlowOrders_plain (k : Nat) (hk : 300 ≤ k) (hf : skywaykeep3_flowFact.F k = some true) (c : Cps) (a : List Int) (ha : a.length ≤ 17592186044416) : skywaykeep3_FlowOrders.F k c a = some true := by
  unfold skywaykeep3_FlowOrders.F
  rw [hf]
  simp only [Option.bind_some, Bool.not_true, cond_false]
  rw [clone_small k a ha]
  simp only [Option.bind_some]
  have bad : ∀ e : Int, e ≠ 0 → flow_Demand.F k c a = some ([], 0, e) → flow_Demand.F k c a.reverse = some ([], 0, e) → _ := fun e he h1 h2 => by
    have h := orders_nil k hk e
    have g := equal_refl k hk [] (by simp)
    exact (show ((flow_Demand.F k c a).bind fun r3 => (flow_Demand.F k c a.reverse).bind fun r4 => (skywaykeep3_FlowOrders.l0 k r3 k (r3.2.1, 0)).bind fun y => match y with | Sum.inl x7 => (bif (r3.2.2 == r4.2.2) then some (r3.2.1 == r4.2.1) else some false).bind fun b9 => (bif b9 then (slices_Equal_int.F k r3.1 r4.1).bind fun r10 => some r10 else some false).bind fun b11 => (bif b11 then (bif (r3.2.2 != 0) then some true else some (x7 == ((a.length : Nat) : Int))).bind fun b12 => some b12 else some false).bind fun b13 => some b13 | Sum.inr y8 => some y8) = some true by
      rw [h1, h2]
      simp only [Option.bind_some, h]
      rw [cond_pos (c := e == e) (by simp)]
      simp only [Option.bind_some]
      rw [cond_pos (c := (0 : Int) == 0) (by rfl), g]
      simp only [Option.bind_some, cond_true]
      rw [cond_pos (c := e != 0) (by simpa using he)]
      rfl)
  rcases fcheck_cases k hk c with ⟨_, h⟩ | ⟨⟨e, he, g⟩, _⟩
  · by_cases ht : tmv a = 0
    · have hu : a.length ≤ 256 := by
        unfold tmv at ht
        by_cases g : 256 < a.length
        · rw [if_pos g] at ht; omega
        · omega
      have hl := h.1
      rw [demand_val k hk c h a, demand_val k hk c h a.reverse, tmv_reverse, if_pos ht, if_pos ht, cnts_reverse, outw_reverse]
      simp only [Option.bind_some]
      have h1 := orders_loop k c hl a hu (outw c a) 0 k 0 (by omega) (by omega)
      rw [show (outw c a : Int) + (sC c a 0 : Nat) = outw c a by simp [sC], show ((0 : Nat) : Int) = 0 from rfl] at h1
      rw [h1]
      simp only [Option.bind_some]
      rw [cond_pos (c := (0 : Int) == 0) (by rfl)]
      simp only [Option.bind_some]
      rw [cond_pos (c := (outw c a : Int) == outw c a) (by simp), equal_refl k hk _ (by rw [cnts_length]; exact hl)]
      simp only [Option.bind_some, cond_true]
      rw [cond_neg (c := (0 : Int) != 0) (by rfl)]
      simp
    · refine bad (tmv a) ht ?_ ?_
      · rw [demand_val k hk c h a, if_neg ht]
      · rw [demand_val k hk c h a.reverse, tmv_reverse, if_neg ht]
  · have gd : ∀ u, flow_Demand.F k c u = some ([], 0, e) := fun u => by
      unfold flow_Demand.F
      rw [g]
      simp only [Option.bind_some]
      rw [cond_pos (c := e != 0) (by simpa using he)]
    exact bad e he (gd _) (gd _)

attribute [local irreducible] skywaykeep3_FlowOrders.F
theorem orders_cal (k : Nat) (x : DatPs (skywaykeep3_FlowOrders.C 0).ats) : (skywaykeep3_FlowOrders.C k).F x = skywaykeep3_FlowOrders.F k x.1 x.2 := rfl
theorem FlowOrders_law (x : DatPs (skywaykeep3_FlowOrders.C 0).ats) (hx : FitPs (skywaykeep3_FlowOrders.C 0).ats x) : ∃ k, (skywaykeep3_FlowOrders.C k).F x = some true :=
  ⟨300 + 40, (orders_cal _ x).trans (FlowOrders_plain (300 + 40) (by omega) (ffact 300) x.1 x.2 (by have := hx.2.1; simp only [Ty.low] at this; omega))⟩

end Go.Proofs.Ytdchminahimfhaa.RT
