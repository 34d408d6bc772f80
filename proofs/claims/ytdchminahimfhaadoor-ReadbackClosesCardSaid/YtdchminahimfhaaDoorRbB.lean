/- What is proved here: the plain laws ReadbackCloses and ReadbackWaits. They ask nothing. -/
import Derived.Test.YtdchminahimfhaaDoorRbT
import Derived.Test.YtdchminahimfhaaDoorPlA
import Derived.Test.YtdchminahimfhaaDoorRbA
namespace Go.Proofs.YtdchminahimfhaaDoor.RT
open Go Go.R

attribute [local irreducible] phrase_Check.F readback_Check.F readback_early.F readback_find.F readback_Say.F readback_Hear.F

/-! ### Lists that are looked through -/

noncomputable instance memCl (c : Cl) (l : List Cl) : Decidable (c ∈ l) := Classical.propDecidable _
noncomputable instance memRo (c : Ro) (l : List Ro) : Decidable (c ∈ l) := Classical.propDecidable _

def cl (l : List Cl) (j : Nat) : Cl := l.getD j (ByteArray.empty, (0, (0, ByteArray.empty)))
theorem cl_eq (l : List Cl) (j : Nat) : l.getD j (ByteArray.empty, (0, (0, ByteArray.empty))) = cl l j := rfl

theorem indexc_loop (k : Nat) (l : List Cl) (hl : l.length ≤ 12) (c : Cl) : ∀ n i : Nat, i ≤ l.length → l.length - i < n → ∃ v, slices_Index_api_Clearance.l0 k l c n i = some v ∧ (v ≥ 0 ↔ c ∈ l.drop i) := by
  intro n
  induction n with
  | zero => intro i _ h; omega
  | succ n ih =>
    intro i hi hn
    rw [slices_Index_api_Clearance.l0_succ]
    unfold slices_Index_api_Clearance.l0b
    by_cases hlt : i < l.length
    · have hd := drop_cons hlt ((ByteArray.empty, (0, (0, ByteArray.empty))) : Cl)
      rw [cl_eq] at hd
      rw [decide_eq_true (p := (i : Int) < ((l.length : Nat) : Int)) (by omega), decide_eq_true (p := 0 ≤ (i : Int)) (by omega)]
      simp only [Bool.and_self, cond_true, getD_nat, cl_eq]
      rw [cl_dec, hd]
      by_cases h : c = cl l i
      · rw [decide_eq_true h]
        exact ⟨i, rfl, ⟨fun _ => by rw [h]; simp, fun _ => by omega⟩⟩
      · rw [decide_eq_false h, show w64 ((i : Int) + 1) = ((i + 1 : Nat) : Int) from w64_id (by omega) (by omega)]
        obtain ⟨v, h1, h2⟩ := ih (i + 1) (by omega) (by omega)
        exact ⟨v, h1, h2.trans ⟨fun q => List.mem_cons_of_mem _ q, fun q => (List.mem_cons.1 q).resolve_left h⟩⟩
    · rw [decide_eq_false (p := (i : Int) < ((l.length : Nat) : Int)) (by omega), List.drop_eq_nil_of_le (by omega)]
      exact ⟨-1, rfl, by simp⟩

theorem containsc_eq (k : Nat) (hk : 100 ≤ k) (l : List Cl) (hl : l.length ≤ 12) (c : Cl) : slices_Contains_api_Clearance.F k l c = some (decide (c ∈ l)) := by
  unfold slices_Contains_api_Clearance.F slices_Index_api_Clearance.F
  obtain ⟨v, h1, h2⟩ := indexc_loop k l hl c k 0 (by omega) (by omega)
  rw [show ((0 : Nat) : Int) = 0 from rfl] at h1
  rw [List.drop_zero] at h2
  rw [h1]
  simp only [Option.bind_some]
  congr 1
  exact decide_eq_decide.2 h2

theorem ro_dec (a b : Ro) : (((a.1.1 == b.1.1) && ((a.1.2.1 == b.1.2.1) && ((a.1.2.2.1 == b.1.2.2.1) && (a.1.2.2.2 == b.1.2.2.2)))) && (a.2 == b.2)) = decide (a = b) := by
  rw [cl_dec]
  obtain ⟨a1, a2⟩ := a
  obtain ⟨b1, b2⟩ := b
  dsimp only
  by_cases h1 : a1 = b1
  · by_cases h2 : a2 = b2
    · subst h1; subst h2; simp
    · rw [decide_eq_false (p := (a1, a2) = (b1, b2)) (fun e => h2 (by cases e; rfl)), beq_false_of_ne h2, Bool.and_false]
  · rw [decide_eq_false h1, decide_eq_false (p := (a1, a2) = (b1, b2)) (fun e => h1 (by cases e; rfl)), Bool.false_and]

theorem indexr_loop (k : Nat) (l : List Ro) (hl : l.length ≤ 12) (c : Ro) : ∀ n i : Nat, i ≤ l.length → l.length - i < n → ∃ v, slices_Index_api_ReadbackOpen.l0 k l c n i = some v ∧ (v ≥ 0 ↔ c ∈ l.drop i) := by
  intro n
  induction n with
  | zero => intro i _ h; omega
  | succ n ih =>
    intro i hi hn
    rw [slices_Index_api_ReadbackOpen.l0_succ]
    unfold slices_Index_api_ReadbackOpen.l0b
    by_cases hlt : i < l.length
    · have hd := drop_cons hlt (((ByteArray.empty, (0, (0, ByteArray.empty))), 0) : Ro)
      rw [ro_eq] at hd
      rw [decide_eq_true (p := (i : Int) < ((l.length : Nat) : Int)) (by omega), decide_eq_true (p := 0 ≤ (i : Int)) (by omega)]
      simp only [Bool.and_self, cond_true, getD_nat, ro_eq]
      rw [ro_dec, hd]
      by_cases h : c = ro l i
      · rw [decide_eq_true h]
        exact ⟨i, rfl, ⟨fun _ => by rw [h]; simp, fun _ => by omega⟩⟩
      · rw [decide_eq_false h, show w64 ((i : Int) + 1) = ((i + 1 : Nat) : Int) from w64_id (by omega) (by omega)]
        obtain ⟨v, h1, h2⟩ := ih (i + 1) (by omega) (by omega)
        exact ⟨v, h1, h2.trans ⟨fun q => List.mem_cons_of_mem _ q, fun q => (List.mem_cons.1 q).resolve_left h⟩⟩
    · rw [decide_eq_false (p := (i : Int) < ((l.length : Nat) : Int)) (by omega), List.drop_eq_nil_of_le (by omega)]
      exact ⟨-1, rfl, by simp⟩

theorem containsr_eq (k : Nat) (hk : 100 ≤ k) (l : List Ro) (hl : l.length ≤ 12) (c : Ro) : slices_Contains_api_ReadbackOpen.F k l c = some (decide (c ∈ l)) := by
  unfold slices_Contains_api_ReadbackOpen.F slices_Index_api_ReadbackOpen.F
  obtain ⟨v, h1, h2⟩ := indexr_loop k l hl c k 0 (by omega) (by omega)
  rw [show ((0 : Nat) : Int) = 0 from rfl] at h1
  rw [List.drop_zero] at h2
  rw [h1]
  simp only [Option.bind_some]
  congr 1
  exact decide_eq_decide.2 h2

/-! ### Open clearances of a flight -/

def ofl (b : ByteArray) (l : List Ro) : List Cl := (l.filter fun x => decide (x.1.1 = b)).map (·.1)

theorem ofl_cons (b : ByteArray) (x : Ro) (l : List Ro) : ofl b (x :: l) = if x.1.1 = b then x.1 :: ofl b l else ofl b l := by
  unfold ofl
  by_cases h : x.1.1 = b
  · rw [if_pos h, List.filter_cons_of_pos (by simpa using h), List.map_cons]
  · rw [if_neg h, List.filter_cons_of_neg (by simpa using h)]

theorem of_loop (k : Nat) (l : List Ro) (hl : l.length ≤ 12) (b : ByteArray) : ∀ (n i : Nat) (a : List Cl), i ≤ l.length → l.length - i < n → a.length ≤ i → readback_Of.l0 k l b n ((i : Int), a) = some (a ++ ofl b (l.drop i), 0) := by
  intro n
  induction n with
  | zero => intro i _ _ h; omega
  | succ n ih =>
    intro i a hi hn ha
    rw [readback_Of.l0_succ]
    unfold readback_Of.l0b
    dsimp only
    by_cases hlt : i < l.length
    · have hd := drop_cons hlt (((ByteArray.empty, (0, (0, ByteArray.empty))), 0) : Ro)
      rw [ro_eq] at hd
      rw [decide_eq_true (p := (i : Int) < ((l.length : Nat) : Int)) (by omega), decide_eq_true (p := 0 ≤ (i : Int)) (by omega), show w64 ((i : Int) + 1) = ((i + 1 : Nat) : Int) from w64_id (by omega) (by omega)]
      simp only [Bool.and_self, cond_true, getD_nat, ro_eq]
      rw [ba_dec, hd, ofl_cons]
      by_cases h : (ro l i).1.1 = b
      · rw [decide_eq_true h, if_pos h, Nat.ble_eq_true_of_le (show (a.length + 1) * 48 ≤ 140737488355328 by omega)]
        simp only [cond_true]
        rw [show ((ro l i).1.1, ((ro l i).1.2.1, (ro l i).1.2.2)) = (ro l i).1 from rfl, ih (i + 1) _ (by omega) (by omega) (by simp; omega)]
        simp
      · rw [decide_eq_false h, if_neg h]
        exact ih (i + 1) a (by omega) (by omega) (by omega)
    · rw [decide_eq_false (p := (i : Int) < ((l.length : Nat) : Int)) (by omega), List.drop_eq_nil_of_le (by omega)]
      simp [ofl]

theorem of_eq (k : Nat) (hk : 100 ≤ k) (l : List Ro) (h : RbOk k l) (b : ByteArray) : readback_Of.F k l b = some (ofl b l, 0) := by
  unfold readback_Of.F
  have hlen := h.len
  rw [rcheck_ok k hk l h]
  have := of_loop k l hlen b k 0 [] (by omega) (by omega) (by simp)
  rw [show ((0 : Nat) : Int) = 0 from rfl, List.drop_zero, List.nil_append] at this
  exact this

/-! ### ReadbackCloses -/

theorem pick_ok (k : Nat) (a m : Int) (h0 : 0 < m) (h1 : m ≤ 1000000) : ∃ d, skywaykeep3_pick.F k a m = some d ∧ 0 ≤ d ∧ d < m := by
  unfold skywaykeep3_pick.F
  have e1 : IntKind.u64.wrap m = m := by rw [IntKind.wrap_u64]; omega
  have h2 : IntKind.u64.wrap a = a % 18446744073709551616 := by rw [IntKind.wrap_u64]
  have h3 : 0 ≤ IntKind.u64.wrap a := by omega
  have h4 : Int.tmod (IntKind.u64.wrap a) m = IntKind.u64.wrap a % m := Int.tmod_eq_emod_of_nonneg h3
  have h5 := Int.emod_nonneg (IntKind.u64.wrap a) (show m ≠ 0 by omega)
  have h6 := Int.emod_lt_of_pos (IntKind.u64.wrap a) h0
  rw [e1, cond_pos (by simp; omega), h4, w64_id (by omega) (by omega)]
  exact ⟨_, rfl, h5, h6⟩

theorem ReadbackCloses_plain (k : Nat) (hk : 100 ≤ k) (hf : skywaykeep3_readbackFact.F k = some true) (l : List Ro) (c : Cl) (t p : Int) : skywaykeep3_ReadbackCloses.F k l c t p = some true := by
  unfold skywaykeep3_ReadbackCloses.F
  rw [hf]
  simp only [Option.bind_some, Bool.not_true, cond_false]
  rcases say_cases k hk l c t with ⟨e, he, h⟩ | ⟨hl, hc, ht, hw, h⟩
  · rw [h]
    simp only [Option.bind_some]
    rw [cond_pos (c := e != 0) (by simpa using he)]
    rfl
  rw [h]
  simp only [Option.bind_some]
  rw [cond_neg (c := (0 : Int) != 0) (by rfl)]
  obtain ⟨u, hu, u0, u1⟩ := pick_ok k p 60 (by omega) (by omega)
  rw [hu]
  simp only [Option.bind_some]
  have ht' := ht
  unfold Early at ht'
  obtain ⟨t0, t1, t2⟩ := ht'
  rw [w64_id (n := t + u) (by omega) (by omega), w64_id (n := t + u - t) (by omega) (by omega)]
  by_cases c1 : t + u > 200000
  · rw [cond_pos (decide_eq_true c1)]
  rw [cond_neg (decide_eq_false c1)]
  have hsub := without_sub c l
  have hwok := hl.sub hsub
  have hkey := without_key (c := c) hl
  have hin : ∀ x ∈ without c l, x.2 ≤ t := fun x hx => t2 x (hsub.subset hx)
  generalize without c l = w at *
  have hm : RbOk k (w ++ [(c, t)]) := by
    refine ⟨by simp; omega, fun x hx => ?_, List.pairwise_append.2 ⟨hwok.ord, by simp, fun x hx y hy => ?_⟩, List.pairwise_append.2 ⟨hwok.apart, by simp, fun x hx y hy => ?_⟩⟩
    · rcases List.mem_append.1 hx with hx | hx
      · exact hwok.each x hx
      · rw [List.mem_singleton.1 hx]; exact ⟨hc, t0, t1⟩
    · rw [List.mem_singleton.1 hy]; exact hin x hx
    · rw [List.mem_singleton.1 hy]; exact hkey x hx
  have he : Early (w ++ [(c, t)]) (t + u) := ⟨by omega, by omega, fun x hx => by
    rcases List.mem_append.1 hx with hx | hx
    · have := hin x hx; omega
    · rw [List.mem_singleton.1 hx]; simp only; omega⟩
  have hro : ro (w ++ [(c, t)]) w.length = (c, t) := by unfold ro; simp [List.getD]
  have hfi : fi c (w ++ [(c, t)]) = w.length := by
    refine fi_some (by simp) (by rw [hro]; exact ⟨rfl, rfl⟩) fun i hi => ?_
    have e : ro (w ++ [(c, t)]) i = ro w i := by
      unfold ro
      rw [List.getD_eq_getElem?_getD, List.getElem?_append_left hi, ← List.getD_eq_getElem?_getD]
    rw [e]
    exact hkey _ (ro_mem hi)
  rw [hear_eq k hk _ c _ hm hc he, hfi, if_pos (by simp), hro]
  simp only [Option.bind_some]
  by_cases c2 : t + u - t > 40
  · rw [if_pos c2, cond_pos (decide_eq_true c2)]
    rfl
  · rw [if_neg c2, if_pos trivial, cond_neg (decide_eq_false c2)]
    have e1 : (w ++ [(c, t)]).take w.length ++ (w ++ [(c, t)]).drop (w.length + 1) = w := by simp
    simp only
    rw [e1]
    have he2 : Early w (t + u) := ⟨by omega, by omega, fun x hx => by have := hin x hx; omega⟩
    rw [hear_eq k hk w c _ hwok hc he2, fi_none hkey, if_neg (by omega), of_eq k hk w hwok]
    simp only [Option.bind_some]
    rw [containsc_eq k hk (ofl c.1 w) (by
      unfold ofl
      rw [List.length_map]
      have := List.length_filter_le (fun x : Ro => decide (x.1.1 = c.1)) w
      omega) c]
    have hno : ¬ c ∈ ofl c.1 w := fun hmem => by
      unfold ofl at hmem
      obtain ⟨x, hx, ex⟩ := List.mem_map.1 hmem
      have := hkey x (List.mem_filter.1 hx).1
      rw [ex] at this
      exact this ⟨rfl, rfl⟩
    rw [decide_eq_false hno, w64_id (n := (((w ++ [(c, t)]).length : Nat) : Int) - 1) (by simp) (by simp; omega)]
    simp

/-! ### ReadbackWaits -/

def late (t : Int) (x : Ro) : Bool := decide (t - x.2 > 40)

theorem lapse_loop (k : Nat) (l : List Ro) (h : RbOk k l) (t : Int) (ht : Early l t) : ∀ (n i : Nat) (a : List Ro) (b : List Cl), i ≤ l.length → l.length - i < n → a.length ≤ i → b.length ≤ i →
    readback_Lapse.l0 k l t n ((i : Int), a, b) = some (a ++ (l.drop i).filter (fun x => !late t x), b ++ ((l.drop i).filter (late t)).map (·.1), 0) := by
  intro n
  induction n with
  | zero => intro i _ _ _ h; omega
  | succ n ih =>
    intro i a b hi hn ha hb
    have hlen := h.len
    rw [readback_Lapse.l0_succ]
    unfold readback_Lapse.l0b
    dsimp only
    by_cases hlt : i < l.length
    · have hd := drop_cons hlt (((ByteArray.empty, (0, (0, ByteArray.empty))), 0) : Ro)
      rw [ro_eq] at hd
      rw [decide_eq_true (p := (i : Int) < ((l.length : Nat) : Int)) (by omega), decide_eq_true (p := 0 ≤ (i : Int)) (by omega), show w64 ((i : Int) + 1) = ((i + 1 : Nat) : Int) from w64_id (by omega) (by omega)]
      simp only [Bool.and_self, cond_true, getD_nat, ro_eq]
      have h1 := (h.each _ (ro_mem hlt)).time
      have h2 := ht
      unfold Early at h2
      rw [w64_id (n := t - (ro l i).2) (by omega) (by omega), hd]
      by_cases c1 : t - (ro l i).2 > 40
      · have hl : late t (ro l i) = true := decide_eq_true c1
        rw [decide_eq_true c1, List.filter_cons_of_neg (by simp [hl]), List.filter_cons_of_pos hl, Nat.ble_eq_true_of_le (show (b.length + 1) * 48 ≤ 140737488355328 by omega)]
        simp only [cond_true]
        rw [show ((ro l i).1.1, ((ro l i).1.2.1, (ro l i).1.2.2)) = (ro l i).1 from rfl, ih (i + 1) _ _ (by omega) (by omega) (by omega) (by simp; omega)]
        simp
      · have hl : late t (ro l i) = false := decide_eq_false c1
        rw [decide_eq_false c1, List.filter_cons_of_pos (by simp [hl]), List.filter_cons_of_neg (by simp [hl]), Nat.ble_eq_true_of_le (show (a.length + 1) * 56 ≤ 140737488355328 by omega)]
        simp only [cond_true, cond_false]
        rw [show (((ro l i).1.1, ((ro l i).1.2.1, (ro l i).1.2.2)), (ro l i).2) = ro l i from rfl, ih (i + 1) _ _ (by omega) (by omega) (by simp; omega) (by omega)]
        simp
    · rw [decide_eq_false (p := (i : Int) < ((l.length : Nat) : Int)) (by omega), List.drop_eq_nil_of_le (by omega)]
      simp

theorem lapse_cases (k : Nat) (hk : 100 ≤ k) (l : List Ro) (t : Int) : (∃ e, e ≠ 0 ∧ readback_Lapse.F k l t = some ([], [], e)) ∨
    (RbOk k l ∧ Early l t ∧ readback_Lapse.F k l t = some (l.filter (fun x => !late t x), (l.filter (late t)).map (·.1), 0)) := by
  unfold readback_Lapse.F
  obtain ⟨e1, h1, g1⟩ := rcheck_eq k hk l
  rw [h1]
  simp only [Option.bind_some]
  by_cases z1 : e1 ≠ 0
  · rw [cond_pos (c := e1 != 0) (by simpa using z1)]
    exact .inl ⟨e1, z1, rfl⟩
  replace z1 := Decidable.not_not.1 z1
  subst z1
  have hl := g1.1 rfl
  have hlen := hl.len
  rw [cond_neg (c := (0 : Int) != 0) (by rfl)]
  obtain ⟨e3, h3, g3⟩ := early_eq k hl t
  rw [h3]
  simp only [Option.bind_some]
  by_cases z3 : e3 ≠ 0
  · rw [cond_pos (c := e3 != 0) (by simpa using z3)]
    exact .inl ⟨e3, z3, rfl⟩
  replace z3 := Decidable.not_not.1 z3
  subst z3
  rw [cond_neg (c := (0 : Int) != 0) (by rfl)]
  have := lapse_loop k l hl t (g3.1 rfl) k 0 [] [] (by omega) (by omega) (by simp) (by simp)
  rw [show ((0 : Nat) : Int) = 0 from rfl, List.drop_zero, List.nil_append, List.nil_append] at this
  exact .inr ⟨hl, g3.1 rfl, this⟩

theorem filter_sum (p : Ro → Bool) : ∀ l : List Ro, (l.filter fun x => !p x).length + (l.filter p).length = l.length
  | [] => rfl
  | x :: l => by
    have := filter_sum p l
    cases h : p x with
    | true => rw [List.filter_cons_of_neg (by simp [h]), List.filter_cons_of_pos h, List.length_cons, List.length_cons]; omega
    | false => rw [List.filter_cons_of_pos (by simp [h]), List.filter_cons_of_neg (by simp [h]), List.length_cons, List.length_cons]; omega

theorem key_uniq {k : Nat} {l : List Ro} (h : RbOk k l) {i j : Nat} (hi : i < l.length) (hj : j < l.length) (hk : Key (ro l i).1 (ro l j).1) : i = j := by
  have ap : ∀ a b, a < b → b < l.length → ¬ Key (ro l a).1 (ro l b).1 := fun a b hab hb => by
    have := List.pairwise_iff_getElem.1 h.apart a b (by omega) hb hab
    unfold ro
    rwa [getD_get _ hb, getD_get _ (show a < l.length by omega)]
  rcases Nat.lt_trichotomy i j with g | g | g
  · exact absurd hk (ap i j g hj)
  · exact g
  · exact absurd hk.symm (ap j i g hi)

theorem waits_loop (k : Nat) (hk : 100 ≤ k) (l : List Ro) (h : RbOk k l) (t : Int) (ht : Early l t) : ∀ n i : Nat, i ≤ l.length → l.length - i < n →
    skywaykeep3_ReadbackWaits.l0 k l t (l.filter (fun x => !late t x), (l.filter (late t)).map (·.1), 0) n i = some true := by
  intro n
  induction n with
  | zero => intro i _ h; omega
  | succ n ih =>
    intro i hi hn
    have hlen := h.len
    rw [skywaykeep3_ReadbackWaits.l0_succ]
    unfold skywaykeep3_ReadbackWaits.l0b
    dsimp only
    by_cases hlt : i < l.length
    · rw [decide_eq_true (p := (i : Int) < ((l.length : Nat) : Int)) (by omega), decide_eq_true (p := 0 ≤ (i : Int)) (by omega), show w64 ((i : Int) + 1) = ((i + 1 : Nat) : Int) from w64_id (by omega) (by omega)]
      simp only [Bool.and_self, cond_true, getD_nat, ro_eq]
      rw [show ((ro l i).1.1, ((ro l i).1.2.1, (ro l i).1.2.2)) = (ro l i).1 from rfl, show ((ro l i).1, (ro l i).2) = ro l i from rfl]
      have hmem := ro_mem hlt
      have hfi : fi (ro l i).1 l = i := fi_some hlt ⟨rfl, rfl⟩ fun j hj hkey => by
        have := key_uniq h (show j < l.length by omega) hlt hkey
        omega
      have l1 : (l.filter fun x => !late t x).length ≤ 12 := Nat.le_trans (List.length_filter_le _ _) hlen
      have l2 : ((l.filter (late t)).map (·.1)).length ≤ 12 := by rw [List.length_map]; exact Nat.le_trans (List.length_filter_le _ _) hlen
      rw [hear_eq k hk l _ t h (h.each _ hmem).chk ht, hfi, if_pos hlt, if_pos rfl, containsr_eq k hk _ l1, containsc_eq k hk _ l2]
      simp only [Option.bind_some]
      have m1 : ro l i ∈ (l.filter fun x => !late t x) ↔ late t (ro l i) = false := by
        rw [List.mem_filter]
        constructor
        · rintro ⟨_, q⟩; simpa using q
        · intro q; exact ⟨hmem, by simpa using q⟩
      have m2 : (ro l i).1 ∈ (l.filter (late t)).map (·.1) ↔ late t (ro l i) = true := by
        rw [List.mem_map]
        constructor
        · rintro ⟨y, hy, ey⟩
          obtain ⟨hy1, hy2⟩ := List.mem_filter.1 hy
          obtain ⟨j, hj, ej⟩ := ro_of hy1
          have : j = i := key_uniq h hj hlt (by rw [ej, ey]; exact ⟨rfl, rfl⟩)
          subst this
          rw [ej]; exact hy2
        · intro q; exact ⟨ro l i, List.mem_filter.2 ⟨hmem, q⟩, rfl⟩
      by_cases c1 : t - (ro l i).2 > 40
      · have hl : late t (ro l i) = true := decide_eq_true c1
        rw [if_pos c1, decide_eq_false (p := ro l i ∈ (l.filter fun x => !late t x)) (fun q => by have := m1.1 q; rw [hl] at this; cases this), decide_eq_true (p := (ro l i).1 ∈ (l.filter (late t)).map (·.1)) (m2.2 hl)]
        exact ih (i + 1) (by omega) (by omega)
      · have hl : late t (ro l i) = false := decide_eq_false c1
        rw [if_neg c1, decide_eq_true (p := ro l i ∈ (l.filter fun x => !late t x)) (m1.2 hl), decide_eq_false (p := (ro l i).1 ∈ (l.filter (late t)).map (·.1)) (fun q => by have := m2.1 q; rw [hl] at this; cases this)]
        exact ih (i + 1) (by omega) (by omega)
    · rw [decide_eq_false (p := (i : Int) < ((l.length : Nat) : Int)) (by omega)]
      rfl

theorem ReadbackWaits_plain (k : Nat) (hk : 100 ≤ k) (hf : skywaykeep3_readbackFact.F k = some true) (l : List Ro) (t : Int) : skywaykeep3_ReadbackWaits.F k l t = some true := by
  unfold skywaykeep3_ReadbackWaits.F
  rw [hf]
  simp only [Option.bind_some, Bool.not_true, cond_false]
  rcases lapse_cases k hk l t with ⟨e, he, h⟩ | ⟨hl, ht, h⟩
  · rw [h]
    simp only [Option.bind_some]
    rw [cond_pos (c := e != 0) (by simpa using he)]
    rfl
  rw [h]
  simp only [Option.bind_some]
  have hlen := hl.len
  have hs := filter_sum (late t) l
  rw [cond_neg (c := (0 : Int) != 0) (by rfl), List.length_map, w64_id (by omega) (by omega), cond_neg (c := _ != ((l.length : Nat) : Int)) (by simp; omega)]
  have := waits_loop k hk l hl t ht k 0 (by omega) (by omega)
  exact this

theorem rbfact (m : Nat) : skywaykeep3_readbackFact.F (m + 100) = some true := by kernel_rfl

attribute [local irreducible] skywaykeep3_ReadbackCloses.F skywaykeep3_ReadbackWaits.F
theorem closes_cal (k : Nat) (x : DatPs (skywaykeep3_ReadbackCloses.C 0).ats) : (skywaykeep3_ReadbackCloses.C k).F x = skywaykeep3_ReadbackCloses.F k x.1 x.2.1 x.2.2.1 x.2.2.2 := rfl
theorem ReadbackCloses_law (x : DatPs (skywaykeep3_ReadbackCloses.C 0).ats) (_ : FitPs (skywaykeep3_ReadbackCloses.C 0).ats x) : ∃ k, (skywaykeep3_ReadbackCloses.C k).F x = some true :=
  ⟨100 + 100, (closes_cal _ x).trans (ReadbackCloses_plain (100 + 100) (by omega) (rbfact 100) x.1 x.2.1 x.2.2.1 x.2.2.2)⟩
theorem waits_cal (k : Nat) (x : DatPs (skywaykeep3_ReadbackWaits.C 0).ats) : (skywaykeep3_ReadbackWaits.C k).F x = skywaykeep3_ReadbackWaits.F k x.1 x.2 := rfl
theorem ReadbackWaits_law (x : DatPs (skywaykeep3_ReadbackWaits.C 0).ats) (_ : FitPs (skywaykeep3_ReadbackWaits.C 0).ats x) : ∃ k, (skywaykeep3_ReadbackWaits.C k).F x = some true :=
  ⟨100 + 100, (waits_cal _ x).trans (ReadbackWaits_plain (100 + 100) (by omega) (rbfact 100) x.1 x.2)⟩

end Go.Proofs.YtdchminahimfhaaDoor.RT
