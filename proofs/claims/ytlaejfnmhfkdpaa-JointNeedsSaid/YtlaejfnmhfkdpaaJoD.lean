/- What is proved here: what the best choice is; the plain law JointMore. They ask nothing. -/
import Derived.Test.YtlaejfnmhfkdpaaJoT
import Derived.Test.YtlaejfnmhfkdpaaPlA
import Derived.Test.YtlaejfnmhfkdpaaJoC
namespace Go.Proofs.Ytlaejfnmhfkdpaa.RT
open Go Go.R

attribute [local irreducible] tube_Check.F tube_at.F plane_Check.F tube_Point.F skywaykeep3_small.F plane_Distance.F probe_pair.F probe_Pair.F joint_Check.F joint_both.F joint_table.F joint_clashes_with.F joint_search_step.F

/-! ### Few combinations -/

theorem small1 (k : Nat) (hk : 100 ≤ k) (t : List Nd) : ∃ r, skywaykeep3_small.F k [t] 1 100 = some r ∧ (r = true → TubeOk t ∧ tl t - tm t 0 ≤ 100) := by
  obtain ⟨r, h1, h2⟩ := small_eq k hk [t] 1 100 (by omega)
  exact ⟨r, h1, fun h => (h2.1 h).2 t (List.mem_singleton.2 rfl)⟩

theorem few0_loop (k : Nat) (hk : 100 ≤ k) (hk2 : k ≤ 4611686018427387904) (l : List (List Opn)) (x1 : Int × Int) (b : Nat) (hb : x1.2 = b) (hl : (ops l b).length < k) : ∀ n i : Nat, i ≤ (ops l b).length → (ops l b).length - i < n →
    skywaykeep3_few.l0 k l x1 n i = some (.inr false) ∨ (skywaykeep3_few.l0 k l x1 n i = some (.inl ()) ∧ ∀ j, i ≤ j → j < (ops l b).length → TubeOk (opt l b j).2 ∧ tl (opt l b j).2 - tm (opt l b j).2 0 ≤ 100) := by
  intro n
  induction n with
  | zero => intro i _ h; omega
  | succ n ih =>
    intro i hi hn
    rw [skywaykeep3_few.l0_succ]
    unfold skywaykeep3_few.l0b
    have hB : l.getD x1.2.toNat [] = ops l b := by rw [hb]; simp [ops]
    rw [hB]
    by_cases hlt : i < (ops l b).length
    · rw [decide_eq_true (p := (i : Int) < (((ops l b).length : Nat) : Int)) (by omega), decide_eq_true (p := 0 ≤ (i : Int)) (by omega), show w64 ((i : Int) + 1) = ((i + 1 : Nat) : Int) from w64_id (by omega) (by omega), getD_nat]
      simp only [Bool.and_self, cond_true]
      have hO : (ops l b).getD i (0, []) = opt l b i := rfl
      rw [hO]
      obtain ⟨r, hr, hok⟩ := small1 k hk (opt l b i).2
      rw [hr]
      simp only [Option.bind_some]
      cases r with
      | false => exact .inl rfl
      | true =>
        simp only [Bool.not_true, cond_false]
        rcases ih (i + 1) (by omega) (by omega) with h | ⟨h1, h2⟩
        · exact .inl h
        · refine .inr ⟨h1, fun j hj hj' => ?_⟩
          by_cases ej : j = i
          · subst ej; exact hok rfl
          · exact h2 j (by omega) hj'
    · rw [decide_eq_false (p := (i : Int) < (((ops l b).length : Nat) : Int)) (by omega)]
      exact .inr ⟨rfl, fun j h1 h2 => by omega⟩

theorem mx_one (z : Nat) : ∃ m : Nat, mx 1 (mn (z : Int) 9) = m ∧ 1 ≤ m ∧ m ≤ 9 ∧ (1 ≤ z → z ≤ 8 → m = z) := by
  refine ⟨(mx 1 (mn (z : Int) 9)).toNat, ?_, ?_, ?_, ?_⟩ <;> (unfold mx mn; split <;> split <;> omega)

theorem few1_loop (k : Nat) (hk : 100 ≤ k) (hk2 : k ≤ 4611686018427387904) (l : List (List Opn)) (hl : l.length < k) (ho : ∀ o ∈ l, o.length < k) : ∀ n b m : Nat, 1 ≤ m → m ≤ 200 → b ≤ l.length → l.length - b < n →
    ∃ r, skywaykeep3_few.l1 k l n ((m : Int), (b : Int)) = some r ∧ (r = true → (LOk l → m * prd l b ≤ 200) ∧ ∀ q, b ≤ q → q < l.length → ∀ j, j < (ops l q).length → TubeOk (opt l q j).2 ∧ tl (opt l q j).2 - tm (opt l q j).2 0 ≤ 100) := by
  intro n
  induction n with
  | zero => intro b m _ _ _ h; omega
  | succ n ih =>
    intro b m m0 m1 hb hn
    rw [skywaykeep3_few.l1_succ]
    unfold skywaykeep3_few.l1b
    dsimp only
    by_cases hlt : b < l.length
    · have hB : l.getD ((b : Int)).toNat [] = ops l b := by simp [ops]
      rw [hB, decide_eq_true (p := (b : Int) < ((l.length : Nat) : Int)) (by omega), decide_eq_true (p := 0 ≤ (b : Int)) (by omega)]
      simp only [Bool.and_self, cond_true]
      rcases few0_loop k hk hk2 l ((m : Int), (b : Int)) b rfl (ho _ (ops_mem hlt)) k 0 (by omega) (by have := ho _ (ops_mem hlt); omega) with h | ⟨h, hok⟩
      · rw [show skywaykeep3_few.l0 k l ((m : Int), (b : Int)) k 0 = some (.inr false) from h]
        exact ⟨false, rfl, fun h => by cases h⟩
      · rw [show skywaykeep3_few.l0 k l ((m : Int), (b : Int)) k 0 = some (.inl ()) from h]
        simp only [Option.bind_some]
        obtain ⟨z, hz, z0, z1, z2⟩ := mx_one (ops l b).length
        have hm : m * z ≤ 200 * 9 := Nat.mul_le_mul m1 z1
        have hm1 : 1 * 1 ≤ m * z := Nat.mul_le_mul m0 z0
        rw [hz, ← Int.natCast_mul, w64_id (n := ((m * z : Nat) : Int)) (by omega) (by omega), show w64 ((b : Int) + 1) = ((b + 1 : Nat) : Int) from w64_id (by omega) (by omega)]
        by_cases hc : m * z > 200
        · rw [decide_eq_true (p := ((m * z : Nat) : Int) > 200) (by omega)]
          exact ⟨false, rfl, fun h => by cases h⟩
        · rw [decide_eq_false (p := ((m * z : Nat) : Int) > 200) (by omega)]
          obtain ⟨r, hr, hq⟩ := ih (b + 1) (m * z) (by omega) (by omega) (by omega) (by omega)
          refine ⟨r, hr, fun h0 => ⟨fun hl' => ?_, fun q h1 h2 => ?_⟩⟩
          · have h5 := (hq h0).1 hl'
            have hon := hl'.one _ (ops_mem hlt)
            rw [prd_succ hlt, ← z2 hon.1 hon.2, ← Nat.mul_assoc]
            exact h5
          by_cases eq : q = b
          · subst eq; exact fun j hj => hok j (by omega) hj
          · exact (hq h0).2 q (by omega) h2
    · rw [decide_eq_false (p := (b : Int) < ((l.length : Nat) : Int)) (by omega)]
      refine ⟨true, rfl, fun _ => ⟨fun _ => ?_, fun q h1 h2 => by omega⟩⟩
      have : prd l b = 1 := by
        unfold prd
        rw [List.drop_eq_nil_of_le (by omega)]
        rfl
      rw [this]
      omega

/-- Short tubes. -/
def Sh (l : List (List Opn)) : Prop := ∀ o ∈ l, ∀ x ∈ o, TubeOk x.2 ∧ tl x.2 - tm x.2 0 ≤ 100

theorem few_eq (k : Nat) (hk : 100 ≤ k) (hk2 : k ≤ 4611686018427387904) (l : List (List Opn)) (hl : l.length < k) (ho : ∀ o ∈ l, o.length < k) : ∃ r, skywaykeep3_few.F k l = some r ∧ (r = true → Sh l) ∧ (r = true → LOk l → prd l 0 ≤ 200) := by
  unfold skywaykeep3_few.F
  obtain ⟨r, hr, h⟩ := few1_loop k hk hk2 l hl ho k 0 1 (by omega) (by omega) (by omega) (by omega)
  refine ⟨r, hr, fun h0 o hom x hx => ?_, fun h0 hl' => by simpa using (h h0).1 hl'⟩
  obtain ⟨b, hb, rfl⟩ := List.mem_iff_getElem.1 hom
  obtain ⟨j, hj, rfl⟩ := List.mem_iff_getElem.1 hx
  have e : ops l b = l[b] := by simp [ops, List.getD, hb]
  have e2 : opt l b j = (l[b])[j] := by simp [opt, e, List.getD, hj]
  rw [← e2]
  exact (h h0).2 b (by omega) hb j (by rw [e]; exact hj)

theorem Sh.lsm {l : List (List Opn)} (h : Sh l) : LSm l := fun o ho x hx => by have := (h o ho x hx).2; omega

attribute [local irreducible] skywaykeep3_few.F

/-! ### The best choice -/

/-- What the best choice is. -/
inductive BestIs (k : Nat) (s : Int × Int) (l : List (List Opn)) : List Int → Int → Int → Prop
  | bad {e : Int} : joint_both.F k l s = some e → e ≠ 0 → BestIs k s l [] 0 e
  | none : joint_both.F k l s = some 0 → LOk l → probe_CheckSep.F k s = some 0 → l = [] → BestIs k s l [] 0 0
  | clash : joint_both.F k l s = some 0 → LOk l → probe_CheckSep.F k s = some 0 → 0 < l.length → (∀ d, ¬ Whole k s l d) → BestIs k s l [] 0 8
  | free {b : List Int} : joint_both.F k l s = some 0 → LOk l → probe_CheckSep.F k s = some 0 → 0 < l.length → Whole k s l b → (∀ d, Whole k s l d → cst l b ≤ cst l d) → BestIs k s l b (cst l b) 0

theorem best_eq (k : Nat) (hk : 1000 ≤ k) (s : Int × Int) {l : List (List Opn)} (hsm : LSm l) : ∃ b c e, joint_Best.F k l s = some (b, c, e) ∧ BestIs k s l b c e := by
  unfold joint_Best.F
  obtain ⟨e, hb, hok⟩ := jboth_eq k (by omega) l s
  rw [hb]
  simp only [Option.bind_some]
  by_cases e0 : e = 0
  · subst e0
    obtain ⟨hl, hs⟩ := hok rfl
    rw [cond_neg (c := (0 : Int) != 0) (by rfl)]
    by_cases h0 : l.length = 0
    · rw [cond_pos (c := (((l.length : Nat) : Int) == 0)) (by simp [h0])]
      exact ⟨[], 0, 0, rfl, .none hb hl hs (List.eq_nil_of_length_eq_zero h0)⟩
    · rw [cond_neg (c := (((l.length : Nat) : Int) == 0)) (by simpa using h0), table_eq k hk s hs hl hsm]
      simp only [Option.bind_some]
      have h6 := hl.len
      obtain ⟨b, c, h1, h2, h3⟩ := search_ok k s hl (by omega) k [] [] 0 ⟨by simp, by simp, by simp⟩ (fun a ha => by simp at ha) (by simp; omega) (.inl rfl)
      rw [show cst l [] = 0 from rfl] at h1
      rw [h1]
      simp only [Option.bind_some]
      rcases h2.held with rfl | ⟨hw, rfl⟩
      · refine ⟨[], 0, 8, rfl, .clash hb hl hs (by omega) fun d hd => ?_⟩
        exact (h3 d (by simpa using hd)).1 rfl
      · have hne : b ≠ [] := fun e => by have := hw.all; rw [e] at this; simp at this; omega
        have hem : List.isEmpty b = false := by
          cases b with
          | nil => exact absurd rfl hne
          | cons _ _ => rfl
        rw [hem]
        exact ⟨b, cst l b, 0, rfl, .free hb hl hs (by omega) hw fun d hd => (h3 d (by simpa using hd)).2⟩
  · rw [cond_pos (c := e != 0) (by simpa using e0)]
    exact ⟨[], 0, e, rfl, .bad hb e0⟩

attribute [local irreducible] joint_Best.F

/-! ### One option more -/

/-- One more option for flight i. -/
def more (l : List (List Opn)) (i : Nat) (o : Opn) : List (List Opn) := l.set i (ops l i ++ [o])

theorem more_len {l : List (List Opn)} {i : Nat} {o : Opn} : (more l i o).length = l.length := by simp [more]
theorem more_ops {l : List (List Opn)} {i : Nat} {o : Opn} (hi : i < l.length) (j : Nat) : ops (more l i o) j = if j = i then ops l i ++ [o] else ops l j := by
  unfold ops more
  by_cases e : j = i
  · subst e
    simp [List.getD, hi, ops]
  · rw [if_neg e]
    simp [List.getD, Ne.symm e]

theorem more_opt {l : List (List Opn)} {i : Nat} {o : Opn} (hi : i < l.length) {j q : Nat} (hq : q < (ops l j).length) : opt (more l i o) j q = opt l j q ∧ q < (ops (more l i o) j).length := by
  unfold opt
  rw [more_ops hi]
  by_cases e : j = i
  · subst e
    rw [if_pos rfl]
    refine ⟨by simp [List.getD, List.getElem?_append_left hq], by simp; omega⟩
  · rw [if_neg e]
    exact ⟨rfl, hq⟩

theorem more_whole {k : Nat} {s : Int × Int} {l : List (List Opn)} {i : Nat} {o : Opn} (hi : i < l.length) {d : List Int} (h : Whole k s l d) : Whole k s (more l i o) d ∧ cst (more l i o) d = cst l d := by
  have hc : ∀ j, j < d.length → cop (more l i o) d j = cop l d j := fun j hj => (more_opt hi (h.inr.co hj).2).1
  refine ⟨⟨⟨by rw [more_len]; exact h.inr.len, h.inr.low, fun j hj => ?_⟩, by rw [more_len]; exact h.all, fun a ha b hb => ?_⟩, ?_⟩
  · obtain ⟨e1, e2⟩ := h.inr.co hj
    have := (more_opt (o := o) hi e2).2
    omega
  · rw [hc a ha, hc b (by omega)]
    exact h.free a ha b hb
  · unfold cst
    congr 1
    exact List.map_congr_left fun j hj => by rw [hc j (List.mem_range.1 hj)]

theorem jpick (k : Nat) (a m : Int) (h0 : 0 < m) (h1 : m ≤ 140737488355328) : ∃ d, skywaykeep3_pick.F k a m = some d ∧ 0 ≤ d ∧ d < m := by
  unfold skywaykeep3_pick.F
  have e1 : IntKind.u64.wrap m = m := by rw [IntKind.wrap_u64]; omega
  have h2 : IntKind.u64.wrap a = a % 18446744073709551616 := by rw [IntKind.wrap_u64]
  have h3 : 0 ≤ IntKind.u64.wrap a := by omega
  have h4 : Int.tmod (IntKind.u64.wrap a) m = IntKind.u64.wrap a % m := Int.tmod_eq_emod_of_nonneg h3
  have h5 := Int.emod_nonneg (IntKind.u64.wrap a) (show m ≠ 0 by omega)
  have h6 := Int.emod_lt_of_pos (IntKind.u64.wrap a) h0
  rw [e1, cond_pos (by simp; omega), h4, w64_id (by omega) (by omega)]
  exact ⟨_, rfl, h5, h6⟩

attribute [local irreducible] skywaykeep3_pick.F

theorem JointMore_plain (k : Nat) (hk : 1000 ≤ k) (hk2 : k ≤ 4611686018427387904) (hf : skywaykeep3_jointFact.F k = some true) (l : List (List Opn)) (s : Int × Int) (o : Opn) (i : Int) (hl : l.length < k) (ho : ∀ o ∈ l, o.length < k)
    (f1 : l.length * 24 ≤ 140737488351232) (f2 : ∀ o ∈ l, o.length * 32 ≤ 140737488351232) : skywaykeep3_JointMore.F k l s o i = some true := by
  unfold skywaykeep3_JointMore.F
  rw [hf]
  simp only [Option.bind_some, Bool.not_true, cond_false]
  obtain ⟨r, hr, hsh, _⟩ := few_eq k (by omega) hk2 l hl ho
  rw [hr]
  simp only [Option.bind_some]
  cases r with
  | false => rfl
  | true =>
    have hsh := hsh rfl
    simp only [Bool.not_true, cond_false, Option.bind_some]
    by_cases h0 : l.length = 0
    · rw [show (((l.length : Nat) : Int) == 0) = true by simp [h0]]
      rfl
    rw [show (((l.length : Nat) : Int) == 0) = false by simpa using h0]
    simp only [cond_false]
    obtain ⟨r4, h4, ho4⟩ := small1 k (by omega) o.2
    rw [h4]
    simp only [Option.bind_some]
    cases r4 with
    | false => rfl
    | true =>
      have ho4 := ho4 rfl
      simp only [Bool.not_true, cond_false]
      obtain ⟨b, c, e, hb, hbi⟩ := best_eq k hk s hsh.lsm
      rw [hb]
      simp only [Option.bind_some]
      have hc1 : slices_Clone_api_JointOption_16.F k l = some l := by
        unfold slices_Clone_api_JointOption_16.F
        rw [Nat.zero_add, Nat.ble_eq_true_of_le (by omega)]
        rfl
      rw [hc1]
      simp only [Option.bind_some]
      obtain ⟨d, hd, d0, d1⟩ := jpick k i ((l.length : Nat) : Int) (by omega) (by omega)
      rw [hd]
      simp only [Option.bind_some]
      obtain ⟨q, rfl⟩ : ∃ q : Nat, d = q := ⟨d.toNat, by omega⟩
      have hq : q < l.length := by omega
      rw [decide_eq_true d0, decide_eq_true d1]
      simp only [Bool.and_self, cond_true, Int.toNat_natCast]
      have hom : ops l q ∈ l := ops_mem hq
      have hB : l.getD q [] = ops l q := rfl
      have hc2 : slices_Clone_api_JointOption_18.F k (ops l q) = some (ops l q) := by
        unfold slices_Clone_api_JointOption_18.F
        have := f2 _ hom
        rw [Nat.zero_add, Nat.ble_eq_true_of_le (by omega)]
        rfl
      rw [hB, hc2]
      simp only [Option.bind_some]
      rw [Nat.ble_eq_true_of_le (show ((ops l q).length + 1) * 32 ≤ 140737488355328 by have := f2 _ hom; omega), cond_true]
      change ((joint_Best.F k (more l q o) s).bind _) = _
      have hsm' : LSm (more l q o) := fun x hx y hy => by
        obtain ⟨j, hj, e⟩ := List.mem_iff_getElem.1 hx
        have hj' : j < l.length := by rw [more_len] at hj; exact hj
        have ex : ops (more l q o) j = x := by simp [ops, List.getD, hj, e]
        rw [more_ops hq] at ex
        by_cases ej : j = q
        · rw [if_pos ej] at ex
          rw [← ex] at hy
          rcases List.mem_append.1 hy with hy | hy
          · exact hsh.lsm _ hom y hy
          · obtain rfl := List.mem_singleton.1 hy
            have := ho4.2
            omega
        · rw [if_neg ej] at ex
          rw [← ex] at hy
          exact hsh.lsm _ (ops_mem hj') y hy
      obtain ⟨b', c', e', hb', hbi'⟩ := best_eq k hk s hsm'
      rw [hb']
      simp only [Option.bind_some]
      by_cases e0 : e = 0
      · rw [show (e != 0) = false by simp [e0]]
        simp only [cond_false, Option.bind_some]
        by_cases e1 : e' = 0
        · rw [show (e' != 0) = false by simp [e1]]
          simp only [cond_false, Option.bind_some]
          have hle : c' ≤ c := by
            cases hbi with
            | bad _ hne => exact absurd e0 hne
            | none _ _ _ hn => rw [hn] at h0; simp at h0
            | clash => cases e0
            | free _ _ _ _ hw _ =>
              obtain ⟨w1, w2⟩ := more_whole (o := o) hq hw
              cases hbi' with
              | bad _ hne => exact absurd e1 hne
              | none _ _ _ hn => have := more_len (l := l) (i := q) (o := o); rw [hn] at this; simp at this; omega
              | clash => cases e1
              | free _ _ _ _ _ hmin => rw [← w2]; exact hmin _ w1
          rw [decide_eq_true hle]
        · rw [show (e' != 0) = true by simpa using e1]
          rfl
      · rw [show (e != 0) = true by simpa using e0]
        rfl

end Go.Proofs.Ytlaejfnmhfkdpaa.RT
