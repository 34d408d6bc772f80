/- What is proved here: the entries of flights, and the law LoadEnters. They ask nothing. -/
import Derived.Test.YtpnaicfmaglelaaLaT
import Derived.Test.YtpnaicfmaglelaaLoadA
namespace Go.Proofs.Ytpnaicfmaglelaa.RT
open Go Go.R

attribute [local irreducible] tube_Check.F tube_at.F plane_Check.F tube_Point.F tube_At.F tube_All_1.F sector_Check.F sector_Place.F skywaykeep3_small.F sector_Path.F sector_Path.r0b load_check.F load_count.F load_Count.F

/-- How many visits are to a sector. -/
def cv (x : List Vs) (j : Nat) : Nat := x.countP fun v => v.1 == (j : Int)
theorem cv_cons (v : Vs) (x : List Vs) (j : Nat) : cv (v :: x) j = cv x j + if v.1 = (j : Int) then 1 else 0 := by
  unfold cv
  rw [List.countP_cons]
  simp only [beq_iff_eq]
theorem cv_le (x : List Vs) (j : Nat) : cv x j ≤ x.length := List.countP_le_length

theorem path_few (k : Nat) (l : List Se) {t : List Nd} (h : tl t - tm t 0 ≤ 400) : (path k l t).length ≤ 1000 := by
  have := visits_len k l (nds k t (tl t + 1 - tm t 0).toNat (tm t 0)) []
  rw [nds_len] at this
  simp only [List.length_nil] at this
  unfold path
  omega

/-- All visits to a sector. -/
noncomputable def ct (k : Nat) (l : List Se) : List (List Nd) → Nat → Int
  | [], _ => 0
  | t :: r, j => cv (path k l t) j + ct k l r j

theorem ct_bound (k : Nat) (l : List Se) (j : Nat) : ∀ a1 : List (List Nd), (∀ t ∈ a1, tl t - tm t 0 ≤ 400) → 0 ≤ ct k l a1 j ∧ ct k l a1 j ≤ 1000 * a1.length
  | [], _ => by simp [ct]
  | t :: r, h => by
    have h1 := ct_bound k l j r (fun x hx => h x (List.mem_cons_of_mem _ hx))
    have h2 := cv_le (path k l t) j
    have h3 := path_few k l (h t (List.mem_cons_self ..))
    simp only [ct, List.length_cons]
    omega

theorem ent_l0 (k : Nat) (i0 : Nat) (out0 : List Int) (x : List Vs) (L : Nat) (hx : x.length ≤ 1000) (hv : ∀ v ∈ x, v.1 < (L : Int)) {self10 : (Int × List Int) → Option (List Int × Int)} : ∀ (n i : Nat) (out : List Int), i ≤ x.length → x.length - i < n → out.length = L → (∀ j, 0 ≤ gi out j ∧ gi out j ≤ 100000 + i) →
    ∃ out', load_Entries.l0 k ((i0 : Int), out0) self10 (x, 0) n ((i : Int), out) = self10 (w64 ((i0 : Int) + 1), out') ∧ out'.length = L ∧ ∀ j, gi out' j = gi out j + cv (x.drop i) j := by
  intro n
  induction n with
  | zero => intro i _ _ h; omega
  | succ n ih =>
    intro i out hi hn ho hb
    rw [load_Entries.l0_succ]
    unfold load_Entries.l0b
    dsimp only
    by_cases hlt : i < x.length
    · have hd := drop_cons hlt ((0, (0, 0)) : Vs)
      rw [vs_eq] at hd
      rw [decide_eq_true (p := (i : Int) < ((x.length : Nat) : Int)) (by omega), decide_eq_true (p := 0 ≤ (i : Int)) (by omega)]
      have hg : x.getD ((i : Int)).toNat (0, (0, 0)) = vs x i := by rw [Int.toNat_natCast]; rfl
      rw [hg, hd]
      simp only [Bool.and_self, cond_true]
      have hvi := hv (vs x i) (by unfold vs; simp [List.getD, hlt])
      rw [show w64 ((i : Int) + 1) = ((i + 1 : Nat) : Int) from w64_id (by omega) (by omega)]
      by_cases hs : (vs x i).1 ≥ 0
      · rw [decide_eq_true hs, decide_eq_true (p := (vs x i).1 < ((out.length : Nat) : Int)) (by omega)]
        simp only [cond_true, Bool.and_self]
        rw [gi_eq]
        have hbm := hb (vs x i).1.toNat
        rw [w64_id (n := gi out (vs x i).1.toNat + 1) (by omega) (by omega)]
        obtain ⟨r, hr, hr1, hr2⟩ := ih (i + 1) (out.set (vs x i).1.toNat (gi out (vs x i).1.toNat + 1)) (by omega) (by omega) (by rw [List.length_set]; exact ho) (fun j => by rw [gi_set (by omega)]; have := hb j; split <;> omega)
        refine ⟨r, hr, hr1, fun j => ?_⟩
        rw [hr2, cv_cons, gi_set (by omega)]
        by_cases hj : j = (vs x i).1.toNat
        · rw [if_pos hj, if_pos (by omega), ← hj]; omega
        · rw [if_neg hj, if_neg (by omega)]; omega
      · rw [decide_eq_false hs, cond_false]
        obtain ⟨r, hr, hr1, hr2⟩ := ih (i + 1) out (by omega) (by omega) ho (fun j => by have := hb j; omega)
        refine ⟨r, hr, hr1, fun j => ?_⟩
        rw [hr2, cv_cons, if_neg (by omega)]
        omega
    · rw [decide_eq_false (p := (i : Int) < ((x.length : Nat) : Int)) (by omega), List.drop_eq_nil_of_le (by omega)]
      exact ⟨out, rfl, ho, fun j => by simp [cv]⟩

/-- A path that is told. -/
theorem path_told (k : Nat) (hk : 300000 ≤ k) {l : List Se} {t : List Nd} (hz : sector_Check.F k l = some 0) (hT : TubeOk t) (hs : tl t - tm t 0 ≤ 400) : sector_Path.F k l t = some (path k l t, 0) := by
  rcases path_cases k hk l t with ⟨e, he, h3, h⟩ | ⟨_, _, ⟨hn, _⟩ | ⟨_, ⟨hc, _⟩ | ⟨_, h⟩⟩⟩
  · rw [hz] at h3
    cases h3
    exact absurd rfl he
  · exact absurd hT hn
  · omega
  · exact h

theorem ent_l1 (k : Nat) (hk : 300000 ≤ k) {l : List Se} {a1 : List (List Nd)} (h : LdOk l a1) (hz : sector_Check.F k l = some 0) (hs : ∀ t ∈ a1, tl t - tm t 0 ≤ 400) : ∀ (n i : Nat) (out : List Int), i ≤ a1.length → a1.length - i < n → out.length = l.length → (∀ j, 0 ≤ gi out j ∧ gi out j ≤ 1000 * i) →
    ∃ r, load_Entries.l1 k l a1 n ((i : Int), out) = some (r, 0) ∧ r.length = l.length ∧ ∀ j, gi r j = gi out j + ct k l (a1.drop i) j := by
  intro n
  have hf := h.few
  induction n with
  | zero => intro i _ _ h; omega
  | succ n ih =>
    intro i out hi hn ho hb
    rw [load_Entries.l1_succ]
    unfold load_Entries.l1b
    dsimp only
    by_cases hlt : i < a1.length
    · have hd := drop_cons hlt ([] : List Nd)
      rw [tub_eq] at hd
      rw [decide_eq_true (p := (i : Int) < ((a1.length : Nat) : Int)) (by omega), decide_eq_true (p := 0 ≤ (i : Int)) (by omega)]
      have hg : a1.getD ((i : Int)).toNat [] = tub a1 i := by rw [Int.toNat_natCast]; rfl
      have hm : tub a1 i ∈ a1 := by unfold tub; simp [List.getD, hlt]
      have hT : TubeOk (tub a1 i) := h.tubes _ hm
      rw [hg, hd]
      simp only [Bool.and_self, cond_true]
      rw [path_told k hk hz hT (hs _ hm)]
      simp only [Option.bind_some]
      rw [cond_neg (c := (0 : Int) != 0) (by rfl)]
      have hpf := path_few k l (hs _ hm)
      have hpo := path_ok k (by omega) h.sec hT
      have hb2 : ∀ j, 0 ≤ gi out j ∧ gi out j ≤ 100000 + ((0 : Nat) : Int) := fun j => by have := hb j; omega
      obtain ⟨out', ho', hl', hg'⟩ := ent_l0 k i out (path k l (tub a1 i)) l.length hpf (fun v hv => by
        obtain ⟨j, hj, e⟩ := List.mem_iff_getElem.1 hv
        have := hpo.each j hj
        have e2 : vs (path k l (tub a1 i)) j = v := by unfold vs; simp [List.getD, hj, e]
        rw [e2] at this
        exact this.2.1) (self10 := load_Entries.l1 k l a1 n) k 0 out (by omega) (by omega) ho hb2
      rw [List.drop_zero] at hg'
      rw [show ((0 : Nat) : Int) = 0 from rfl] at ho'
      rw [ho', show w64 ((i : Int) + 1) = ((i + 1 : Nat) : Int) from w64_id (by omega) (by omega)]
      obtain ⟨r, hr, hr1, hr2⟩ := ih (i + 1) out' (by omega) (by omega) hl' (fun j => by have := hb j; have := cv_le (path k l (tub a1 i)) j; rw [hg']; omega)
      refine ⟨r, hr, hr1, fun j => ?_⟩
      rw [hr2, hg', ct]
      omega
    · rw [decide_eq_false (p := (i : Int) < ((a1.length : Nat) : Int)) (by omega), List.drop_eq_nil_of_le (by omega)]
      exact ⟨out, rfl, ho, fun j => by simp [ct]⟩

theorem Entries_cases (k : Nat) (hk : 300000 ≤ k) (l : List Se) (a1 : List (List Nd)) (hs : ∀ t ∈ a1, tl t - tm t 0 ≤ 400) : (∃ e, e ≠ 0 ∧ load_Entries.F k l a1 = some ([], e)) ∨ (LdOk l a1 ∧ sector_Check.F k l = some 0 ∧ ∃ r, load_Entries.F k l a1 = some (r, 0) ∧ r.length = l.length ∧ ∀ j, gi r j = ct k l a1 j) := by
  unfold load_Entries.F
  obtain ⟨e, he, hq⟩ := lchk_eq k (by omega) l a1
  have hchk : e = 0 → sector_Check.F k l = some 0 := fun z => by
    subst z
    unfold load_check.F at he
    obtain ⟨e', he', _⟩ := sec_eq k (by omega) l
    rw [he'] at he ⊢
    simp only [Option.bind_some] at he
    by_cases z : e' = 0
    · rw [z]
    · rw [cond_pos (c := e' != 0) (by simpa using z)] at he
      exact he
  rw [he]
  simp only [Option.bind_some]
  by_cases z : e = 0
  · rw [cond_neg (c := e != 0) (by simpa using z)]
    have h := hq z
    have hl := h.sec.len
    rw [cond_pos (c := _ && _ && _) (by simp; omega), Int.toNat_natCast]
    have hf := h.few
    obtain ⟨r, hr, h1, h2⟩ := ent_l1 k hk h (hchk z) hs k 0 (List.replicate l.length 0) (by omega) (by omega) (by simp) (fun j => by rw [gi_rep]; omega)
    exact .inr ⟨h, hchk z, r, hr, h1, fun j => by rw [h2, gi_rep, List.drop_zero]; omega⟩
  · rw [cond_pos (c := e != 0) (by simpa using z)]
    exact .inl ⟨e, z, rfl⟩

attribute [local irreducible] load_Entries.F

/-! ### The law LoadEnters -/

theorem dec_l0 (k : Nat) (i0 : Nat) (out0 : List Int) (x : List Vs) (L : Nat) (hx : x.length ≤ 1000) (hv : ∀ v ∈ x, v.1 < (L : Int)) {self5 : (Int × List Int) → Option (List Int ⊕ Bool)} : ∀ (n i : Nat) (out : List Int), i ≤ x.length → x.length - i < n → out.length = L → (∀ j, -(i : Int) ≤ gi out j ∧ gi out j ≤ 100000) →
    ∃ out', skywaykeep3_LoadEnters.l0 k ((i0 : Int), out0) self5 (x, 0) n ((i : Int), out) = self5 (w64 ((i0 : Int) + 1), out') ∧ out'.length = L ∧ ∀ j, gi out' j = gi out j - cv (x.drop i) j := by
  intro n
  induction n with
  | zero => intro i _ _ h; omega
  | succ n ih =>
    intro i out hi hn ho hb
    rw [skywaykeep3_LoadEnters.l0_succ]
    unfold skywaykeep3_LoadEnters.l0b
    dsimp only
    by_cases hlt : i < x.length
    · have hd := drop_cons hlt ((0, (0, 0)) : Vs)
      rw [vs_eq] at hd
      rw [decide_eq_true (p := (i : Int) < ((x.length : Nat) : Int)) (by omega), decide_eq_true (p := 0 ≤ (i : Int)) (by omega)]
      have hg : x.getD ((i : Int)).toNat (0, (0, 0)) = vs x i := by rw [Int.toNat_natCast]; rfl
      rw [hg, hd]
      simp only [Bool.and_self, cond_true]
      have hvi := hv (vs x i) (by unfold vs; simp [List.getD, hlt])
      rw [show w64 ((i : Int) + 1) = ((i + 1 : Nat) : Int) from w64_id (by omega) (by omega)]
      by_cases hs : (vs x i).1 < 0
      · rw [decide_eq_true hs, cond_true]
        obtain ⟨r, hr, hr1, hr2⟩ := ih (i + 1) out (by omega) (by omega) ho (fun j => by have := hb j; omega)
        refine ⟨r, hr, hr1, fun j => ?_⟩
        rw [hr2, cv_cons, if_neg (by omega)]
        omega
      · rw [decide_eq_false hs, cond_false, decide_eq_false (p := (vs x i).1 ≥ ((out.length : Nat) : Int)) (by omega), cond_false, inIdx (n := out.length) (by omega) (by omega)]
        simp only [cond_true]
        rw [gi_eq]
        have hbm := hb (vs x i).1.toNat
        rw [w64_id (n := gi out (vs x i).1.toNat - 1) (by omega) (by omega)]
        obtain ⟨r, hr, hr1, hr2⟩ := ih (i + 1) (out.set (vs x i).1.toNat (gi out (vs x i).1.toNat - 1)) (by omega) (by omega) (by rw [List.length_set]; exact ho) (fun j => by rw [gi_set (by omega)]; have := hb j; split <;> omega)
        refine ⟨r, hr, hr1, fun j => ?_⟩
        rw [hr2, cv_cons, gi_set (by omega)]
        by_cases hj : j = (vs x i).1.toNat
        · rw [if_pos hj, if_pos (by omega), ← hj]; omega
        · rw [if_neg hj, if_neg (by omega)]; omega
    · rw [decide_eq_false (p := (i : Int) < ((x.length : Nat) : Int)) (by omega), List.drop_eq_nil_of_le (by omega)]
      exact ⟨out, rfl, ho, fun j => by simp [cv]⟩

theorem dec_l1 (k : Nat) (hk : 300000 ≤ k) {l : List Se} {a1 : List (List Nd)} (h : LdOk l a1) (hz : sector_Check.F k l = some 0) (hs : ∀ t ∈ a1, tl t - tm t 0 ≤ 400) : ∀ (n i : Nat) (out : List Int), i ≤ a1.length → a1.length - i < n → out.length = l.length → (∀ j, gi out j = ct k l (a1.drop i) j) →
    ∃ r, skywaykeep3_LoadEnters.l1 k l a1 n ((i : Int), out) = some (.inl r) ∧ r.length = l.length ∧ ∀ j, gi r j = 0 := by
  intro n
  have hf := h.few
  induction n with
  | zero => intro i _ _ h; omega
  | succ n ih =>
    intro i out hi hn ho hb
    rw [skywaykeep3_LoadEnters.l1_succ]
    unfold skywaykeep3_LoadEnters.l1b
    dsimp only
    by_cases hlt : i < a1.length
    · have hd := drop_cons hlt ([] : List Nd)
      rw [tub_eq] at hd
      rw [decide_eq_true (p := (i : Int) < ((a1.length : Nat) : Int)) (by omega), decide_eq_true (p := 0 ≤ (i : Int)) (by omega)]
      have hg : a1.getD ((i : Int)).toNat [] = tub a1 i := by rw [Int.toNat_natCast]; rfl
      have hm : tub a1 i ∈ a1 := by unfold tub; simp [List.getD, hlt]
      have hT : TubeOk (tub a1 i) := h.tubes _ hm
      rw [hg]
      simp only [Bool.and_self, cond_true]
      rw [path_told k hk hz hT (hs _ hm)]
      simp only [Option.bind_some]
      rw [cond_neg (c := (0 : Int) != 0) (by rfl)]
      have hpf := path_few k l (hs _ hm)
      have hpo := path_ok k (by omega) h.sec hT
      have hcb := fun j => ct_bound k l j (a1.drop i) (fun t ht => hs t (List.mem_of_mem_drop ht))
      have hb2 : ∀ j, -((0 : Nat) : Int) ≤ gi out j ∧ gi out j ≤ 100000 := fun j => by have := hb j; have := hcb j; rw [List.length_drop] at this; omega
      obtain ⟨out', ho', hl', hg'⟩ := dec_l0 k i out (path k l (tub a1 i)) l.length hpf (fun v hv => by
        obtain ⟨j, hj, e⟩ := List.mem_iff_getElem.1 hv
        have := hpo.each j hj
        have e2 : vs (path k l (tub a1 i)) j = v := by unfold vs; simp [List.getD, hj, e]
        rw [e2] at this
        exact this.2.1) (self5 := skywaykeep3_LoadEnters.l1 k l a1 n) k 0 out (by omega) (by omega) ho hb2
      rw [List.drop_zero] at hg'
      rw [show ((0 : Nat) : Int) = 0 from rfl] at ho'
      rw [ho', show w64 ((i : Int) + 1) = ((i + 1 : Nat) : Int) from w64_id (by omega) (by omega)]
      exact ih (i + 1) out' (by omega) (by omega) hl' (fun j => by rw [hg', hb, hd, ct]; omega)
    · rw [decide_eq_false (p := (i : Int) < ((a1.length : Nat) : Int)) (by omega)]
      exact ⟨out, rfl, ho, fun j => by rw [hb, List.drop_eq_nil_of_le (by omega)]; rfl⟩

theorem zero_l2 (k : Nat) (x : List Int) (hx : x.length ≤ 1000) (h : ∀ j, gi x j = 0) : ∀ (n i : Nat), i ≤ x.length → x.length - i < n → skywaykeep3_LoadEnters.l2 k x n i = some true := by
  intro n
  induction n with
  | zero => intro i _ h; omega
  | succ n ih =>
    intro i hi hn
    rw [skywaykeep3_LoadEnters.l2_succ]
    unfold skywaykeep3_LoadEnters.l2b skywaykeep3_LoadEnters_1.F
    by_cases hlt : i < x.length
    · rw [decide_eq_true (p := (i : Int) < ((x.length : Nat) : Int)) (by omega), decide_eq_true (p := 0 ≤ (i : Int)) (by omega)]
      simp only [Bool.and_self, cond_true, Option.bind_some]
      rw [Int.toNat_natCast, gi_eq, h, cond_neg (c := (0 : Int) != 0) (by rfl), show w64 ((i : Int) + 1) = ((i + 1 : Nat) : Int) from w64_id (by omega) (by omega)]
      exact ih (i + 1) (by omega) (by omega)
    · rw [decide_eq_false (p := (i : Int) < ((x.length : Nat) : Int)) (by omega)]
      rfl

theorem LoadEnters_plain (k : Nat) (hk : 300000 ≤ k) (hf : skywaykeep3_loadFact.F k = some true) (l : List Se) (a1 : List (List Nd)) : skywaykeep3_LoadEnters.F k l a1 = some true := by
  unfold skywaykeep3_LoadEnters.F
  obtain ⟨r, hr, hq⟩ := small_eq k (by omega) a1 6 400 (by omega)
  rw [hf, hr]
  simp only [Option.bind_some, Bool.not_true, cond_false]
  cases r with
  | false => rfl
  | true =>
    have hs := (hq.1 rfl).2
    clear hq hr
    simp only [Bool.not_true, cond_false]
    rcases Entries_cases k hk l a1 (fun t ht => (hs t ht).2) with ⟨e, he, h⟩ | ⟨h, hz, r, hr, hl, hg⟩
    · rw [h]
      simp only [Option.bind_some]
      rw [cond_pos (c := e != 0) (by simpa using he)]
      rfl
    · rw [hr]
      simp only [Option.bind_some]
      have hll := h.sec.len
      have hfew := h.few
      rw [cond_neg (c := (0 : Int) != 0) (by rfl), hl, cond_neg (c := ((l.length : Nat) : Int) != ((l.length : Nat) : Int)) (by simp)]
      obtain ⟨r', hr', hl', hg'⟩ := dec_l1 k hk h hz (fun t ht => (hs t ht).2) k 0 r (by omega) (by omega) hl (fun j => by rw [List.drop_zero]; exact hg j)
      rw [show ((0 : Nat) : Int) = 0 from rfl] at hr'
      rw [hr']
      simp only [Option.bind_some]
      exact zero_l2 k r' (by omega) hg' k 0 (by omega) (by omega)

attribute [local irreducible] skywaykeep3_LoadEnters.F
theorem lent_cal (k : Nat) (x : DatPs (skywaykeep3_LoadEnters.C 0).ats) : (skywaykeep3_LoadEnters.C k).F x = skywaykeep3_LoadEnters.F k x.1 x.2 := rfl
theorem LoadEnters_law (x : DatPs (skywaykeep3_LoadEnters.C 0).ats) (_ : FitPs (skywaykeep3_LoadEnters.C 0).ats x) : ∃ k, (skywaykeep3_LoadEnters.C k).F x = some true :=
  ⟨300000 + 1000, (lent_cal _ x).trans (LoadEnters_plain (300000 + 1000) (by omega) (loadfact 300000) x.1 x.2)⟩

end Go.Proofs.Ytpnaicfmaglelaa.RT
