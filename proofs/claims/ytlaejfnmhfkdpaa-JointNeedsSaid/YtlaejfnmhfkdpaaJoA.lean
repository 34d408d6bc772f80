/- What is proved here: the options of flights that are chosen together, the table of their clashes, and what a choice clashes with. They ask nothing. -/
import Derived.Test.YtlaejfnmhfkdpaaJoT
import Derived.Test.YtlaejfnmhfkdpaaPlA
import Derived.Test.YtlaejfnmhfkdpaaResA
namespace Go.Proofs.Ytlaejfnmhfkdpaa.RT
open Go Go.R

attribute [local irreducible] tube_Check.F tube_at.F plane_Check.F tube_Point.F skywaykeep3_small.F plane_Distance.F probe_pair.F

/-! ### Options -/

abbrev Opn := Int × List Nd
abbrev opn0 : Opn := (0, [])

/-- Flight b's options; its option i. -/
def ops (l : List (List Opn)) (b : Nat) : List Opn := l.getD b []
def opt (l : List (List Opn)) (b i : Nat) : Opn := (ops l b).getD i (0, [])

/-- How many whole choices there are. -/
def prdL : List (List Opn) → Nat
  | [] => 1
  | o :: r => o.length * prdL r
def prd (l : List (List Opn)) (j : Nat) : Nat := prdL (l.drop j)

theorem prd_succ {l : List (List Opn)} {j : Nat} (h : j < l.length) : prd l j = (ops l j).length * prd l (j + 1) := by
  unfold prd
  rw [drop_cons h ([] : List Opn)]
  rfl

structure OpnOk (x : Opn) : Prop where
  low : 0 ≤ x.1
  high : x.1 ≤ 1000000
  tube : TubeOk x.2

structure LOk (l : List (List Opn)) : Prop where
  len : l.length ≤ 6
  one : ∀ o ∈ l, 1 ≤ o.length ∧ o.length ≤ 8
  opn : ∀ o ∈ l, ∀ x ∈ o, OpnOk x
  prod : prd l 0 ≤ 5000

theorem ops_mem {l : List (List Opn)} {b : Nat} (h : b < l.length) : ops l b ∈ l := by unfold ops; simp [List.getD, h]
theorem opt_mem {l : List (List Opn)} {b i : Nat} (h : i < (ops l b).length) : opt l b i ∈ ops l b := by unfold opt; simp [List.getD, h]
theorem LOk.at {l : List (List Opn)} (h : LOk l) {b i : Nat} (hb : b < l.length) (hi : i < (ops l b).length) : OpnOk (opt l b i) := h.opn _ (ops_mem hb) _ (opt_mem hi)

theorem jcheck0_loop (k : Nat) (hk : 100 ≤ k) (l : List (List Opn)) (x1 : Int × Int) (b : Nat) (hb : x1.2 = b) (hl : (ops l b).length ≤ 8) (self2 : Int × Int → Option Int) : ∀ n i : Nat, i ≤ (ops l b).length → (ops l b).length - i < n →
    (∃ e, e ≠ 0 ∧ joint_Check.l0 k l x1 self2 n i = some e) ∨ (joint_Check.l0 k l x1 self2 n i = self2 (w64 (x1.1 * (((ops l b).length : Nat) : Int)), w64 (x1.2 + 1)) ∧ ∀ j, i ≤ j → j < (ops l b).length → OpnOk (opt l b j)) := by
  intro n
  induction n with
  | zero => intro i _ h; omega
  | succ n ih =>
    intro i hi hn
    rw [joint_Check.l0_succ]
    unfold joint_Check.l0b
    have hB : l.getD x1.2.toNat [] = ops l b := by rw [hb]; simp [ops]
    rw [hB]
    by_cases hlt : i < (ops l b).length
    · rw [decide_eq_true (p := (i : Int) < (((ops l b).length : Nat) : Int)) (by omega), decide_eq_true (p := 0 ≤ (i : Int)) (by omega), show w64 ((i : Int) + 1) = ((i + 1 : Nat) : Int) from w64_id (by omega) (by omega), getD_nat]
      simp only [Bool.and_self, cond_true]
      have hO : (ops l b).getD i (0, []) = opt l b i := rfl
      rw [hO]
      by_cases c1 : (opt l b i).1 < 0
      · rw [decide_eq_true c1]
        exact .inl ⟨4, by omega, rfl⟩
      rw [decide_eq_false c1]
      by_cases c2 : (opt l b i).1 > 1000000
      · rw [decide_eq_true c2]
        exact .inl ⟨4, by omega, rfl⟩
      rw [decide_eq_false c2]
      simp only [cond_false, Option.bind_some]
      obtain ⟨e, he, hok⟩ := tcheck_eq k hk (opt l b i).2
      rw [he]
      simp only [Option.bind_some]
      by_cases e0 : e = 0
      · rw [cond_neg (c := e != 0) (by simp [e0])]
        rcases ih (i + 1) (by omega) (by omega) with h | ⟨h1, h2⟩
        · exact .inl h
        · refine .inr ⟨h1, fun j hj hj' => ?_⟩
          by_cases ej : j = i
          · subst ej
            exact ⟨by omega, by omega, hok.1 e0⟩
          · exact h2 j (by omega) hj'
      · rw [cond_pos (c := e != 0) (by simpa using e0)]
        exact .inl ⟨e, e0, rfl⟩
    · rw [decide_eq_false (p := (i : Int) < (((ops l b).length : Nat) : Int)) (by omega)]
      exact .inr ⟨rfl, fun j h1 h2 => by omega⟩

theorem jcheck1_loop (k : Nat) (hk : 100 ≤ k) (l : List (List Opn)) (hl : l.length ≤ 6) : ∀ n b : Nat, ∀ many : Int, 1 ≤ many → many ≤ 5000 → b ≤ l.length → l.length - b < n →
    ∃ e, joint_Check.l1 k l n (many, (b : Int)) = some e ∧ (e = 0 → many.toNat * prd l b ≤ 5000 ∧ ∀ q, b ≤ q → q < l.length → 1 ≤ (ops l q).length ∧ (ops l q).length ≤ 8 ∧ ∀ j, j < (ops l q).length → OpnOk (opt l q j)) := by
  intro n
  induction n with
  | zero => intro b _ _ _ _ h; omega
  | succ n ih =>
    intro b many m0 m1 hb hn
    rw [joint_Check.l1_succ]
    unfold joint_Check.l1b
    by_cases hlt : b < l.length
    · have hB : l.getD ((b : Int)).toNat [] = ops l b := by simp [ops]
      dsimp only
      rw [hB, decide_eq_true (p := (b : Int) < ((l.length : Nat) : Int)) (by omega), decide_eq_true (p := 0 ≤ (b : Int)) (by omega)]
      simp only [Bool.and_self, cond_true]
      by_cases c0 : (ops l b).length = 0
      · rw [cond_pos (c := ((((ops l b).length : Nat) : Int) == 0)) (by simp [c0])]
        exact ⟨8, rfl, fun h => by omega⟩
      rw [cond_neg (c := ((((ops l b).length : Nat) : Int) == 0)) (by simpa using c0)]
      by_cases c8 : (ops l b).length > 8
      · rw [decide_eq_true (p := (((ops l b).length : Nat) : Int) > 8) (by omega)]
        exact ⟨2, rfl, fun h => by omega⟩
      rw [decide_eq_false (p := (((ops l b).length : Nat) : Int) > 8) (by omega)]
      simp only [cond_false]
      obtain ⟨m, hm⟩ : ∃ m : Nat, many = m := ⟨many.toNat, by omega⟩
      obtain ⟨z, hz⟩ : ∃ z : Nat, (ops l b).length = z := ⟨_, rfl⟩
      have hmz : m * z ≤ 5000 * 8 := Nat.mul_le_mul (by omega) (by omega)
      have hmz1 : 1 * 1 ≤ m * z := Nat.mul_le_mul (by omega) (by omega)
      have hw : w64 (many * (((ops l b).length : Nat) : Int)) = ((m * z : Nat) : Int) := by rw [hm, hz, ← Int.natCast_mul]; exact w64_id (by omega) (by omega)
      rw [hw]
      by_cases c5 : m * z > 5000
      · rw [decide_eq_true (p := ((m * z : Nat) : Int) > 5000) (by omega)]
        exact ⟨2, rfl, fun h => by omega⟩
      rw [decide_eq_false (p := ((m * z : Nat) : Int) > 5000) (by omega)]
      simp only [cond_false]
      rcases jcheck0_loop k hk l (many, (b : Int)) b rfl (by omega) (fun x => joint_Check.l1 k l n x) k 0 (by omega) (by omega) with ⟨e, he, h⟩ | ⟨h, hok⟩
      · exact ⟨e, h, fun h0 => absurd h0 he⟩
      · dsimp only at h
        rw [hw, show w64 ((b : Int) + 1) = ((b + 1 : Nat) : Int) from w64_id (by omega) (by omega)] at h
        obtain ⟨e, he, hq⟩ := ih (b + 1) ((m * z : Nat) : Int) (by omega) (by omega) (by omega) (by omega)
        refine ⟨e, h.trans he, fun h0 => ⟨?_, fun q hq1 hq2 => ?_⟩⟩
        · have h5 := (hq h0).1
          rw [prd_succ hlt, hz, hm, Int.toNat_natCast, ← Nat.mul_assoc]
          rwa [Int.toNat_natCast] at h5
        by_cases eq : q = b
        · subst eq
          exact ⟨by omega, by omega, fun j hj => hok j (by omega) hj⟩
        · exact (hq h0).2 q (by omega) hq2
    · dsimp only
      rw [decide_eq_false (p := (b : Int) < ((l.length : Nat) : Int)) (by omega)]
      refine ⟨0, rfl, fun _ => ⟨?_, fun q h1 h2 => by omega⟩⟩
      have : prd l b = 1 := by
        unfold prd
        rw [List.drop_eq_nil_of_le (by omega)]
        rfl
      rw [this]
      omega

theorem jcheck_eq (k : Nat) (hk : 100 ≤ k) (l : List (List Opn)) : ∃ e, joint_Check.F k l = some e ∧ (e = 0 → LOk l) := by
  unfold joint_Check.F
  by_cases h6 : l.length > 6
  · rw [decide_eq_true (p := ((l.length : Nat) : Int) > 6) (by omega)]
    exact ⟨2, rfl, fun h => by omega⟩
  · rw [decide_eq_false (p := ((l.length : Nat) : Int) > 6) (by omega)]
    obtain ⟨e, he, h⟩ := jcheck1_loop k hk l (by omega) k 0 1 (by omega) (by omega) (by omega) (by omega)
    refine ⟨e, he, fun h0 => ?_⟩
    have hq := (h h0).2
    have hpr := (h h0).1
    have of : ∀ o ∈ l, ∃ b, b < l.length ∧ ops l b = o := fun o ho => by
      obtain ⟨b, hb, e⟩ := List.mem_iff_getElem.1 ho
      exact ⟨b, hb, by simp [ops, List.getD, hb, e]⟩
    refine ⟨by omega, fun o ho => ?_, fun o ho x hx => ?_, by simpa using hpr⟩
    · obtain ⟨b, hb, rfl⟩ := of o ho
      exact ⟨(hq b (by omega) hb).1, (hq b (by omega) hb).2.1⟩
    · obtain ⟨b, hb, rfl⟩ := of o ho
      obtain ⟨j, hj, e⟩ := List.mem_iff_getElem.1 hx
      have : opt l b j = x := by simp [opt, List.getD, hj, e]
      rw [← this]
      exact (hq b (by omega) hb).2.2 j hj

attribute [local irreducible] joint_Check.F

theorem jboth_eq (k : Nat) (hk : 100 ≤ k) (l : List (List Opn)) (s : Int × Int) : ∃ e, joint_both.F k l s = some e ∧ (e = 0 → LOk l ∧ probe_CheckSep.F k s = some 0) := by
  unfold joint_both.F
  obtain ⟨e1, h1⟩ : ∃ e, probe_CheckSep.F k s = some e := by
    unfold probe_CheckSep.F
    cases decide (s.1 < 0) <;> cases decide (s.1 > 1000000) <;> cases decide (s.2 < 0) <;> cases decide (s.2 > 60000) <;> exact ⟨_, rfl⟩
  obtain ⟨e2, h2, hok⟩ := jcheck_eq k hk l
  rw [h1]
  simp only [Option.bind_some]
  by_cases e0 : e1 = 0
  · subst e0
    rw [cond_neg (c := (0 : Int) != 0) (by rfl), h2]
    exact ⟨e2, rfl, fun h => ⟨hok h, rfl⟩⟩
  · rw [cond_pos (c := e1 != 0) (by simpa using e0)]
    exact ⟨e1, rfl, fun h => absurd h e0⟩

/-! ### Clashes -/

/-- Do two tubes clash. -/
noncomputable def cla (k : Nat) (s : Int × Int) (x y : List Nd) : Bool := ((probe_Pair.F k x y s).map fun r => (r.2 != 0) || decide (0 < r.1.length)).getD false

/-- Tubes that are not long. -/
def LSm (l : List (List Opn)) : Prop := ∀ o ∈ l, ∀ x ∈ o, tl x.2 - tm x.2 0 ≤ 300

theorem probe_ok (k : Nat) (hk : 1000 ≤ k) (s : Int × Int) (hs : probe_CheckSep.F k s = some 0) {x y : List Nd} (hx : TubeOk x) (hy : TubeOk y) (hsp : tl x - tm x 0 ≤ 300) : ∃ r, probe_Pair.F k x y s = some (r, 0) ∧ (r = [] ↔ Fr k s x y) := by
  unfold probe_Pair.F
  have hc : probe_check.F k s [x, y] = some 0 := by
    unfold probe_check.F
    rw [hs]
    simp only [Option.bind_some]
    rw [cond_neg (c := (0 : Int) != 0) (by rfl)]
    obtain ⟨m, rfl⟩ : ∃ m, k = m + 3 := ⟨k - 3, by omega⟩
    have h1 := tcheck_pos (k := m + 3) (by omega) hx
    have h2 := tcheck_pos (k := m + 3) (by omega) hy
    rw [show probe_check.l0 (m + 3) [x, y] (m + 3) 0 = probe_check.l0b (m + 3) [x, y] (fun z => probe_check.l0 (m + 3) [x, y] (m + 2) z) 0 from probe_check.l0_succ _ _ _ _]
    unfold probe_check.l0b
    change ((tube_Check.F (m + 3) x).bind _) = _
    rw [h1]
    change probe_check.l0 (m + 3) [x, y] (m + 2) 1 = _
    rw [show probe_check.l0 (m + 3) [x, y] (m + 2) 1 = probe_check.l0b (m + 3) [x, y] (fun z => probe_check.l0 (m + 3) [x, y] (m + 1) z) 1 from probe_check.l0_succ _ _ _ _]
    unfold probe_check.l0b
    change ((tube_Check.F (m + 3) y).bind _) = _
    rw [h2]
    rfl
  rw [hc]
  simp only [Option.bind_some]
  rw [cond_neg (c := (0 : Int) != 0) (by rfl)]
  obtain ⟨r, hr, _, _, hfr⟩ := pair_eq k hk s hx hy hsp
  rw [hr]
  exact ⟨r, rfl, hfr⟩

theorem cla_eq (k : Nat) (hk : 1000 ≤ k) (s : Int × Int) (hs : probe_CheckSep.F k s = some 0) {x y : List Nd} (hx : TubeOk x) (hy : TubeOk y) (hsp : tl x - tm x 0 ≤ 300) : ((probe_Pair.F k x y s).bind fun r => some ((r.2 != 0) || decide (0 < r.1.length))) = some (cla k s x y) ∧ (cla k s x y = false ↔ Fr k s x y) := by
  obtain ⟨r, hr, hfr⟩ := probe_ok k hk s hs hx hy hsp
  unfold cla
  rw [hr]
  refine ⟨rfl, ?_⟩
  rw [← hfr]
  cases r <;> simp

theorem mapM_some {α β : Type} {f : α → Option β} {g : α → β} : ∀ {L : List α}, (∀ x ∈ L, f x = some (g x)) → L.mapM f = some (L.map g)
  | [], _ => rfl
  | x :: L, h => by
    rw [List.mapM_cons, h x (List.mem_cons_self ..), mapM_some fun y hy => h y (List.mem_cons_of_mem _ hy)]
    rfl

/-- The table of clashes. -/
noncomputable def tbl (k : Nat) (s : Int × Int) (l : List (List Opn)) : List (List (List (List Bool))) :=
  (List.range l.length).map fun a => (List.range (ops l a).length).map fun i => (List.range a).map fun b => (ops l b).map fun q => cla k s q.2 (opt l a i).2

theorem table_eq (k : Nat) (hk : 1000 ≤ k) (s : Int × Int) (hs : probe_CheckSep.F k s = some 0) {l : List (List Opn)} (h : LOk l) (hsm : LSm l) : joint_table.F k l s = some (tbl k s l) := by
  unfold joint_table.F
  have hall : (l.all fun o => Nat.ble o.length 9) = true := List.all_eq_true.2 fun o ho => Nat.ble_eq_true_of_le (by have := (h.one o ho).2; omega)
  rw [Nat.ble_eq_true_of_le h.len, hall]
  simp only [Bool.and_self, cond_true]
  unfold tbl
  refine mapM_some fun a ha => ?_
  have ha := List.mem_range.1 ha
  refine mapM_some fun i hi => ?_
  have hi : i < (ops l a).length := List.mem_range.1 hi
  refine mapM_some fun b hb => ?_
  have hb := List.mem_range.1 hb
  unfold joint_table.cells
  refine mapM_some fun q hq => ?_
  have hbl : ops l b ∈ l := ops_mem (by omega)
  exact (cla_eq k hk s hs (h.opn _ hbl q hq).tube (h.at ha hi).tube (hsm _ hbl q hq)).1

theorem tbl_at {k : Nat} {s : Int × Int} {l : List (List Opn)} {a i b q : Nat} (ha : a < l.length) (hi : i < (ops l a).length) (hb : b < a) (hq : q < (ops l b).length) :
    ((tbl k s l).getD a []).length = (ops l a).length ∧ (((tbl k s l).getD a []).getD i []).length = a ∧ ((((tbl k s l).getD a []).getD i []).getD b []).length = (ops l b).length ∧
      ((((tbl k s l).getD a []).getD i []).getD b []).getD q false = cla k s (opt l b q).2 (opt l a i).2 := by
  have e1 : (tbl k s l).getD a [] = (List.range (ops l a).length).map fun i => (List.range a).map fun b => (ops l b).map fun q => cla k s q.2 (opt l a i).2 := by
    unfold tbl
    simp [List.getD, ha]
  have e2 : ((tbl k s l).getD a []).getD i [] = (List.range a).map fun b => (ops l b).map fun q => cla k s q.2 (opt l a i).2 := by
    rw [e1]
    simp [List.getD, hi]
  have e3 : (((tbl k s l).getD a []).getD i []).getD b [] = (ops l b).map fun q => cla k s q.2 (opt l a i).2 := by
    rw [e2]
    simp [List.getD, hb]
  refine ⟨by rw [e1]; simp, by rw [e2]; simp, by rw [e3]; simp, ?_⟩
  rw [e3]
  simp [List.getD, hq, opt]

end Go.Proofs.Ytlaejfnmhfkdpaa.RT
