/- What is proved here: the plain law JointFree. They ask nothing. -/
import Derived.Test.YtlaejfnmhfkdpaaJoT
import Derived.Test.YtlaejfnmhfkdpaaPlA
import Derived.Test.YtlaejfnmhfkdpaaJoD
namespace Go.Proofs.Ytlaejfnmhfkdpaa.RT
open Go Go.R

attribute [local irreducible] tube_Check.F tube_at.F plane_Check.F tube_Point.F skywaykeep3_small.F plane_Distance.F probe_pair.F probe_Pair.F joint_Check.F joint_both.F joint_table.F joint_clashes_with.F joint_search_step.F joint_Best.F skywaykeep3_few.F

/-! ### Tubes of which none clash -/

structure Clear (k : Nat) (s : Int × Int) (T : List (List Nd)) : Prop where
  len : T.length ≤ 6
  ok : ∀ t ∈ T, TubeOk t
  short : ∀ t ∈ T, tl t - tm t 0 ≤ 300
  free : ∀ a, a < T.length → ∀ b, b < a → Fr k s (tub T b) (tub T a)

theorem tub_mem {T : List (List Nd)} {i : Nat} (h : i < T.length) : tub T i ∈ T := by unfold tub; simp [List.getD, h]

theorem jprck_loop (k : Nat) (hk : 100 ≤ k) (l : List (List Nd)) (hl : l.length ≤ 64) (hT : ∀ t ∈ l, TubeOk t) : ∀ n i : Nat, i ≤ l.length → l.length - i < n → probe_check.l0 k l n i = some 0 := by
  intro n
  induction n with
  | zero => intro i _ h; omega
  | succ n ih =>
    intro i hi hn
    rw [probe_check.l0_succ]
    unfold probe_check.l0b
    by_cases hlt : i < l.length
    · rw [decide_eq_true (p := (i : Int) < ((l.length : Nat) : Int)) (by omega), decide_eq_true (p := 0 ≤ (i : Int)) (by omega)]
      have hg : l.getD ((i : Int)).toNat [] = tub l i := by rw [Int.toNat_natCast]; rfl
      rw [hg, tcheck_pos hk (hT _ (tub_mem hlt))]
      simp only [Bool.and_self, cond_true, Option.bind_some]
      rw [cond_neg (c := (0 : Int) != 0) (by rfl), show w64 ((i : Int) + 1) = ((i + 1 : Nat) : Int) from w64_id (by omega) (by omega)]
      exact ih (i + 1) (by omega) (by omega)
    · rw [decide_eq_false (p := (i : Int) < ((l.length : Nat) : Int)) (by omega)]
      rfl

theorem clear_l1 (k : Nat) (hk : 1000 ≤ k) (s : Int × Int) {T : List (List Nd)} (h : Clear k s T) {b : Nat} (hb : b < T.length) {o0 : List (Int × Int × Int × Int)} {self4 : (Int × List (Int × Int × Int × Int)) → Option (List (Int × Int × Int × Int) ⊕ (List (Int × Int × Int × Int) × Int))} : ∀ (n a : Nat), a ≤ b → b - a < n →
    probe_All.l1 k T s ((b : Int), o0) self4 n ((a : Int), []) = self4 (w64 ((b : Int) + 1), []) := by
  intro n
  have hf := h.len
  induction n with
  | zero => intro a _ h; omega
  | succ n ih =>
    intro a ha hn
    rw [probe_All.l1_succ]
    unfold probe_All.l1b
    dsimp only
    by_cases hlt : a < b
    · rw [decide_eq_true (p := (a : Int) < (b : Int)) (by omega), inIdx (n := T.length) (by omega) (by omega), inIdx (n := T.length) (by omega) (by omega)]
      simp only [cond_true]
      have hg : T.getD ((a : Int)).toNat [] = tub T a := by rw [Int.toNat_natCast]; rfl
      have hg2 : T.getD ((b : Int)).toNat [] = tub T b := by rw [Int.toNat_natCast]; rfl
      have ma := tub_mem (T := T) (show a < T.length by omega)
      have mb := tub_mem hb
      obtain ⟨r, hr, _, _, r3⟩ := pair_eq k hk s (h.ok _ ma) (h.ok _ mb) (h.short _ ma)
      obtain rfl := r3.2 (h.free b hb a hlt)
      rw [hg, hg2, hr]
      simp only [Option.bind_some]
      obtain ⟨m, rfl⟩ : ∃ m, k = m + 1 := ⟨k - 1, by omega⟩
      rw [probe_All.l0_succ]
      unfold probe_All.l0b
      change probe_All.l1 (m + 1) T s ((b : Int), o0) self4 n (w64 ((a : Int) + 1), []) = _
      rw [show w64 ((a : Int) + 1) = ((a + 1 : Nat) : Int) from w64_id (by omega) (by omega)]
      exact ih (a + 1) (by omega) (by omega)
    · rw [decide_eq_false (p := (a : Int) < (b : Int)) (by omega)]
      rfl

theorem clear_l2 (k : Nat) (hk : 1000 ≤ k) (s : Int × Int) {T : List (List Nd)} (h : Clear k s T) : ∀ (n b : Nat), b ≤ T.length → T.length - b < n → probe_All.l2 k T s n ((b : Int), []) = some (.inl []) := by
  intro n
  have hf := h.len
  induction n with
  | zero => intro b _ h; omega
  | succ n ih =>
    intro b hb hn
    rw [probe_All.l2_succ]
    unfold probe_All.l2b
    dsimp only
    by_cases hlt : b < T.length
    · rw [decide_eq_true (p := (b : Int) < ((T.length : Nat) : Int)) (by omega), cond_true]
      have := clear_l1 k hk s h hlt (o0 := []) (self4 := fun x => probe_All.l2 k T s n x) k 0 (by omega) (by omega)
      rw [show ((0 : Nat) : Int) = 0 from rfl] at this
      rw [this, show w64 ((b : Int) + 1) = ((b + 1 : Nat) : Int) from w64_id (by omega) (by omega)]
      exact ih (b + 1) (by omega) (by omega)
    · rw [decide_eq_false (p := (b : Int) < ((T.length : Nat) : Int)) (by omega)]
      rfl

theorem clear_all (k : Nat) (hk : 1000 ≤ k) (s : Int × Int) (hs : probe_CheckSep.F k s = some 0) {T : List (List Nd)} (h : Clear k s T) : probe_All.F k T s = some ([], 0) := by
  have hf := h.len
  have hc : probe_check.F k s T = some 0 := by
    unfold probe_check.F
    rw [hs]
    simp only [Option.bind_some]
    rw [cond_neg (c := (0 : Int) != 0) (by rfl)]
    exact jprck_loop k (by omega) T (by omega) h.ok k 0 (by omega) (by omega)
  unfold probe_All.F
  rw [hs]
  simp only [Option.bind_some]
  rw [cond_neg (c := (0 : Int) != 0) (by rfl), cond_neg (c := decide (((T.length : Nat) : Int) > 24)) (decide_eq_false (by omega)), hc]
  simp only [Option.bind_some]
  rw [cond_neg (c := (0 : Int) != 0) (by rfl)]
  have := clear_l2 k hk s h k 0 (by omega) (by omega)
  rw [show ((0 : Nat) : Int) = 0 from rfl] at this
  rw [this]
  simp only [Option.bind_some]
  rw [cond_neg (c := decide (((([] : List (Int × Int × Int × Int)).length : Nat) : Int) > 256)) (by rfl)]
  obtain ⟨ys, hy⟩ := sorted_exists (cmp := fun a b => probe_All_1.F k a b) (cf := fun (_ _ : Int × Int × Int × Int) => (0 : Int)) ⟨fun _ _ => rfl, fun _ _ _ h => by omega, fun _ _ _ _ _ => Int.le_refl _⟩ (xs := []) (by simp) (fun x hx => by cases hx) List.Pairwise.nil
  have hperm : ys.Perm [] := by obtain ⟨_, _, _, _, _, h4, _⟩ := hy; exact h4
  rw [sortO_eq hy, hperm.eq_nil]
  rfl

attribute [local irreducible] probe_All.F

/-! ### What the law does with the best choice -/

def psum (l : List (List Opn)) (c : List Int) (a : Nat) : Int := ((List.range a).map fun j => (cop l c j).1).sum
def ptub (l : List (List Opn)) (c : List Int) (a : Nat) : List (List Nd) := (List.range a).map fun j => (cop l c j).2

theorem psum_succ {l : List (List Opn)} {c : List Int} {a : Nat} : psum l c (a + 1) = psum l c a + (cop l c a).1 := by
  unfold psum
  rw [List.range_succ, List.map_append, List.sum_append]
  simp
theorem ptub_succ {l : List (List Opn)} {c : List Int} {a : Nat} : ptub l c (a + 1) = ptub l c a ++ [(cop l c a).2] := by
  unfold ptub
  rw [List.range_succ, List.map_append]
  simp

theorem psum_bound {l : List (List Opn)} (hl : LOk l) {c : List Int} (hc : InR l c) : ∀ a, a ≤ c.length → 0 ≤ psum l c a ∧ psum l c a ≤ 1000000 * (a : Int)
  | 0, _ => by simp [psum]
  | a + 1, ha => by
    have ih := psum_bound hl hc a (by omega)
    have hr := hc.len
    have ho := hl.at (b := a) (by omega) (hc.co (show a < c.length by omega)).2
    rw [psum_succ]
    have h1 : 0 ≤ (cop l c a).1 := ho.low
    have h2 : (cop l c a).1 ≤ 1000000 := ho.high
    omega

theorem free_loop (k : Nat) {l : List (List Opn)} (hl : LOk l) {c : List Int} (hc : InR l c) (t : Int × Int) : ∀ n a : Nat, a ≤ c.length → c.length - a < n →
    skywaykeep3_JointFree.l0 k l (c, t) n (((cst l c - psum l c a, (a : Int)), ptub l c a)) = some (.inl (0, ptub l c c.length)) := by
  intro n
  induction n with
  | zero => intro a _ h; omega
  | succ n ih =>
    intro a ha hn
    have h6 := hl.len
    have hlen := hc.len
    rw [skywaykeep3_JointFree.l0_succ]
    unfold skywaykeep3_JointFree.l0b
    dsimp only
    by_cases hlt : a < c.length
    · obtain ⟨ea, la⟩ := hc.co hlt
      have hB : l.getD ((a : Int)).toNat [] = ops l a := by simp [ops]
      rw [decide_eq_true (p := (a : Int) < ((c.length : Nat) : Int)) (by omega), decide_eq_true (p := 0 ≤ (a : Int)) (by omega), decide_eq_false (p := (a : Int) ≥ ((l.length : Nat) : Int)) (by omega), decide_eq_true (p := (a : Int) < ((l.length : Nat) : Int)) (by omega), hB, getD_nat, ea,
        decide_eq_false (p := ((co c a : Nat) : Int) < 0) (by omega), decide_eq_false (p := ((co c a : Nat) : Int) ≥ (((ops l a).length : Nat) : Int)) (by omega), decide_eq_true (p := 0 ≤ ((co c a : Nat) : Int)) (by omega), decide_eq_true (p := ((co c a : Nat) : Int) < (((ops l a).length : Nat) : Int)) (by omega), getD_nat]
      simp only [Bool.and_self, cond_true, cond_false, Option.bind_some]
      have hpl : (ptub l c a).length = a := by simp [ptub]
      rw [hpl, Nat.ble_eq_true_of_le (by omega), cond_true]
      have p0 := psum_bound hl hc (a + 1) (by omega)
      have p1 := psum_bound hl hc c.length (by omega)
      have hcs : cst l c = psum l c c.length := rfl
      have e1 : w64 (cst l c - psum l c a - ((ops l a).getD (co c a) (0, [])).1) = cst l c - psum l c (a + 1) := by
        have : cst l c - psum l c a - ((ops l a).getD (co c a) (0, [])).1 = cst l c - psum l c (a + 1) := by
          rw [psum_succ]
          show _ - (cop l c a).1 = _
          omega
        rw [this]
        exact w64_id (by omega) (by omega)
      rw [e1, show w64 ((a : Int) + 1) = ((a + 1 : Nat) : Int) from w64_id (by omega) (by omega)]
      have := ih (a + 1) (by omega) (by omega)
      rw [ptub_succ] at this
      exact this
    · rw [decide_eq_false (p := (a : Int) < ((c.length : Nat) : Int)) (by omega)]
      have : a = c.length := by omega
      subst this
      have : cst l c - psum l c c.length = 0 := Int.sub_self _
      rw [cond_false, this]

theorem ptub_at {l : List (List Opn)} {c : List Int} {n a : Nat} (h : a < n) : tub (ptub l c n) a = (cop l c a).2 := by
  unfold tub ptub
  simp [List.getD, h]

theorem JointFree_plain (k : Nat) (hk : 1000 ≤ k) (hk2 : k ≤ 4611686018427387904) (hf : skywaykeep3_jointFact.F k = some true) (l : List (List Opn)) (s : Int × Int) (hl : l.length < k) (ho : ∀ o ∈ l, o.length < k) : skywaykeep3_JointFree.F k l s = some true := by
  unfold skywaykeep3_JointFree.F
  rw [hf]
  simp only [Option.bind_some, Bool.not_true, cond_false]
  obtain ⟨r, hr, hsh, _⟩ := few_eq k (by omega) hk2 l hl ho
  rw [hr]
  simp only [Option.bind_some]
  cases r with
  | false => rfl
  | true =>
    have hsh := hsh rfl
    simp only [Bool.not_true, cond_false]
    obtain ⟨b, c, e, hb, hbi⟩ := best_eq k hk s hsh.lsm
    rw [hb]
    simp only [Option.bind_some]
    cases hbi with
    | bad _ hne => rw [cond_pos (c := e != 0) (by simpa using hne)]; rfl
    | none _ _ hs hn =>
      subst hn
      rw [cond_neg (c := (0 : Int) != 0) (by rfl)]
      have h1 : skywaykeep3_JointFree.l0 k ([] : List (List Opn)) (([] : List Int), 0, 0) k ((0, 0), []) = some (.inl (0, [])) := by
        obtain ⟨m, rfl⟩ : ∃ m, k = m + 1 := ⟨k - 1, by omega⟩
        rw [skywaykeep3_JointFree.l0_succ]
        rfl
      rw [h1]
      simp only [Option.bind_some]
      rw [clear_all k hk s hs (T := []) ⟨by simp, by simp, by simp, by simp⟩]
      rfl
    | clash => rfl
    | free hbo hl hs h0 hw _ =>
      rw [cond_neg (c := (0 : Int) != 0) (by rfl)]
      have h6 := hl.len
      have hall := hw.all
      have hloop := free_loop k hl hw.inr (cst l b, 0) k 0 (by omega) (by omega)
      rw [show cst l b - psum l b 0 = cst l b by simp [psum], show ptub l b 0 = [] from rfl, show ((0 : Nat) : Int) = 0 from rfl] at hloop
      rw [hloop]
      simp only [Option.bind_some]
      have hm : ∀ t ∈ ptub l b b.length, ∃ j, j < b.length ∧ t = (cop l b j).2 := fun t ht => by
        obtain ⟨j, hj, e⟩ := List.mem_map.1 ht
        exact ⟨j, List.mem_range.1 hj, e.symm⟩
      have hcl : Clear k s (ptub l b b.length) := by
        refine ⟨by simp [ptub]; omega, fun t ht => ?_, fun t ht => ?_, fun a ha c hc => ?_⟩
        · obtain ⟨j, hj, rfl⟩ := hm t ht
          exact (hl.at (by omega) (hw.inr.co hj).2).tube
        · obtain ⟨j, hj, rfl⟩ := hm t ht
          exact hsh.lsm _ (ops_mem (show j < l.length by omega)) _ (opt_mem (hw.inr.co hj).2)
        · have ha' : a < b.length := by simpa [ptub] using ha
          rw [ptub_at (show c < b.length by omega), ptub_at ha']
          have mc := ops_mem (l := l) (show c < l.length by omega)
          have oc := opt_mem (l := l) (hw.inr.co (show c < b.length by omega)).2
          exact (cla_eq k hk s hs (hl.at (b := c) (by omega) (hw.inr.co (show c < b.length by omega)).2).tube (hl.at (b := a) (by omega) (hw.inr.co ha').2).tube (hsh.lsm _ mc _ oc)).2.1 (hw.free a ha' c hc)
      rw [clear_all k hk s hs hcl]
      simp [hall]

end Go.Proofs.Ytlaejfnmhfkdpaa.RT
