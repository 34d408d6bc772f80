/- What is proved here: choices, what they clash with, what they cost; the search for the best one. They ask nothing. -/
import Derived.Test.YtlaejfnmhfkdpaaJoT
import Derived.Test.YtlaejfnmhfkdpaaPlA
import Derived.Test.YtlaejfnmhfkdpaaJoA
namespace Go.Proofs.Ytlaejfnmhfkdpaa.RT
open Go Go.R

attribute [local irreducible] tube_Check.F tube_at.F plane_Check.F tube_Point.F skywaykeep3_small.F plane_Distance.F probe_pair.F probe_Pair.F joint_Check.F joint_both.F joint_table.F

/-! ### Choices -/

/-- Choice c's option of flight j. -/
def co (c : List Int) (j : Nat) : Nat := (c.getD j 0).toNat
def cop (l : List (List Opn)) (c : List Int) (j : Nat) : Opn := opt l j (co c j)

structure InR (l : List (List Opn)) (c : List Int) : Prop where
  len : c.length ≤ l.length
  low : ∀ j, j < c.length → 0 ≤ c.getD j 0
  high : ∀ j, j < c.length → c.getD j 0 < (((ops l j).length : Nat) : Int)

theorem InR.co {l : List (List Opn)} {c : List Int} (h : InR l c) {j : Nat} (hj : j < c.length) : c.getD j 0 = ((co c j : Nat) : Int) ∧ co c j < (ops l j).length := by
  have h0 := h.low j hj
  have h1 := h.high j hj
  unfold RT.co
  omega

/-- Nobody clashes with anybody. -/
def Fre (k : Nat) (s : Int × Int) (l : List (List Opn)) (c : List Int) : Prop := ∀ a, a < c.length → ∀ b, b < a → cla k s (cop l c b).2 (cop l c a).2 = false

theorem getD_app {c : List Int} {x : Int} {j : Nat} (hj : j < c.length) : (c ++ [x]).getD j 0 = c.getD j 0 := by simp [List.getD, List.getElem?_append_left hj]
theorem getD_end {c : List Int} {x : Int} : (c ++ [x]).getD c.length 0 = x := by simp [List.getD]
theorem cop_app {l : List (List Opn)} {c : List Int} {x : Int} {j : Nat} (hj : j < c.length) : cop l (c ++ [x]) j = cop l c j := by unfold cop co; rw [getD_app hj]
theorem cop_end {l : List (List Opn)} {c : List Int} {x : Int} : cop l (c ++ [x]) c.length = opt l c.length x.toNat := by unfold cop co; rw [getD_end]

theorem InR.snoc {l : List (List Opn)} {c : List Int} (h : InR l c) (hl : c.length < l.length) {i : Nat} (hi : i < (ops l c.length).length) : InR l (c ++ [(i : Int)]) := by
  refine ⟨by simp; omega, fun j hj => ?_, fun j hj => ?_⟩
  all_goals
    simp only [List.length_append, List.length_singleton] at hj
    by_cases e : j = c.length
    · subst e
      rw [getD_end]
      omega
    · rw [getD_app (by omega)]
      first | exact h.low j (by omega) | exact h.high j (by omega)

/-! ### What the last option clashes with -/

theorem with_loop (k K : Nat) (s : Int × Int) {l : List (List Opn)} (hl : LOk l) {c : List Int} (h : InR l c) (h0 : 0 < c.length) : ∀ n b : Nat, b ≤ c.length - 1 → c.length - 1 - b < n →
    ∃ v, joint_clashes_with.l0 k (tbl K s l) c n b = some v ∧ ((v = -1 ∧ ∀ q, b ≤ q → q < c.length - 1 → cla K s (cop l c q).2 (cop l c (c.length - 1)).2 = false) ∨ ∃ q : Nat, v = q ∧ q < c.length - 1 ∧ cla K s (cop l c q).2 (cop l c (c.length - 1)).2 = true) := by
  intro n
  induction n with
  | zero => intro b _ hn; omega
  | succ n ih =>
    intro b hb hn
    rw [joint_clashes_with.l0_succ]
    unfold joint_clashes_with.l0b
    have h6 := hl.len
    have hcl := h.len
    have hw : w64 (((c.length : Nat) : Int) - 1) = ((c.length - 1 : Nat) : Int) := by rw [w64_id (by omega) (by omega)]; omega
    obtain ⟨a, ha⟩ : ∃ a, c.length - 1 = a := ⟨_, rfl⟩
    rw [hw, ha]
    have hal : a < l.length := by omega
    have hac : a < c.length := by omega
    obtain ⟨ea, la⟩ := h.co hac
    by_cases hlt : b < a
    · obtain ⟨eb, lb⟩ := h.co (show b < c.length by omega)
      obtain ⟨t1, t2, t3, t4⟩ := tbl_at (k := K) (s := s) hal la hlt lb
      have tl0 : (tbl K s l).length = l.length := by unfold tbl; simp
      rw [decide_eq_true (p := (b : Int) < (a : Int)) (by omega), decide_eq_true (p := 0 ≤ (a : Int)) (by omega), decide_eq_true (p := (a : Int) < (((tbl K s l).length : Nat) : Int)) (by omega), decide_eq_true (p := (a : Int) < ((c.length : Nat) : Int)) (by omega),
        getD_nat, getD_nat, getD_nat c 0 b, ea, eb]
      simp only [Bool.and_self, cond_true, getD_nat]
      rw [t1, t2, t3, t4]
      rw [decide_eq_true (p := 0 ≤ ((co c a : Nat) : Int)) (by omega), decide_eq_true (p := ((co c a : Nat) : Int) < (((ops l a).length : Nat) : Int)) (by omega), decide_eq_true (p := 0 ≤ (b : Int)) (by omega), decide_eq_true (p := (b : Int) < (a : Int)) (by omega),
        decide_eq_true (p := (b : Int) < ((c.length : Nat) : Int)) (by omega), decide_eq_true (p := 0 ≤ ((co c b : Nat) : Int)) (by omega), decide_eq_true (p := ((co c b : Nat) : Int) < (((ops l b).length : Nat) : Int)) (by omega)]
      simp only [Bool.and_self, cond_true]
      change ∃ v, (bif cla K s (cop l c b).2 (cop l c a).2 then some (b : Int) else joint_clashes_with.l0 k (tbl K s l) c n (w64 ((b : Int) + 1))) = some v ∧ _
      cases hc : cla K s (cop l c b).2 (cop l c a).2 with
      | true => exact ⟨_, rfl, .inr ⟨b, rfl, hlt, hc⟩⟩
      | false =>
        rw [show w64 ((b : Int) + 1) = ((b + 1 : Nat) : Int) from w64_id (by omega) (by omega), cond_false]
        obtain ⟨v, hv, hr⟩ := ih (b + 1) (by omega) (by omega)
        rw [ha] at hr
        refine ⟨v, hv, ?_⟩
        rcases hr with ⟨rfl, hq⟩ | hq
        · refine .inl ⟨rfl, fun q q1 q2 => ?_⟩
          by_cases e : q = b
          · subst e; exact hc
          · exact hq q (by omega) q2
        · exact .inr hq
    · rw [decide_eq_false (p := (b : Int) < (a : Int)) (by omega)]
      exact ⟨-1, rfl, .inl ⟨rfl, fun q q1 q2 => by omega⟩⟩

theorem with_eq (k K : Nat) (hk : 10 ≤ k) (s : Int × Int) {l : List (List Opn)} (hl : LOk l) {c : List Int} (h : InR l c) (h0 : 0 < c.length) :
    ∃ v, joint_clashes_with.F k (tbl K s l) c = some v ∧ ((v = -1 ∧ ∀ q, q < c.length - 1 → cla K s (cop l c q).2 (cop l c (c.length - 1)).2 = false) ∨ ∃ q : Nat, v = q ∧ q < c.length - 1 ∧ cla K s (cop l c q).2 (cop l c (c.length - 1)).2 = true) := by
  unfold joint_clashes_with.F
  have h6 := hl.len
  have hcl := h.len
  obtain ⟨v, hv, hr⟩ := with_loop k K s hl h h0 k 0 (by omega) (by omega)
  refine ⟨v, hv, ?_⟩
  rcases hr with ⟨rfl, hq⟩ | hq
  · exact .inl ⟨rfl, fun q hq' => hq q (by omega) hq'⟩
  · exact .inr hq

attribute [local irreducible] joint_clashes_with.F

/-! ### Costs -/

def cst (l : List (List Opn)) (c : List Int) : Int := ((List.range c.length).map fun j => (cop l c j).1).sum

theorem cst_snoc {l : List (List Opn)} {c : List Int} {x : Int} : cst l (c ++ [x]) = cst l c + (opt l c.length x.toNat).1 := by
  unfold cst
  rw [List.length_append, List.length_singleton, List.range_succ, List.map_append, List.sum_append, List.map_singleton, cop_end]
  congr 1
  · congr 1
    refine List.map_congr_left fun j hj => ?_
    rw [cop_app (List.mem_range.1 hj)]
  · simp

theorem snoc_of {c : List Int} (h : c ≠ []) : ∃ d x, c = d ++ [x] := ⟨c.dropLast, c.getLast h, (List.dropLast_concat_getLast h).symm⟩

theorem InR.of_snoc {l : List (List Opn)} {c : List Int} {x : Int} (h : InR l (c ++ [x])) : InR l c ∧ c.length < l.length ∧ 0 ≤ x ∧ x.toNat < (ops l c.length).length := by
  have hlen := h.len
  simp only [List.length_append, List.length_singleton] at hlen
  have l0 := h.low c.length (by simp)
  have l1 := h.high c.length (by simp)
  rw [getD_end] at l0 l1
  refine ⟨⟨by omega, fun j hj => ?_, fun j hj => ?_⟩, by omega, l0, by omega⟩
  · have := h.low j (by simp; omega)
    rwa [getD_app hj] at this
  · have := h.high j (by simp; omega)
    rwa [getD_app hj] at this

theorem cst_bound {l : List (List Opn)} (hl : LOk l) : ∀ (n : Nat) (c : List Int), c.length = n → InR l c → 0 ≤ cst l c ∧ cst l c ≤ 1000000 * (n : Int)
  | 0, c, hc, _ => by
    obtain rfl : c = [] := List.eq_nil_of_length_eq_zero hc
    simp [cst]
  | n + 1, c, hc, h => by
    obtain ⟨d, x, rfl⟩ := snoc_of (c := c) (fun e => by simp [e] at hc)
    obtain ⟨h1, h2, h3, h4⟩ := h.of_snoc
    have ih := cst_bound hl n d (by simpa using hc) h1
    have ho := hl.at h2 h4
    rw [cst_snoc]
    have := ho.low
    have := ho.high
    omega

/-- What extends a choice costs no less. -/
theorem cst_ext {l : List (List Opn)} (hl : LOk l) {c : List Int} : ∀ (m : Nat) (e : List Int), e.length = m → InR l (c ++ e) → cst l c ≤ cst l (c ++ e)
  | 0, e, he, _ => by
    obtain rfl : e = [] := List.eq_nil_of_length_eq_zero he
    rw [List.append_nil]
    exact Int.le_refl _
  | m + 1, e, he, h => by
    obtain ⟨d, x, rfl⟩ := snoc_of (c := e) (fun e' => by simp [e'] at he)
    rw [← List.append_assoc] at h ⊢
    obtain ⟨h1, h2, h3, h4⟩ := h.of_snoc
    have ih := cst_ext hl m d (by simpa using he) h1
    rw [cst_snoc]
    have := (hl.at h2 h4).low
    omega

theorem Fre.of_snoc {k : Nat} {s : Int × Int} {l : List (List Opn)} {c : List Int} {x : Int} (h : Fre k s l (c ++ [x])) : Fre k s l c ∧ ∀ b, b < c.length → cla k s (cop l (c ++ [x]) b).2 (cop l (c ++ [x]) c.length).2 = false := by
  refine ⟨fun a ha b hb => ?_, fun b hb => h c.length (by simp) b hb⟩
  have := h a (by simp; omega) b hb
  rwa [cop_app ha, cop_app (by omega)] at this

theorem Fre.snoc {k : Nat} {s : Int × Int} {l : List (List Opn)} {c : List Int} {x : Int} (h : Fre k s l c) (hx : ∀ b, b < c.length → cla k s (cop l (c ++ [x]) b).2 (cop l (c ++ [x]) c.length).2 = false) : Fre k s l (c ++ [x]) := fun a ha b hb => by
  simp only [List.length_append, List.length_singleton] at ha
  by_cases e : a = c.length
  · subst e; exact hx b hb
  · rw [cop_app (by omega), cop_app (by omega)]
    exact h a (by omega) b hb

theorem Fre.pre {k : Nat} {s : Int × Int} {l : List (List Opn)} {c : List Int} : ∀ (m : Nat) (e : List Int), e.length = m → Fre k s l (c ++ e) → Fre k s l c
  | 0, e, he, h => by
    obtain rfl : e = [] := List.eq_nil_of_length_eq_zero he
    rwa [List.append_nil] at h
  | m + 1, e, he, h => by
    obtain ⟨d, x, rfl⟩ := snoc_of (c := e) (fun e' => by simp [e'] at he)
    rw [← List.append_assoc] at h
    exact Fre.pre m d (by simpa using he) h.of_snoc.1

/-- A whole choice without clashes. -/
structure Whole (k : Nat) (s : Int × Int) (l : List (List Opn)) (c : List Int) : Prop where
  inr : InR l c
  all : c.length = l.length
  free : Fre k s l c

/-- A whole choice that begins with c goes on with one of the next flight's options. -/
theorem Whole.next {k : Nat} {s : Int × Int} {l : List (List Opn)} {c e : List Int} (h : Whole k s l (c ++ e)) (hc : c.length < l.length) : ∃ (i : Nat) (e' : List Int), i < (ops l c.length).length ∧ c ++ e = (c ++ [(i : Int)]) ++ e' := by
  cases e with
  | nil => have := h.all; simp at this; omega
  | cons x e' =>
    have l0 := h.inr.low c.length (by simp)
    have l1 := h.inr.high c.length (by simp)
    have e0 : (c ++ x :: e').getD c.length 0 = x := by simp [List.getD]
    rw [e0] at l0 l1
    exact ⟨x.toNat, e', by omega, by rw [show ((x.toNat : Nat) : Int) = x by omega]; simp⟩

end Go.Proofs.Ytlaejfnmhfkdpaa.RT
