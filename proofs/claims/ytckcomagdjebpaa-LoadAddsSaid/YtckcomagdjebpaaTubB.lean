/- What is proved here: what 'small' comes to, and the node of a tube at a time. They ask nothing. -/
import Derived.Test.YtckcomagdjebpaaLdT
import Derived.Test.YtckcomagdjebpaaTubA
namespace Go.Proofs.Ytckcomagdjebpaa.RT
open Go Go.R

attribute [local irreducible] tube_Check.F tube_at.F plane_Check.F

theorem bb_ne (a b : Int) : (a != b) = !decide (a = b) := by
  by_cases h : a = b
  · subst h; simp
  · rw [decide_eq_false h]; simpa using h
theorem bb_eq (a b : Int) : (a == b) = decide (a = b) := by
  by_cases h : a = b
  · subst h; simp
  · rw [decide_eq_false h]; exact beq_false_of_ne h

/-! ### Few and short tubes -/

def tub (l : List (List Nd)) (j : Nat) : List Nd := l.getD j []
theorem tub_eq (l : List (List Nd)) (j : Nat) : l.getD j [] = tub l j := rfl

theorem small_loop (k : Nat) (hk : 100 ≤ k) (l : List (List Nd)) (hl : l.length ≤ 64) (d : Int) : ∀ n i : Nat, i ≤ l.length → l.length - i < n →
    ∃ r, skywaykeep3_small.l0 k l d n i = some r ∧ (r = true ↔ ∀ t ∈ l.drop i, TubeOk t ∧ tl t - tm t 0 ≤ d) := by
  intro n
  induction n with
  | zero => intro i _ h; omega
  | succ n ih =>
    intro i hi hn
    rw [skywaykeep3_small.l0_succ]
    unfold skywaykeep3_small.l0b
    by_cases hlt : i < l.length
    · have hd := drop_cons hlt ([] : List Nd)
      rw [tub_eq] at hd
      rw [decide_eq_true (p := (i : Int) < ((l.length : Nat) : Int)) (by omega), decide_eq_true (p := 0 ≤ (i : Int)) (by omega)]
      have hg : l.getD ((i : Int)).toNat [] = tub l i := by rw [Int.toNat_natCast]; rfl
      rw [hg]
      simp only [Bool.and_self, cond_true]
      rw [hd]
      simp only [List.mem_cons, forall_eq_or_imp]
      by_cases ht : TubeOk (tub l i)
      · have hp := ht.pos
        have hle := ht.len
        rw [tcheck_pos hk ht]
        simp only [Option.bind_some]
        rw [cond_neg (c := (0 : Int) != 0) (by rfl), last_ix hp hle]
        rw [cond_pos (c := decide (0 ≤ (((tub l i).length - 1 : Nat) : Int)) && decide ((((tub l i).length - 1 : Nat) : Int) < (((tub l i).length : Nat) : Int))) (by simp; omega)]
        rw [cond_pos (c := decide ((0 : Nat) ≤ 0) && decide ((0 : Int) < (((tub l i).length : Nat) : Int))) (by simp; omega)]
        change ∃ r, (bif decide (w64 (tl (tub l i) - tm (tub l i) 0) > d) then some false else skywaykeep3_small.l0 k l d n (w64 (↑i + 1))) = some r ∧ _
        have b0 := ht.tmb (j := 0) (by omega)
        have b1 := ht.tmb (j := (tub l i).length - 1) (by omega)
        change 0 ≤ tl (tub l i) ∧ tl (tub l i) ≤ 200000 at b1
        rw [w64_id (by omega) (by omega)]
        by_cases hc : tl (tub l i) - tm (tub l i) 0 > d
        · rw [decide_eq_true hc]
          exact ⟨false, rfl, ⟨fun h => (by cases h), fun h => by have := h.1.2; omega⟩⟩
        · rw [decide_eq_false hc]
          simp only [cond_false]
          rw [show w64 ((i : Int) + 1) = ((i + 1 : Nat) : Int) from w64_id (by omega) (by omega)]
          obtain ⟨r, hr, hq⟩ := ih (i + 1) (by omega) (by omega)
          exact ⟨r, hr, hq.trans ⟨fun h => ⟨⟨ht, by omega⟩, h⟩, fun h => h.2⟩⟩
      · obtain ⟨e, he, hq⟩ := tcheck_neg hk ht
        rw [hq]
        simp only [Option.bind_some]
        rw [cond_pos (c := e != 0) (by simpa using he)]
        exact ⟨false, rfl, ⟨fun h => (by cases h), fun h => absurd h.1.1 ht⟩⟩
    · rw [decide_eq_false (p := (i : Int) < ((l.length : Nat) : Int)) (by omega), List.drop_eq_nil_of_le (by omega)]
      exact ⟨true, rfl, by simp⟩

theorem small_eq (k : Nat) (hk : 100 ≤ k) (l : List (List Nd)) (m d : Int) (hm : m ≤ 64) : ∃ r, skywaykeep3_small.F k l m d = some r ∧ (r = true ↔ (l.length : Int) ≤ m ∧ ∀ t ∈ l, TubeOk t ∧ tl t - tm t 0 ≤ d) := by
  unfold skywaykeep3_small.F
  by_cases hl : (l.length : Int) ≤ m
  · rw [cond_neg (decide_eq_false (by omega))]
    obtain ⟨r, hr, hq⟩ := small_loop k hk l (by omega) d k 0 (by omega) (by omega)
    exact ⟨r, hr, hq.trans ⟨fun h => ⟨hl, h⟩, fun h => h.2⟩⟩
  · rw [cond_pos (decide_eq_true (by omega))]
    exact ⟨false, rfl, ⟨fun h => (by cases h), fun h => absurd h.1 hl⟩⟩

/-! ### The nodes of a tube -/

def hs (l : List Nd) (t : Int) : Bool := decide (tm l 0 ≤ t) && decide (t ≤ tl l)
noncomputable def pt (k : Nat) (l : List Nd) (t : Int) : Nd := (tube_Point.F k l t).getD nd0

theorem at_cases (k : Nat) (hk : 100 ≤ k) {l : List Nd} (h : TubeOk l) (t : Int) : tube_at.F k l t = some (pt k l t, if hs l t = true then 0 else 12) ∧ tube_Point.F k l t = some (pt k l t) ∧ (hs l t = true → ∃ q, InSeg l q t ∧ pt k l t = ndAt l q t) := by
  have key : ∀ p e, tube_at.F k l t = some (p, e) → tube_Point.F k l t = some p ∧ pt k l t = p := fun p e hq => by
    have : tube_Point.F k l t = some p := by unfold tube_Point.F; rw [hq]; rfl
    exact ⟨this, by unfold pt; rw [this]; rfl⟩
  rcases tat_eq k hk l h t with ⟨h1, h2⟩ | ⟨h0, h1, q, h2, h3⟩
  · have hf : hs l t = false := by
      unfold hs
      by_cases g : tm l 0 ≤ t
      · rw [decide_eq_false (p := t ≤ tl l) (fun g' => h1 ⟨g, g'⟩)]; simp
      · rw [decide_eq_false g]; rfl
    obtain ⟨k1, k2⟩ := key _ _ h2
    rw [hf, k2]
    exact ⟨h2, k1, fun h => by cases h⟩
  · have hf : hs l t = true := by unfold hs; rw [decide_eq_true h0, decide_eq_true h1]; rfl
    obtain ⟨k1, k2⟩ := key _ _ h3
    rw [hf, k2]
    exact ⟨h3, k1, fun _ => ⟨q, h2, rfl⟩⟩

theorem point_eq (k : Nat) (hk : 100 ≤ k) {l : List Nd} (h : TubeOk l) (t : Int) : tube_Point.F k l t = some (pt k l t) := (at_cases k hk h t).2.1

theorem At_eq (k : Nat) (hk : 100 ≤ k) {l : List Nd} (h : TubeOk l) (t : Int) : tube_At.F k l t = some (pt k l t, if hs l t = true then 0 else 12) := by
  unfold tube_At.F
  rw [tcheck_pos hk h, (at_cases k hk h t).1]
  rfl

attribute [local irreducible] tube_Point.F tube_At.F

/-! ### All nodes of a tube -/

/-- So many nodes from a time on. -/
noncomputable def nds (k : Nat) (l : List Nd) : Nat → Int → List Nd
  | 0, _ => []
  | n + 1, t => pt k l t :: nds k l n (t + 1)

theorem nds_len (k : Nat) (l : List Nd) : ∀ (n : Nat) (t : Int), (nds k l n t).length = n
  | 0, _ => rfl
  | n + 1, t => by simp [nds, nds_len k l n]

theorem all_loop (k : Nat) (hk : 100 ≤ k) {l : List Nd} (h : TubeOk l) : ∀ (n : Nat) (t : Int), tm l 0 ≤ t → t ≤ tl l + 1 → tl l + 1 - t < n →
    iterL (tube_All_1.pC k l) (tube_All_1.pD k l) (tube_All_1.pT k l) n t = some (nds k l (tl l + 1 - t).toNat t) := by
  intro n
  have hp := h.pos
  have b0 := h.tmb (j := 0) hp
  have b1 := h.tmb (j := l.length - 1) (by omega)
  change 0 ≤ tl l ∧ tl l ≤ 200000 at b1
  induction n with
  | zero => intro t _ _ h; omega
  | succ n ih =>
    intro t h0 h1 hn
    have hC : tube_All_1.pC k l t = some (decide (t ≤ tl l)) := by
      unfold tube_All_1.pC
      rw [last_ix hp h.len, cond_pos (c := decide (0 ≤ ((l.length - 1 : Nat) : Int)) && decide (((l.length - 1 : Nat) : Int) < ((l.length : Nat) : Int))) (by simp; omega)]
      rfl
    have hD : tube_All_1.pD k l t = some (pt k l t) := by
      unfold tube_All_1.pD
      rw [(at_cases k hk h t).1]
      rfl
    rw [iterL, hC]
    simp only [Option.bind_some]
    by_cases hle : t ≤ tl l
    · have hT : tube_All_1.pT k l t = some (w64 (t + 1)) := rfl
      rw [decide_eq_true hle, hD]
      simp only [cond_true, Option.bind_some]
      rw [hT, w64_id (n := t + 1) (by omega) (by omega)]
      simp only [Option.bind_some]
      rw [ih (t + 1) (by omega) (by omega) (by omega)]
      rw [show (tl l + 1 - t).toNat = (tl l + 1 - (t + 1)).toNat + 1 by omega, nds]
      rfl
    · rw [decide_eq_false hle, show (tl l + 1 - t).toNat = 0 by omega]
      rfl

theorem all_eq (k : Nat) (hk : 100 ≤ k) {l : List Nd} (h : TubeOk l) (hs : tl l + 1 - tm l 0 < k) : tube_All_1.F k l = some (nds k l (tl l + 1 - tm l 0).toNat (tm l 0)) := by
  have hp := h.pos
  have hle : tm l 0 ≤ tl l := h.le (Nat.zero_le _) (by omega)
  unfold tube_All_1.F
  have hA : tube_All_1.pA k l = some false := by
    unfold tube_All_1.pA
    rw [tcheck_pos hk h]
    rfl
  have hB : tube_All_1.pB k l = some (tm l 0) := by
    unfold tube_All_1.pB
    rw [cond_pos (c := decide ((0 : Nat) ≤ 0) && decide ((0 : Int) < ((l.length : Nat) : Int))) (by simp; omega)]
    rfl
  rw [hA]
  simp only [Option.bind_some, cond_false]
  rw [hB]
  simp only [Option.bind_some]
  exact all_loop k hk h k (tm l 0) (Int.le_refl _) (by omega) hs

attribute [local irreducible] tube_All_1.F

end Go.Proofs.Ytckcomagdjebpaa.RT
