/- What is proved here: the node of a tube at a time. It asks nothing. -/
import Derived.Test.YtdpchhbbmlhklaaGreatDoorRsT
import Derived.Test.YtdpchhbbmlhklaaGreatDoorTubA
namespace Go.Proofs.YtdpchhbbmlhklaaGreatDoor.RT
open Go Go.R

attribute [local irreducible] tube_Check.F tube_at.F plane_Check.F

theorem bb_ne (a b : Int) : (a != b) = !decide (a = b) := by
  by_cases h : a = b
  · subst h; simp
  · rw [decide_eq_false h]; simpa using h
theorem bb_eq (a b : Int) : (a == b) = decide (a = b) := by
  by_cases h : a = b
  · subst h; simp
  · rw [decide_eq_false h]; exact beq_false_of_ne h

def tub (l : List (List Nd)) (j : Nat) : List Nd := l.getD j []
theorem tub_eq (l : List (List Nd)) (j : Nat) : l.getD j [] = tub l j := rfl

/-! ### The nodes of a tube -/

def hs (l : List Nd) (t : Int) : Bool := decide (tm l 0 ≤ t) && decide (t ≤ tl l)
noncomputable def pt (k : Nat) (l : List Nd) (t : Int) : Nd := (tube_Point.F k l t).getD nd0

theorem at_cases (k : Nat) (hk : 100 ≤ k) {l : List Nd} (h : TubeOk l) (t : Int) : tube_at.F k l t = some (pt k l t, if hs l t = true then 0 else 12) ∧ tube_Point.F k l t = some (pt k l t) ∧ (hs l t = true → ∃ q, InSeg l q t ∧ pt k l t = ndAt l q t) := by
  have key : ∀ p e, tube_at.F k l t = some (p, e) → tube_Point.F k l t = some p ∧ pt k l t = p := fun p e hq => by
    have : tube_Point.F k l t = some p := by unfold tube_Point.F; rw [hq]; rfl
    exact ⟨this, by unfold pt; rw [this]; rfl⟩
  rcases tat_eq k hk l h t with ⟨h1, h2⟩ | ⟨h0, h1, q, h2, h3⟩
  · have hf : hs l t = false := by
      unfold hs
      by_cases g : tm l 0 ≤ t
      · rw [decide_eq_false (p := t ≤ tl l) (fun g' => h1 ⟨g, g'⟩)]; simp
      · rw [decide_eq_false g]; rfl
    obtain ⟨k1, k2⟩ := key _ _ h2
    rw [hf, k2]
    exact ⟨h2, k1, fun h => by cases h⟩
  · have hf : hs l t = true := by unfold hs; rw [decide_eq_true h0, decide_eq_true h1]; rfl
    obtain ⟨k1, k2⟩ := key _ _ h3
    rw [hf, k2]
    exact ⟨h3, k1, fun _ => ⟨q, h2, rfl⟩⟩

theorem point_eq (k : Nat) (hk : 100 ≤ k) {l : List Nd} (h : TubeOk l) (t : Int) : tube_Point.F k l t = some (pt k l t) := (at_cases k hk h t).2.1


end Go.Proofs.YtdpchhbbmlhklaaGreatDoor.RT
