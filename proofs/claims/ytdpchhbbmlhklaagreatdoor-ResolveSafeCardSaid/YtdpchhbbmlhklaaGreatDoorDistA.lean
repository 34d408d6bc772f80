/- What is proved here: distances. They ask nothing. -/
import Derived.Test.YtdpchhbbmlhklaaGreatDoorRsT
import Derived.Test.YtdpchhbbmlhklaaGreatDoorTubQ
namespace Go.Proofs.YtdpchhbbmlhklaaGreatDoor.RT
open Go Go.R

attribute [local irreducible] tube_Check.F tube_at.F plane_Check.F tube_Point.F

/-! ### Distances -/

abbrev Pt := Int × Int

theorem root_sq {n : Int} (h0 : 0 ≤ n) (h1 : n < 70368744177664) : ∃ r : Int, rootF n = some r ∧ 0 ≤ r ∧ r * r ≤ n ∧ n < (r + 1) * (r + 1) := by
  unfold rootF
  rcases Int.lt_or_le 0 n with g | g
  · rw [decide_eq_false (by omega), decide_eq_true h1]
    obtain ⟨N, rfl⟩ := Int.eq_ofNat_of_zero_le h0
    obtain ⟨a, b⟩ := isq_ok N
    change isq N * isq N ≤ N at a
    change N < (isq N + 1) * (isq N + 1) at b
    refine ⟨(isq N : Nat), by rw [Int.toNat_natCast]; rfl, by omega, by rw [← Int.natCast_mul]; omega, ?_⟩
    rw [show ((isq N : Nat) : Int) + 1 = ((isq N + 1 : Nat) : Int) by omega, ← Int.natCast_mul]
    omega
  · have : n = 0 := by omega
    subst this
    exact ⟨0, rfl, by omega, by omega, by omega⟩

theorem sq_pos {a : Int} : 0 ≤ a * a := by
  rcases Int.le_total 0 a with h | h
  · exact Int.mul_nonneg h h
  · exact Int.mul_nonneg_of_nonpos_of_nonpos h h

theorem dist_eq (k : Nat) {a b : Pt} (ha : PtOk a) (hb : PtOk b) : ∃ lo hi, plane_Distance.F k a b = some (lo, hi) ∧ 0 ≤ lo ∧ lo ≤ hi ∧ hi ≤ 4000000 ∧ (hi = 0 → a = b) := by
  unfold PtOk at ha hb
  unfold plane_Distance.F plane_Square.F plane_Sub.F plane_Dot.F num_Root.F
  simp only [Option.bind_some]
  rw [w64_id (n := a.1 - b.1) (by omega) (by omega), w64_id (n := a.2 - b.2) (by omega) (by omega)]
  have q1 := prod_bound (a := a.1 - b.1) (b := a.1 - b.1) (A := 2000000) (B := 2000000) (by omega) (by omega)
  have q2 := prod_bound (a := a.2 - b.2) (b := a.2 - b.2) (A := 2000000) (B := 2000000) (by omega) (by omega)
  have s1 : 0 ≤ (a.1 - b.1) * (a.1 - b.1) := sq_pos
  have s2 : 0 ≤ (a.2 - b.2) * (a.2 - b.2) := sq_pos
  rw [w64_id (n := (a.1 - b.1) * (a.1 - b.1)) (by omega) (by omega), w64_id (n := (a.2 - b.2) * (a.2 - b.2)) (by omega) (by omega), w64_id (n := (a.1 - b.1) * (a.1 - b.1) + (a.2 - b.2) * (a.2 - b.2)) (by omega) (by omega)]
  obtain ⟨r, hr, r0, r1, r2⟩ := root_sq (n := (a.1 - b.1) * (a.1 - b.1) + (a.2 - b.2) * (a.2 - b.2)) (by omega) (by omega)
  rw [hr]
  simp only [Option.bind_some]
  have hrb : r ≤ 3000000 := by
    rcases Int.lt_or_le 3000000 r with g | g
    · have := Int.mul_le_mul (show 3000000 ≤ r by omega) (show 3000000 ≤ r by omega) (by omega) (by omega)
      omega
    · exact g
  have rr : 0 ≤ r * r := sq_pos
  rw [w64_id (n := r * r) (by omega) (by omega), w64_id (n := r + 1) (by omega) (by omega)]
  by_cases c : r * r < (a.1 - b.1) * (a.1 - b.1) + (a.2 - b.2) * (a.2 - b.2)
  · rw [decide_eq_true c]
    exact ⟨r, r + 1, rfl, r0, by omega, by omega, fun h => by omega⟩
  · rw [decide_eq_false c]
    refine ⟨r, r, rfl, r0, Int.le_refl _, by omega, fun h => ?_⟩
    subst h
    have e1 : (a.1 - b.1) * (a.1 - b.1) = 0 := by omega
    have e2 : (a.2 - b.2) * (a.2 - b.2) = 0 := by omega
    have e3 : a.1 - b.1 = 0 := by rcases Int.mul_eq_zero.1 e1 with h | h <;> exact h
    have e4 : a.2 - b.2 = 0 := by rcases Int.mul_eq_zero.1 e2 with h | h <;> exact h
    exact Prod.ext (by omega) (by omega)

theorem square_comm (k : Nat) {a b : Pt} (ha : PtOk a) (hb : PtOk b) : plane_Square.F k a b = plane_Square.F k b a := by
  unfold PtOk at ha hb
  unfold plane_Square.F plane_Sub.F plane_Dot.F
  simp only [Option.bind_some]
  rw [w64_id (n := a.1 - b.1) (by omega) (by omega), w64_id (n := a.2 - b.2) (by omega) (by omega), w64_id (n := b.1 - a.1) (by omega) (by omega), w64_id (n := b.2 - a.2) (by omega) (by omega)]
  have e1 : (a.1 - b.1) * (a.1 - b.1) = (b.1 - a.1) * (b.1 - a.1) := by grind
  have e2 : (a.2 - b.2) * (a.2 - b.2) = (b.2 - a.2) * (b.2 - a.2) := by grind
  rw [e1, e2]

theorem dist_comm (k : Nat) {a b : Pt} (ha : PtOk a) (hb : PtOk b) : plane_Distance.F k a b = plane_Distance.F k b a := by
  have e := square_comm k ha hb
  unfold plane_Distance.F
  rw [e]

end Go.Proofs.YtdpchhbbmlhklaaGreatDoor.RT
