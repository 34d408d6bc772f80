/- What is proved here: what 'small' comes to. It asks nothing. -/
import Derived.Test.YtdpchhbbmlhklaaGreatDoorRsT
import Derived.Test.YtdpchhbbmlhklaaGreatDoorTubQ
namespace Go.Proofs.YtdpchhbbmlhklaaGreatDoor.RT
open Go Go.R

attribute [local irreducible] tube_Check.F tube_at.F plane_Check.F tube_Point.F

theorem small_loop (k : Nat) (hk : 100 ≤ k) (l : List (List Nd)) (hl : l.length ≤ 64) (d : Int) : ∀ n i : Nat, i ≤ l.length → l.length - i < n →
    ∃ r, skywaykeep3_small.l0 k l d n i = some r ∧ (r = true ↔ ∀ t ∈ l.drop i, TubeOk t ∧ tl t - tm t 0 ≤ d) := by
  intro n
  induction n with
  | zero => intro i _ h; omega
  | succ n ih =>
    intro i hi hn
    rw [skywaykeep3_small.l0_succ]
    unfold skywaykeep3_small.l0b
    by_cases hlt : i < l.length
    · have hd := drop_cons hlt ([] : List Nd)
      rw [tub_eq] at hd
      rw [decide_eq_true (p := (i : Int) < ((l.length : Nat) : Int)) (by omega), decide_eq_true (p := 0 ≤ (i : Int)) (by omega)]
      have hg : l.getD ((i : Int)).toNat [] = tub l i := by rw [Int.toNat_natCast]; rfl
      rw [hg]
      simp only [Bool.and_self, cond_true]
      rw [hd]
      simp only [List.mem_cons, forall_eq_or_imp]
      by_cases ht : TubeOk (tub l i)
      · have hp := ht.pos
        have hle := ht.len
        rw [tcheck_pos hk ht]
        simp only [Option.bind_some]
        rw [cond_neg (c := (0 : Int) != 0) (by rfl), last_ix hp hle]
        rw [cond_pos (c := decide (0 ≤ (((tub l i).length - 1 : Nat) : Int)) && decide ((((tub l i).length - 1 : Nat) : Int) < (((tub l i).length : Nat) : Int))) (by simp; omega)]
        rw [cond_pos (c := decide ((0 : Nat) ≤ 0) && decide ((0 : Int) < (((tub l i).length : Nat) : Int))) (by simp; omega)]
        change ∃ r, (bif decide (w64 (tl (tub l i) - tm (tub l i) 0) > d) then some false else skywaykeep3_small.l0 k l d n (w64 (↑i + 1))) = some r ∧ _
        have b0 := ht.tmb (j := 0) (by omega)
        have b1 := ht.tmb (j := (tub l i).length - 1) (by omega)
        change 0 ≤ tl (tub l i) ∧ tl (tub l i) ≤ 200000 at b1
        rw [w64_id (by omega) (by omega)]
        by_cases hc : tl (tub l i) - tm (tub l i) 0 > d
        · rw [decide_eq_true hc]
          exact ⟨false, rfl, ⟨fun h => (by cases h), fun h => by have := h.1.2; omega⟩⟩
        · rw [decide_eq_false hc]
          simp only [cond_false]
          rw [show w64 ((i : Int) + 1) = ((i + 1 : Nat) : Int) from w64_id (by omega) (by omega)]
          obtain ⟨r, hr, hq⟩ := ih (i + 1) (by omega) (by omega)
          exact ⟨r, hr, hq.trans ⟨fun h => ⟨⟨ht, by omega⟩, h⟩, fun h => h.2⟩⟩
      · obtain ⟨e, he, hq⟩ := tcheck_neg hk ht
        rw [hq]
        simp only [Option.bind_some]
        rw [cond_pos (c := e != 0) (by simpa using he)]
        exact ⟨false, rfl, ⟨fun h => (by cases h), fun h => absurd h.1.1 ht⟩⟩
    · rw [decide_eq_false (p := (i : Int) < ((l.length : Nat) : Int)) (by omega), List.drop_eq_nil_of_le (by omega)]
      exact ⟨true, rfl, by simp⟩

theorem small_eq (k : Nat) (hk : 100 ≤ k) (l : List (List Nd)) (m d : Int) (hm : m ≤ 64) : ∃ r, skywaykeep3_small.F k l m d = some r ∧ (r = true ↔ (l.length : Int) ≤ m ∧ ∀ t ∈ l, TubeOk t ∧ tl t - tm t 0 ≤ d) := by
  unfold skywaykeep3_small.F
  by_cases hl : (l.length : Int) ≤ m
  · rw [cond_neg (decide_eq_false (by omega))]
    obtain ⟨r, hr, hq⟩ := small_loop k hk l (by omega) d k 0 (by omega) (by omega)
    exact ⟨r, hr, hq.trans ⟨fun h => ⟨hl, h⟩, fun h => h.2⟩⟩
  · rw [cond_pos (decide_eq_true (by omega))]
    exact ⟨false, rfl, ⟨fun h => (by cases h), fun h => absurd h.1 hl⟩⟩

end Go.Proofs.YtdpchhbbmlhklaaGreatDoor.RT
