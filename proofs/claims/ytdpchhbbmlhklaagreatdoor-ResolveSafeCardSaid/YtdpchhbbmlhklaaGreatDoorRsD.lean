/- What is proved here: distances, a flight with another speed, a flight that goes directly. They ask nothing. -/
import Derived.Test.YtdpchhbbmlhklaaGreatDoorRsT
import Derived.Test.YtdpchhbbmlhklaaGreatDoorRsB
import Derived.Test.YtdpchhbbmlhklaaGreatDoorDistA
namespace Go.Proofs.YtdpchhbbmlhklaaGreatDoor.RT
open Go Go.R

attribute [local irreducible] tube_Check.F tube_at.F plane_Check.F tube_Point.F phrase_Check.F aircraft_Check.F effect_divide.F effect_changed.F effect_Of.F

/-! ### Distances -/


attribute [local irreducible] plane_Distance.F

theorem ups_eq (k : Nat) {d s : Int} (hd : 0 ≤ d) (hd' : d ≤ 4000000) (hs : 1 ≤ s) (hs' : s ≤ 4000000) : ∃ u, effect_up.F k d s = some u ∧ 1 ≤ u ∧ u ≤ 8000000 ∧ d ≤ s * u := by
  unfold effect_up.F
  rw [cond_pos (c := s != 0) (by simp; omega), w64_id (n := d + s) (by omega) (by omega), w64_id (n := d + s - 1) (by omega) (by omega)]
  have e : Int.tdiv (d + s - 1) s = (d + s - 1) / s := Int.tdiv_eq_ediv_of_nonneg (by omega)
  have e0 : 0 ≤ (d + s - 1) / s := Int.ediv_nonneg (by omega) (by omega)
  have e1 : (d + s - 1) / s ≤ d + s - 1 := Int.ediv_le_self _ (by omega)
  have e2 : d + s - 1 < s * ((d + s - 1) / s + 1) := by
    have := Int.lt_mul_ediv_self_add (x := d + s - 1) (k := s) (by omega)
    rw [Int.mul_add]
    omega
  rw [Int.mul_add] at e2
  rw [e, w64_id (n := (d + s - 1) / s) (by omega) (by omega)]
  refine ⟨_, rfl, by unfold mx; split <;> omega, by unfold mx; split <;> omega, ?_⟩
  unfold mx
  split
  · omega
  · have : s * ((d + s - 1) / s) ≤ s * 1 := Int.mul_le_mul_of_nonneg_left (by omega) (by omega)
    omega

attribute [local irreducible] effect_up.F


theorem last_app (x : List Nd) (v : Nd) : nd (x ++ [v]) ((x ++ [v]).length - 1) = v := by
  unfold nd
  rw [List.length_append, List.length_singleton, Nat.add_sub_cancel, List.getD, List.getElem?_append_right (Nat.le_refl _), Nat.sub_self]
  rfl

theorem bk_nil {l : List Nd} (h : TubeOk l) {t : Int} (ht : t < tl l) : bk l t ≠ [] := fun e => by
  have hp := h.pos
  have : nd l (l.length - 1) ∈ bk l t := by
    unfold bk
    rw [List.mem_filter]
    exact ⟨nd_mem (by omega), by
      have : tl l = (nd l (l.length - 1)).1.1 := rfl
      simp only [gt_iff_lt, decide_eq_true_eq]
      omega⟩
  rw [e] at this
  cases this

theorem bk_end {l : List Nd} (h : TubeOk l) {t : Int} (ht : t = tl l) : bk l t = [] := by
  unfold bk
  rw [List.filter_eq_nil_iff]
  intro n hn
  obtain ⟨j, hj, e⟩ := nd_of hn
  have := h.le (show j ≤ l.length - 1 by omega) (by omega)
  change tm l j ≤ tl l at this
  unfold tm at this
  rw [e] at this
  simp only [gt_iff_lt, decide_eq_true_eq]
  omega

/-- Where nothing is behind the time, a clearance of a kind other than a height changes nothing. -/
theorem changed_end (k : Nat) (hk : 100 ≤ k) {l : List Nd} (h : TubeOk l) {t : Int} (ht : t = tl l) (c : Cl) (hc : c.2.1 ≠ 0) (a : Kd) (p : Pt) : effect_changed.F k l c t a p = some (l, 0) := by
  have hlen := h.len
  unfold effect_changed.F
  rw [divide_eq k hk h, bk_end h ht]
  simp only [Option.bind_some]
  rw [cond_neg (c := c.2.1 == 0) (beq_false_of_ne hc), cond_pos (c := (((([] : List Nd).length : Nat) : Int) == 0)) (by rfl)]
  simp only [Option.bind_some, cond_true]
  rw [clone_eq k (by omega)]
  rfl

theorem direct_eq (k : Nat) (hk : 100 ≤ k) {l : List Nd} (h : TubeOk l) {t : Int} (h0 : tm l 0 ≤ t) (h1 : t < tl l) (call tx : ByteArray) (val : Int) (a : Kd) {p : Pt} (hp : PtOk p) :
    (∃ e, e ≠ 0 ∧ effect_changed.F k l (call, (3, (val, tx))) t a p = some ([], e)) ∨ (∃ H v, effect_changed.F k l (call, (3, (val, tx))) t a p = some (H ++ [v], 0) ∧ v.1.2.1 = p ∧ v.1.2.2 = (pt k l t).1.2.2 ∧ t ≤ v.1.1 ∧ v.2.1 = (pt k l t).2.1) := by
  have hhs : hs l t = true := by unfold hs; rw [decide_eq_true h0, decide_eq_true (p := t ≤ tl l) (by omega)]; rfl
  obtain ⟨q, hq, he⟩ := (at_cases k hk h t).2.2 hhs
  have hnow : NdOk (pt k l t) := by rw [he]; exact seg_ok h hq (by omega)
  have htime : (pt k l t).1.1 = t := by rw [he, ndAt_time]
  have htb := hnow.time
  have hbl : 0 < (bk l t).length := List.length_pos_iff.2 (bk_nil h h1)
  have hb0 : NdOk (nd (bk l t) 0) ∧ t < tm (bk l t) 0 := by
    have := List.mem_filter.1 (nd_mem hbl)
    exact ⟨h.node _ this.1, by have := this.2; simp only [gt_iff_lt, decide_eq_true_eq] at this; exact this⟩
  have hb1 := hb0.1.time
  rw [tm_eq] at hb1
  unfold effect_changed.F
  rw [divide_eq k hk h]
  simp only [Option.bind_some]
  rw [cond_neg (c := (3 : Int) == 0) (by rfl), cond_neg (c := (((bk l t).length : Nat) : Int) == 0) (beq_false_of_ne (by omega))]
  simp only [Option.bind_some]
  rw [cond_neg (c := decide ((3 : Int) > 3)) (by rfl), cond_neg (c := (3 : Int) == 1) (by rfl), cond_neg (c := (3 : Int) == 2) (by rfl)]
  rw [cond_pos (c := decide ((0 : Nat) ≤ 0) && decide ((0 : Int) < (((bk l t).length : Nat) : Int))) (by simp; omega)]
  have hg : (bk l t).getD 0 ((0, ((0, 0), 0)), (0, 0)) = nd (bk l t) 0 := rfl
  rw [hg, tm_eq, htime]
  obtain ⟨lo, hi, hdd, l0, l1, l2, _⟩ := dist_eq k hnow.pt hb0.1.pt
  rw [hdd]
  simp only [Option.bind_some]
  rw [cond_pos (c := decide ((0 : Nat) ≤ 0) && decide ((0 : Int) < (((bk l t).length : Nat) : Int))) (by simp; omega)]
  rw [w64_id (n := tm (bk l t) 0 - t) (by omega) (by omega)]
  rw [cond_pos (c := tm (bk l t) 0 - t != 0) (by simp; omega)]
  have hs0 : 0 ≤ Int.tdiv lo (tm (bk l t) 0 - t) := Int.tdiv_nonneg l0 (by omega)
  have hs1 : Int.tdiv lo (tm (bk l t) 0 - t) ≤ lo := by
    rw [Int.tdiv_eq_ediv_of_nonneg l0]
    exact Int.ediv_le_self _ l0
  rw [w64_id (n := Int.tdiv lo (tm (bk l t) 0 - t)) (by omega) (by omega)]
  by_cases hz : Int.tdiv lo (tm (bk l t) 0 - t) = 0
  · rw [cond_pos (c := Int.tdiv lo (tm (bk l t) 0 - t) == 0) (by rw [hz]; rfl)]
    exact .inl ⟨10, by decide, rfl⟩
  rw [cond_neg (c := Int.tdiv lo (tm (bk l t) 0 - t) == 0) (beq_false_of_ne hz)]
  obtain ⟨lo2, hi2, hd2, m0, m1, m2, m3⟩ := dist_eq k hnow.pt hp
  rw [hd2]
  simp only [Option.bind_some]
  by_cases hz2 : hi2 = 0
  · rw [cond_pos (c := hi2 == 0) (by rw [hz2]; rfl)]
    exact .inr ⟨_, _, rfl, m3 hz2, rfl, by omega, rfl⟩
  rw [cond_neg (c := hi2 == 0) (beq_false_of_ne hz2)]
  obtain ⟨u, hu, u0, u1, _⟩ := ups_eq k (d := hi2) (s := Int.tdiv lo (tm (bk l t) 0 - t)) (by omega) (by omega) (by omega) (by omega)
  rw [hu]
  simp only [Option.bind_some]
  rw [w64_id (n := t + u) (by omega) (by omega)]
  by_cases hc : t + u > 200000
  · rw [decide_eq_true hc]
    exact .inl ⟨12, by decide, rfl⟩
  rw [decide_eq_false hc, cond_false]
  have hhl : (hd l t).length ≤ 64 := Nat.le_trans (List.length_filter_le _ _) h.len
  rw [cond_pos (c := Nat.ble (((hd l t ++ [pt k l t]).length + 1) * 48) 140737488355328) (Nat.ble_eq_true_of_le (by rw [List.length_append, List.length_singleton]; omega))]
  exact .inr ⟨_, _, rfl, rfl, rfl, by show t ≤ t + u; omega, rfl⟩

end Go.Proofs.YtdpchhbbmlhklaaGreatDoor.RT
