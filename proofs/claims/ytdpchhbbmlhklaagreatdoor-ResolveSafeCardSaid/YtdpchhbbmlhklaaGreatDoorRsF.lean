/- What is proved here: a tube that begins as another one, to a time, is near to it until then. They ask nothing. -/
import Derived.Test.YtdpchhbbmlhklaaGreatDoorRsT
import Derived.Test.YtdpchhbbmlhklaaGreatDoorRsE
namespace Go.Proofs.YtdpchhbbmlhklaaGreatDoor.RT
open Go Go.R

attribute [local irreducible] tube_Check.F tube_at.F plane_Check.F tube_Point.F phrase_Check.F aircraft_Check.F effect_divide.F effect_changed.F effect_Of.F plane_Distance.F effect_up.F

/-- A number in between, of a number in between. -/
theorem btw_twice {a b n m d : Int} (hd : 0 < d) (hn : 0 ≤ n) (hnm : n ≤ m) (hm : 0 < m) : btw a b n d - 1 ≤ btw a (btw a b m d) n m ∧ btw a (btw a b m d) n m ≤ btw a b n d := by
  unfold btw
  generalize b - a = x
  rw [show a + x * m / d - a = x * m / d by omega]
  generalize hq : x * m / d = q
  have q1 : q * d ≤ x * m := by rw [← hq]; exact Int.ediv_mul_le _ (by omega)
  have q2 : x * m < (q + 1) * d := by rw [← hq]; exact Int.lt_ediv_add_one_mul_self _ hd
  generalize hr : q * n / m = r
  have r1 : r * m ≤ q * n := by rw [← hr]; exact Int.ediv_mul_le _ (by omega)
  generalize hs : x * n / d = s
  have s1 : s * d ≤ x * n := by rw [← hs]; exact Int.ediv_mul_le _ (by omega)
  have k1 : r ≤ s := by
    rw [← hs]
    refine Int.le_ediv_of_mul_le hd ?_
    have a1 : r * m * d ≤ q * n * d := Int.mul_le_mul_of_nonneg_right r1 (by omega)
    have a2 : q * d * n ≤ x * m * n := Int.mul_le_mul_of_nonneg_right q1 hn
    refine Int.le_of_mul_le_mul_right (a := m) ?_ hm
    rw [Int.mul_right_comm r d m, Int.mul_right_comm x n m]
    rw [Int.mul_right_comm q d n] at a2
    omega
  have k2 : s - 1 ≤ r := by
    rw [← hr]
    refine Int.le_ediv_of_mul_le hm ?_
    have a1 : s * d * m ≤ x * n * m := Int.mul_le_mul_of_nonneg_right s1 (by omega)
    have a2 : x * m * n ≤ (q + 1) * d * n := Int.mul_le_mul_of_nonneg_right (by omega) hn
    have a3 : s * m ≤ (q + 1) * n := by
      refine Int.le_of_mul_le_mul_right (a := d) ?_ hd
      rw [Int.mul_right_comm s m d, Int.mul_right_comm (q + 1) n d]
      rw [Int.mul_right_comm x m n] at a2
      omega
    rw [Int.add_mul, Int.one_mul] at a3
    rw [Int.sub_mul, Int.one_mul]
    omega
  omega

theorem cut_at (t : Int) : (l : List Nd) → (l.Pairwise fun a b => a.1.1 < b.1.1) → ∃ J, J ≤ l.length ∧ hd l t = l.take J ∧ (∀ x ∈ l.take J, x.1.1 < t) ∧ ∀ x ∈ l.drop J, t ≤ x.1.1
  | [], _ => ⟨0, Nat.le_refl _, rfl, by simp, by simp⟩
  | n :: l, h => by
    rw [List.pairwise_cons] at h
    obtain ⟨J, h1, h2, h3, h4⟩ := cut_at t l h.2
    by_cases c : n.1.1 < t
    · refine ⟨J + 1, by simp; omega, ?_, ?_, ?_⟩
      · unfold hd at h2 ⊢
        rw [List.filter_cons_of_pos (by simpa using c), List.take_succ_cons, h2]
      · intro x hx
        rw [List.take_succ_cons] at hx
        rcases List.mem_cons.1 hx with rfl | hx
        · exact c
        · exact h3 x hx
      · intro x hx
        rw [List.drop_succ_cons] at hx
        exact h4 x hx
    · refine ⟨0, Nat.zero_le _, ?_, by simp, ?_⟩
      · unfold hd
        rw [List.take_zero, List.filter_eq_nil_iff]
        intro x hx
        rcases List.mem_cons.1 hx with rfl | hx
        · simpa using c
        · have := h.1 x hx
          simp
          omega
      · intro x hx
        rw [List.drop_zero] at hx
        rcases List.mem_cons.1 hx with rfl | hx
        · omega
        · have := h.1 x hx
          omega

theorem inSeg_one {l : List Nd} (h : TubeOk l) {q r : Nat} {t : Int} (h1 : InSeg l q t) (h2 : InSeg l r t) : q = r := by
  rcases Nat.lt_trichotomy q r with g | g | g
  · have a := h1.2.2 (by have := h2.1; omega)
    have b := h.le (show q + 1 ≤ r by omega) h2.1
    have c := h2.2.1
    omega
  · exact g
  · have a := h2.2.2 (by have := h1.1; omega)
    have b := h.le (show r + 1 ≤ q by omega) h1.1
    have c := h1.2.1
    omega

/-- What is near. -/
def Near (x y : Nd) : Prop := (x.1.2.1.1 - y.1.2.1.1 ≤ 1 ∧ y.1.2.1.1 - x.1.2.1.1 ≤ 1) ∧ (x.1.2.1.2 - y.1.2.1.2 ≤ 1 ∧ y.1.2.1.2 - x.1.2.1.2 ≤ 1) ∧ (x.1.2.2 - y.1.2.2 ≤ 1 ∧ y.1.2.2 - x.1.2.2 ≤ 1)

theorem Near.self (x : Nd) : Near x x := by unfold Near; omega

/-- THE TUBE BEFORE THE TIME. -/
theorem before_at (k : Nat) (hk : 100 ≤ k) {l M X : List Nd} (h : TubeOk l) (hM : TubeOk M) {t : Int} (h0 : tm l 0 ≤ t) (h1 : t ≤ tl l) (he : M = hd l t ++ [pt k l t] ++ X) :
    tm M 0 = tm l 0 ∧ ∀ u, tm l 0 ≤ u → u ≤ t → hs M u = true ∧ Near (pt k l u) (pt k M u) ∧ (u = t → pt k l u = pt k M u) := by
  have hsl : ∀ u, tm l 0 ≤ u → u ≤ t → hs l u = true := fun u g1 g2 => by unfold hs; rw [decide_eq_true g1, decide_eq_true (p := u ≤ tl l) (by omega)]; rfl
  obtain ⟨q0, hq0, hn0⟩ := (at_cases k hk h t).2.2 (hsl t h0 (by omega))
  have htime : (pt k l t).1.1 = t := by rw [hn0, ndAt_time]
  obtain ⟨J, hJ, hJe, hJ1, hJ2⟩ := cut_at t l h.ord
  have hJl : (hd l t).length = J := by rw [hJe, List.length_take]; omega
  have lt1 : ∀ j, j < J → tm l j < t := fun j hj => by
    have : nd l j ∈ l.take J := by
      rw [List.mem_take_iff_getElem]
      refine ⟨j, by omega, ?_⟩
      unfold nd
      simp [List.getD, List.getElem?_eq_getElem (show j < l.length by omega)]
    exact hJ1 _ this
  have ge1 : ∀ j, J ≤ j → j < l.length → t ≤ tm l j := fun j hj hjl => by
    have : nd l j ∈ l.drop J := by
      rw [List.mem_drop_iff_getElem]
      refine ⟨j - J, by omega, ?_⟩
      unfold nd
      simp [List.getD, List.getElem?_eq_getElem hjl, show J + (j - J) = j by omega]
    exact hJ2 _ this
  have hMlen : J + 1 ≤ M.length := by rw [he]; simp; omega
  have m1 : ∀ j, j < J → nd M j = nd l j := fun j hj => by
    unfold nd
    rw [he, List.getD, List.getElem?_append_left (by simp; omega), List.getElem?_append_left (by omega), hJe, List.getElem?_take, if_pos hj, List.getD]
  have m2 : nd M J = pt k l t := by
    unfold nd
    rw [he, List.getD, List.getElem?_append_left (by simp; omega), List.getElem?_append_right (by omega), hJl]
    simp
  have tM : tm M J = t := by unfold tm; rw [m2]; exact htime
  have first : tm M 0 = tm l 0 := by
    rcases Nat.eq_zero_or_pos J with g | g
    · have := ge1 0 (by omega) h.pos
      subst g
      omega
    · unfold tm; rw [m1 0 g]
  refine ⟨first, fun u g1 g2 => ?_⟩
  have hMu : hs M u = true := by
    unfold hs
    rw [first, decide_eq_true g1, decide_eq_true (p := u ≤ tl M) (by
      have := hM.le (show J ≤ M.length - 1 by omega) (by omega)
      unfold tl
      omega)]
    rfl
  refine ⟨hMu, ?_⟩
  obtain ⟨r, hr, hrn⟩ := (at_cases k hk hM u).2.2 hMu
  rcases Int.lt_or_eq_of_le g2 with g | g
  · obtain ⟨q, hq, hqn⟩ := (at_cases k hk h u).2.2 (hsl u g1 g2)
    have hqJ : q < J := by
      rcases Nat.lt_or_ge q J with z | z
      · exact z
      · have := ge1 q z hq.1
        have := hq.2.1
        omega
    have hqM : InSeg M q u := by
      refine ⟨by omega, by unfold tm; rw [m1 q hqJ]; exact hq.2.1, fun _ => ?_⟩
      rcases Nat.lt_or_ge (q + 1) J with z | z
      · unfold tm
        rw [m1 _ z]
        exact hq.2.2 (by omega)
      · rw [show q + 1 = J by omega, tM]
        exact g
    have hrq := inSeg_one hM hr hqM
    subst hrq
    refine ⟨?_, fun e => by omega⟩
    rw [hqn, hrn]
    unfold ndAt
    rw [show tm M r = tm l r by unfold tm; rw [m1 r hqJ], m1 r hqJ]
    by_cases c : tm l r = u
    · rw [if_pos c, if_pos c]
      exact Near.self _
    · rw [if_neg c, if_neg c]
      rcases Nat.lt_or_ge (r + 1) J with z | z
      · rw [m1 _ z]
        exact Near.self _
      · have hJr : J = r + 1 := by omega
        have hnx := hq.next (by have := h1; omega) c
        rw [← hJr, m2]
        have hge := ge1 J (by omega) (by omega)
        by_cases c2 : tm l J = t
        · have : pt k l t = nd l J := by
            have hJs : InSeg l J t := ⟨by omega, by omega, fun hh => by have := h.lt (show J < J + 1 by omega) hh; omega⟩
            have := inSeg_one h hq0 hJs
            subst this
            rw [hn0]
            unfold ndAt
            rw [if_pos c2]
          rw [this]
          exact Near.self _
        · have hrs : InSeg l r t := ⟨by omega, by have := hq.2.1; omega, fun _ => by rw [← hJr]; omega⟩
          have := inSeg_one h hq0 hrs
          subst this
          have hne : tm l q0 ≠ t := by have := lt1 q0 hqJ; omega
          have hp : pt k l t = seg (nd l q0) (nd l J) t := by rw [hn0]; unfold ndAt; rw [if_neg hne, hJr]
          have b1 := hq.2.1
          have b2 := h.lt (show q0 < J by omega) (by omega)
          have tw : ∀ x y : Int, btw x y (u - tm l q0) (tm l J - tm l q0) - 1 ≤ btw x (btw x y (t - tm l q0) (tm l J - tm l q0)) (u - tm l q0) (t - tm l q0) ∧ btw x (btw x y (t - tm l q0) (tm l J - tm l q0)) (u - tm l q0) (t - tm l q0) ≤ btw x y (u - tm l q0) (tm l J - tm l q0) := fun x y => btw_twice (by omega) (by omega) (by omega) (by have := lt1 q0 hqJ; omega)
          rw [hp]
          have w1 := tw (nd l q0).1.2.1.1 (nd l J).1.2.1.1
          have w2 := tw (nd l q0).1.2.1.2 (nd l J).1.2.1.2
          have w3 := tw (nd l q0).1.2.2 (nd l J).1.2.2
          unfold Near seg
          simp only [tm_eq]
          omega
  · subst g
    have hJs : InSeg M J u := ⟨by omega, by omega, fun hh => by have := hM.lt (show J < J + 1 by omega) hh; omega⟩
    have := inSeg_one hM hr hJs
    subst this
    have e : pt k M u = pt k l u := by
      rw [hrn]
      unfold ndAt
      rw [if_pos tM, m2]
    rw [e]
    exact ⟨Near.self _, fun _ => rfl⟩

/-- A tube that goes on behind the time. -/
theorem ext_ok {l : List Nd} (h : TubeOk l) {now : Nd} (hnow : NdOk now) {X : List Nd} (hX : ∀ n ∈ X, NdOk n ∧ now.1.1 < n.1.1) (ho : X.Pairwise fun a b => a.1.1 < b.1.1) (hlen : (hd l now.1.1 ++ [now] ++ X).length ≤ 64) : TubeOk (hd l now.1.1 ++ [now] ++ X) := by
  refine ⟨by simp; omega, hlen, fun n hn => ?_, ?_⟩
  · rw [List.mem_append, List.mem_append, List.mem_singleton] at hn
    rcases hn with (hn | rfl) | hn
    · exact h.node n (List.mem_filter.1 hn).1
    · exact hnow
    · exact (hX n hn).1
  · rw [List.pairwise_append, List.pairwise_append]
    refine ⟨⟨h.ord.filter _, by simp, fun a ha b hb => ?_⟩, ho, fun a ha b hb => ?_⟩
    · rw [List.mem_singleton] at hb
      subst hb
      unfold hd at ha
      rw [List.mem_filter] at ha
      simpa using ha.2
    · have hx2 := (hX b hb).2
      rw [List.mem_append, List.mem_singleton] at ha
      rcases ha with ha | rfl
      · unfold hd at ha
        rw [List.mem_filter] at ha
        have : a.1.1 < now.1.1 := by simpa using ha.2
        omega
      · exact hx2

end Go.Proofs.YtdpchhbbmlhklaaGreatDoor.RT
