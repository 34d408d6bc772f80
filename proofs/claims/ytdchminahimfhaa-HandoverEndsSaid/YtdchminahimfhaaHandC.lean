/- What is proved here: the plain law HandoverOne. It asks nothing. -/
import Derived.Test.YtdchminahimfhaaHandB
namespace Go.Proofs.Ytdchminahimfhaa.RT
open Go Go.R

/-- Is it not so that one is responsible, and only one that is acts. -/
noncomputable def unsound (k : Nat) (a b : Int × Int) : Option Bool :=
  (handover_Responsible.F k a b).bind fun r55 => (bif (r55.2 != 0) then some true else some (decide (r55.1 < 0))).bind fun b56 => (bif b56 then some true else some (decide (r55.1 > 1))).bind fun b57 => bif b57 then some true else bif ((w64 ((1 : Int) - r55.1)) == 0) then (handover_Acts.F k a).bind fun r59 => some (!(!r59)) else bif ((w64 ((1 : Int) - r55.1)) == 1) then (handover_Acts.F k b).bind fun r58 => some (!(!r58)) else none

theorem acts_eq (k : Nat) (s : Int × Int) (h1 : 0 ≤ s.1) (h2 : s.1 ≤ 2) (h3 : 0 ≤ s.2) (h4 : s.2 ≤ 2000) : handover_Acts.F k s = some (s.1 == 1) := by
  unfold handover_Acts.F
  rw [hcheck_eq, if_neg (by omega), if_neg (by omega)]
  rfl

theorem rank_eq (k : Nat) (s : Int × Int) (h3 : 0 ≤ s.2) (h4 : s.2 ≤ 2000) : handover_rank.F k s = some (if s.1 = 0 then 2 * s.2 else 2 * s.2 + 1) := by
  unfold handover_rank.F
  rw [w64_id (n := 2 * s.2) (by omega) (by omega), w64_id (n := 2 * s.2 + 1) (by omega) (by omega)]
  by_cases h : s.1 = 0
  · rw [if_pos h, cond_neg (by simpa using h)]
  · rw [if_neg h, cond_pos (by simpa using h)]

theorem responsible_eq (k : Nat) {n : Int} (hn : n ≤ 1000) {a b : Int × Int} {ta tb : Msgs} (h : J n a b ta tb) :
    (handover_Responsible.F k a b = some (0, 0) ∧ b.1 ≠ 1) ∨ (handover_Responsible.F k a b = some (1, 0) ∧ a.1 ≠ 1) := by
  obtain ⟨a1, a2, a3, a4⟩ := h.bounds
  obtain ⟨b1, b2, b3, b4⟩ := h.swap.bounds
  unfold handover_Responsible.F
  rw [hcheck_eq, hcheck_eq, rank_eq k a a3 (by omega), rank_eq k b b3 (by omega), if_neg (by omega), if_neg (by omega), if_neg (by omega), if_neg (by omega)]
  simp only [Option.bind_some]
  rw [cond_neg (c := (0 : Int) != 0) (by rfl), cond_neg (c := (0 : Int) != 0) (by rfl)]
  have key : ∀ (x y : Int × Int) (tx ty : Msgs) (N : Int), I1 N x y tx ty → (if x.1 = 0 then 2 * x.2 else 2 * x.2 + 1) > (if y.1 = 0 then 2 * y.2 else 2 * y.2 + 1) ∧ y.1 ≠ 1 := fun x y tx ty N g => by
    rcases g.xs with rfl | rfl <;> rcases g.ys with rfl | ⟨rfl, _⟩ <;> simp <;> omega
  obtain ⟨N, _, g | g⟩ := h.one
  · obtain ⟨g1, g2⟩ := key _ _ _ _ _ g
    rw [cond_pos (decide_eq_true g1)]
    exact .inl ⟨rfl, g2⟩
  · obtain ⟨g1, g2⟩ := key _ _ _ _ _ g
    rw [cond_neg (decide_eq_false (by omega)), cond_pos (decide_eq_true g1)]
    exact .inr ⟨rfl, g2⟩

theorem unsound_no (k : Nat) {n : Int} (hn : n ≤ 1000) {a b : Int × Int} {ta tb : Msgs} (h : J n a b ta tb) : unsound k a b = some false := by
  obtain ⟨a1, a2, a3, a4⟩ := h.bounds
  obtain ⟨b1, b2, b3, b4⟩ := h.swap.bounds
  unfold unsound
  rw [acts_eq k a a1 a2 a3 (by omega), acts_eq k b b1 b2 b3 (by omega)]
  rcases responsible_eq k hn h with ⟨g, hb⟩ | ⟨g, ha⟩
  · rw [g]
    have : (b.1 == 1) = false := by simpa using hb
    rw [this]; rfl
  · rw [g]
    have : (a.1 == 1) = false := by simpa using ha
    rw [this]; rfl

theorem one_l0b (k : Nat) (a0 : List Int) (self : ((Int × Int × Int × Int × Int) × Msgs × Msgs) → Option Bool) (i a1 a2 b1 b2 : Int) (ta tb : Msgs) : skywaykeep3_HandoverOne.l0b k a0 self ((i, a1, a2, b1, b2), ta, tb) =
    bif (decide (i < ((a0.length : Nat) : Int))) then bif (decide (0 ≤ i) && decide (i < ((a0.length : Nat) : Int))) then (skywaykeep3_pick.F k (a0.getD i.toNat 0) 5).bind fun r31 => (skywaykeep3_pick.F k (a0.getD i.toNat 0) 10).bind fun r32 => (skywaykeep3_pick.F k (a0.getD i.toNat 0) 1000).bind fun r33 =>
      (stp k r31 r32 r33 a1 a2 b1 b2 ta tb).bind fun x => (bif x.1.1 then some true else unsound k (x.1.2.1, x.1.2.2.1) x.1.2.2.2).bind fun b60 => bif b60 then some false else self ((w64 (i + 1), x.1.2.1, x.1.2.2.1, x.1.2.2.2.1, x.1.2.2.2.2), x.2.1, x.2.2) else none else some true := by kernel_rfl

theorem one_F (k : Nat) (a0 : List Int) : skywaykeep3_HandoverOne.F k a0 =
    (skywaykeep3_handoverFact.F k).bind fun r1 => bif (!r1) then some false else bif (decide (((a0.length : Nat) : Int) > 200)) then some true else skywaykeep3_HandoverOne.l0 k a0 k ((0, 1, 0, 0, 0), [], []) := by kernel_rfl

theorem hfact (m : Nat) : skywaykeep3_handoverFact.F m = some true := by kernel_rfl

theorem begin_ok : J 0 (1, 0) (0, 0) [] [] := ⟨by simp, by simp, 0, by omega, .inl ⟨by omega, .inl rfl, .inl rfl, by simp, by simp⟩⟩

attribute [local irreducible] stp unsound skywaykeep3_pick.F

theorem one_loop (k : Nat) (a0 : List Int) (hl : a0.length ≤ 200) : ∀ (n i : Nat) (a1 a2 b1 b2 : Int) (ta tb : Msgs), i ≤ a0.length → a0.length - i < n → J i (a1, a2) (b1, b2) ta tb → skywaykeep3_HandoverOne.l0 k a0 n ((i, a1, a2, b1, b2), ta, tb) = some true := by
  intro n
  induction n with
  | zero => intro i _ _ _ _ _ _ _ h; omega
  | succ n ih =>
    intro i a1 a2 b1 b2 ta tb hi hm hj
    rw [skywaykeep3_HandoverOne.l0_succ, one_l0b]
    by_cases hlt : i < a0.length
    · rw [cond_pos (decide_eq_true (by omega)), cond_pos (inIdx (by omega) (by omega))]
      obtain ⟨op, p1, _⟩ := pick_ok k (a0.getD (i : Int).toNat 0) 5 (by omega) (by omega)
      obtain ⟨sd, q1, q2, q3⟩ := pick_ok k (a0.getD (i : Int).toNat 0) 10 (by omega) (by omega)
      obtain ⟨ix, r1, _⟩ := pick_ok k (a0.getD (i : Int).toNat 0) 1000 (by omega) (by omega)
      rw [p1, q1, r1]
      simp only [Option.bind_some]
      obtain ⟨a1', a2', b1', b2', ta', tb', s1, s2⟩ := stp_ok k op sd ix ⟨q2, q3⟩ (n := i) (by omega) a1 a2 b1 b2 ta tb hj
      rw [s1]
      simp only [Option.bind_some, cond_false]
      rw [unsound_no k (by omega) s2, w64_id (n := (i : Int) + 1) (by omega) (by omega)]
      simp only [Option.bind_some, cond_false]
      exact ih (i + 1) a1' a2' b1' b2' ta' tb' (by omega) (by omega) s2
    · rw [cond_neg (decide_eq_false (by omega))]

attribute [local irreducible] skywaykeep3_handoverFact.F skywaykeep3_HandoverOne.l0

theorem HandoverOne_plain (a0 : List Int) : skywaykeep3_HandoverOne.F (a0.length + 1) a0 = some true := by
  rw [one_F, hfact]
  simp only [Option.bind_some, Bool.not_true, cond_false]
  by_cases h : a0.length ≤ 200
  · rw [cond_neg (decide_eq_false (by omega))]
    exact one_loop _ a0 h (a0.length + 1) 0 1 0 0 0 [] [] (by omega) (by omega) begin_ok
  · rw [cond_pos (decide_eq_true (by omega))]

attribute [local irreducible] skywaykeep3_HandoverOne.F
theorem one_cal (k : Nat) (x : DatPs (skywaykeep3_HandoverOne.C 0).ats) : (skywaykeep3_HandoverOne.C k).F x = skywaykeep3_HandoverOne.F k x := rfl
theorem HandoverOne_law (x : DatPs (skywaykeep3_HandoverOne.C 0).ats) (_ : FitPs (skywaykeep3_HandoverOne.C 0).ats x) : ∃ k, (skywaykeep3_HandoverOne.C k).F x = some true :=
  ⟨_, (one_cal _ x).trans (HandoverOne_plain x)⟩

end Go.Proofs.Ytdchminahimfhaa.RT
