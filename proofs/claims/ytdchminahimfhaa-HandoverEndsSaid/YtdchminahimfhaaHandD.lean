/- What is proved here: the plain law HandoverEnds. It asks nothing. -/
import Derived.Test.YtdchminahimfhaaHandC
namespace Go.Proofs.Ytdchminahimfhaa.RT
open Go Go.R

attribute [local irreducible] stp unsound

theorem ends_l0b (k : Nat) (a0 : List Int) (self : ((Int × Int × Int × Int × Int) × Msgs × Msgs) → Option ((Bool × Int × Int × Int × Int) × Msgs × Msgs)) (i a1 a2 b1 b2 : Int) (ta tb : Msgs) : skywaykeep3_HandoverEnds.l0b k a0 self ((i, a1, a2, b1, b2), ta, tb) =
    bif (decide (i < ((a0.length : Nat) : Int))) then bif (decide (0 ≤ i) && decide (i < ((a0.length : Nat) : Int))) then (skywaykeep3_pick.F k (a0.getD i.toNat 0) 5).bind fun r31 => (skywaykeep3_pick.F k (a0.getD i.toNat 0) 10).bind fun r32 => (skywaykeep3_pick.F k (a0.getD i.toNat 0) 1000).bind fun r33 =>
      (stp k r31 r32 r33 a1 a2 b1 b2 ta tb).bind fun x => (bif x.1.1 then some true else unsound k (x.1.2.1, x.1.2.2.1) x.1.2.2.2).bind fun b60 => bif b60 then some ((true, x.1.2.1, x.1.2.2.1, x.1.2.2.2.1, x.1.2.2.2.2), x.2.1, x.2.2) else self ((w64 (i + 1), x.1.2.1, x.1.2.2.1, x.1.2.2.2.1, x.1.2.2.2.2), x.2.1, x.2.2) else none else some ((false, a1, a2, b1, b2), ta, tb) := by kernel_rfl

theorem ends_l0 (k : Nat) (a0 : List Int) (hl : a0.length ≤ 200) : ∀ (n i : Nat) (a1 a2 b1 b2 : Int) (ta tb : Msgs), i ≤ a0.length → a0.length - i < n → J i (a1, a2) (b1, b2) ta tb →
    ∃ a1' a2' b1' b2' ta' tb', skywaykeep3_HandoverEnds.l0 k a0 n ((i, a1, a2, b1, b2), ta, tb) = some ((false, a1', a2', b1', b2'), ta', tb') ∧ J a0.length (a1', a2') (b1', b2') ta' tb' := by
  intro n
  induction n with
  | zero => intro i _ _ _ _ _ _ _ h; omega
  | succ n ih =>
    intro i a1 a2 b1 b2 ta tb hi hm hj
    rw [skywaykeep3_HandoverEnds.l0_succ, ends_l0b]
    by_cases hlt : i < a0.length
    · rw [cond_pos (decide_eq_true (by omega)), cond_pos (inIdx (by omega) (by omega))]
      obtain ⟨op, p1, _⟩ := pick_ok k (a0.getD (i : Int).toNat 0) 5 (by omega) (by omega)
      obtain ⟨sd, q1, q2, q3⟩ := pick_ok k (a0.getD (i : Int).toNat 0) 10 (by omega) (by omega)
      obtain ⟨ix, r1, _⟩ := pick_ok k (a0.getD (i : Int).toNat 0) 1000 (by omega) (by omega)
      rw [p1, q1, r1]
      simp only [Option.bind_some]
      obtain ⟨a1', a2', b1', b2', ta', tb', s1, s2⟩ := stp_ok k op sd ix ⟨q2, q3⟩ (n := i) (by omega) a1 a2 b1 b2 ta tb hj
      rw [s1]
      simp only [Option.bind_some, cond_false]
      rw [unsound_no k (by omega) s2, w64_id (n := (i : Int) + 1) (by omega) (by omega)]
      simp only [Option.bind_some, cond_false]
      exact ih (i + 1) a1' a2' b1' b2' ta' tb' (by omega) (by omega) s2
    · rw [cond_neg (decide_eq_false (by omega))]
      have : i = a0.length := by omega
      subst this
      exact ⟨a1, a2, b1, b2, ta, tb, rfl, hj⟩

/-- A side that gives is heard, and hears the answer. -/
theorem round_ok (k : Nat) {n : Int} (hn : n ≤ 900) {s o : Int × Int} {ls lo : Msgs} (h : J n s o ls lo) (hs : s.1 = 2) :
    ∃ o', handover_Hear.F k o (false, s.2 + 1) = some (o', (true, s.2 + 1), true, 0) ∧ handover_Hear.F k s (true, s.2 + 1) = some ((0, s.2 + 1), (false, 0), false, 0) ∧ J (n + 1) (0, s.2 + 1) o' [] [] ∧ (o.1 ≠ 2 → o'.1 ≠ 2) := by
  obtain ⟨a1, a2, a3, a4⟩ := h.bounds
  obtain ⟨b1, b2, b3, b4⟩ := h.swap.bounds
  have hs2 : hrs s (true, s.2 + 1) = ((0, s.2 + 1), (false, 0), false, 0) := by
    unfold hrs
    rw [if_neg (by show ¬(s.2 + 1 < 1 ∨ 2000 < s.2 + 1); omega), if_pos rfl, if_pos ⟨hs, rfl⟩]
  have hcond : ¬((false, s.2 + 1) : Bool × Int).2 < 1 ∧ ¬2000 < ((false, s.2 + 1) : Bool × Int).2 := ⟨by show ¬(s.2 + 1 < 1); omega, by show ¬(2000 < s.2 + 1); omega⟩
  rw [hrs_eq k s _ a1 a2 a3 (by omega), hs2, hrs_eq k o _ b1 b2 b3 (by omega)]
  obtain ⟨N, h1, h2 | h2⟩ := h.one
  · -- s is responsible: it hands on
    have h0 := h2.n0
    have e : s = (2, N) := by
      rcases h2.xs with rfl | rfl
      · simp at hs
      · rfl
    subst e
    have ho : hrs o (false, N + 1) = ((1, N + 1), (true, N + 1), true, 0) := by
      unfold hrs
      rw [if_neg (not_or.2 hcond), if_neg (by simp)]
      rcases h2.ys with rfl | ⟨rfl, _⟩
      · rw [if_neg (by simp), if_pos ⟨rfl, rfl⟩]
      · rw [if_pos ⟨rfl, by show N + 1 = N - 1 + 2; omega⟩]
    refine ⟨(1, N + 1), by rw [ho], rfl, ⟨by simp, by simp, N + 1, by omega, .inr ⟨by omega, .inl rfl, .inl rfl, by simp, by simp⟩⟩, fun _ => by simp⟩
  · -- o is responsible: it has heard it
    have h0 := h2.n0
    have e : s = (2, N - 1) ∧ 1 ≤ N := by
      rcases h2.ys with rfl | ⟨rfl, g⟩
      · simp at hs
      · exact ⟨rfl, g⟩
    obtain ⟨rfl, hN⟩ := e
    have eo : o.2 = N := by rcases h2.xs with rfl | rfl <;> rfl
    have eo' : o.1 ≠ 0 := by rcases h2.xs with rfl | rfl <;> simp
    have ho : hrs o (false, N - 1 + 1) = (o, (true, N - 1 + 1), true, 0) := by
      unfold hrs
      rw [if_neg (not_or.2 hcond), if_neg (by simp), if_neg (by rintro ⟨_, g⟩; simp only at g; omega), if_neg (fun g => eo' g.1), if_pos (by show N - 1 + 1 ≤ o.2; omega)]
    refine ⟨o, by rw [ho], rfl, ⟨by simp, by simp, N, by omega, .inr ⟨h2.n0, h2.xs, .inl (by congr 1; omega), by simp, by simp⟩⟩, fun h => h⟩

theorem pick1 (k : Nat) (m : Bool × Int) : skywaykeep3_pick.F k 0 ((([m] : Msgs).length : Nat) : Int) = some 0 := by kernel_rfl
theorem clone1 (k : Nat) (m : Bool × Int) : slices_Clone_api_HandoverMsg.F k [m] = some [m] := by kernel_rfl
theorem delete1 (k : Nat) (m : Bool × Int) : slices_Delete_api_HandoverMsg.F k [m] 0 (w64 (0 + 1)) = some [] := by kernel_rfl

attribute [local irreducible] handover_Again.F handover_Hear.F slices_Clone_api_HandoverMsg.F slices_Delete_api_HandoverMsg.F skywaykeep3_pick.F

/-- What follows the loop's rounds. -/
abbrev EndsK := ((Int × Int × Int × Int × Int) × Msgs × Msgs) → Option (((Int × Int × Int × Int) × Msgs × Msgs) ⊕ Bool)

theorem ends_r0 (k : Nat) (self : EndsK) {n : Int} (hn : n ≤ 900) (a1 a2 b1 b2 : Int) (ta tb : Msgs) (h : J n (a1, a2) (b1, b2) ta tb) :
    ∃ a1' a2' b1' b2', skywaykeep3_HandoverEnds.l1b k self ((0, a1, a2, b1, b2), ta, tb) = self ((w64 (0 + 1), a1', a2', b1', b2'), [], []) ∧ J (n + 1) (a1', a2') (b1', b2') [] [] ∧ a1' ≠ 2 := by
  unfold skywaykeep3_HandoverEnds.l1b
  dsimp only
  rw [cond_pos (c := decide ((0 : Int) < 2)) (by rfl), cond_pos (c := (0 : Int) == 0) (by rfl)]
  have h' : J n (a1, a2) (b1, b2) [] [] := (h.sub (ls' := []) (by simp) (by simp)).swap.sub (ls' := []) (by simp) (by simp) |>.swap
  rcases again_ok k (by omega) h' with ⟨g1, g2⟩ | ⟨g1, g2, _⟩
  · rw [g2]
    simp only [Option.bind_some]
    have : (a1 != 2) = true := by simpa using g1
    rw [this]
    exact ⟨a1, a2, b1, b2, rfl, h'.more, g1⟩
  · obtain ⟨o', r1, r2, r3, _⟩ := round_ok k hn h' g1
    rw [g2]
    simp only [Option.bind_some]
    rw [cond_neg (c := (0 : Int) != 0) (by rfl)]
    simp only [Option.bind_some, cond_false]
    rw [w64_id (n := 1 - 0) (by omega) (by omega), cond_neg (c := (1 : Int) - 0 == 0) (by rfl), cond_pos (c := (1 : Int) - 0 == 1) (by rfl), cond_neg (c := ((([((false, a2 + 1) : Bool × Int)] : Msgs).length : Nat) : Int) == 0) (by rfl), pick1]
    simp only [Option.bind_some]
    have e1 : handover_Hear.F k (b1, b2) (([((false, a2 + 1) : Bool × Int)] : Msgs).getD (Int.toNat 0) (false, 0)) = some (o', (true, a2 + 1), true, 0) := r1
    rw [cond_pos (c := decide ((0 : Int) ≤ 0) && decide ((0 : Int) < ((([((false, a2 + 1) : Bool × Int)] : Msgs).length : Nat) : Int))) (by rfl), clone1]
    simp only [Option.bind_some]
    rw [delete1, e1]
    simp only [Option.bind_some]
    rw [cond_neg (c := (0 : Int) != 0) (by rfl), cond_pos (c := true) rfl, cond_pos (c := decide (((([] : Msgs).length : Nat) : Int) < 40)) (by rfl), cond_pos (c := Nat.ble ((([] : Msgs).length + 1) * 16) 140737488355328) (by rfl)]
    simp only [Option.bind_some, cond_false, List.nil_append]
    rw [cond_pos (c := (0 : Int) == 0) (by rfl), cond_neg (c := ((([((true, a2 + 1) : Bool × Int)] : Msgs).length : Nat) : Int) == 0) (by rfl), pick1]
    simp only [Option.bind_some]
    have e2 : handover_Hear.F k (a1, a2) (([((true, a2 + 1) : Bool × Int)] : Msgs).getD (Int.toNat 0) (false, 0)) = some ((0, a2 + 1), (false, 0), false, 0) := r2
    rw [cond_pos (c := decide ((0 : Int) ≤ 0) && decide ((0 : Int) < ((([((true, a2 + 1) : Bool × Int)] : Msgs).length : Nat) : Int))) (by rfl), clone1]
    simp only [Option.bind_some]
    rw [delete1, e2]
    exact ⟨0, a2 + 1, o'.1, o'.2, rfl, r3, by omega⟩

theorem ends_r1 (k : Nat) (self : EndsK) {n : Int} (hn : n ≤ 900) (a1 a2 b1 b2 : Int) (ta tb : Msgs) (h : J n (a1, a2) (b1, b2) ta tb) (ha : a1 ≠ 2) :
    ∃ a1' a2' b1' b2', skywaykeep3_HandoverEnds.l1b k self ((1, a1, a2, b1, b2), ta, tb) = self ((w64 (1 + 1), a1', a2', b1', b2'), [], []) ∧ J (n + 1) (a1', a2') (b1', b2') [] [] ∧ a1' ≠ 2 ∧ b1' ≠ 2 := by
  unfold skywaykeep3_HandoverEnds.l1b
  dsimp only
  rw [cond_pos (c := decide ((1 : Int) < 2)) (by rfl), cond_neg (c := (1 : Int) == 0) (by rfl), cond_pos (c := (1 : Int) == 1) (by rfl)]
  have h' : J n (a1, a2) (b1, b2) [] [] := (h.sub (ls' := []) (by simp) (by simp)).swap.sub (ls' := []) (by simp) (by simp) |>.swap
  rcases again_ok k (by omega) h'.swap with ⟨g1, g2⟩ | ⟨g1, g2, _⟩
  · rw [g2]
    simp only [Option.bind_some]
    have : (b1 != 2) = true := by simpa using g1
    rw [this]
    exact ⟨a1, a2, b1, b2, rfl, h'.more, ha, g1⟩
  · obtain ⟨o', r1, r2, r3, r4⟩ := round_ok k hn h'.swap g1
    rw [g2]
    simp only [Option.bind_some]
    rw [cond_neg (c := (0 : Int) != 0) (by rfl)]
    simp only [Option.bind_some, cond_false]
    rw [w64_id (n := 1 - 1) (by omega) (by omega), cond_pos (c := (1 : Int) - 1 == 0) (by rfl), cond_neg (c := ((([((false, b2 + 1) : Bool × Int)] : Msgs).length : Nat) : Int) == 0) (by rfl), pick1]
    simp only [Option.bind_some]
    have e1 : handover_Hear.F k (a1, a2) (([((false, b2 + 1) : Bool × Int)] : Msgs).getD (Int.toNat 0) (false, 0)) = some (o', (true, b2 + 1), true, 0) := r1
    rw [cond_pos (c := decide ((0 : Int) ≤ 0) && decide ((0 : Int) < ((([((false, b2 + 1) : Bool × Int)] : Msgs).length : Nat) : Int))) (by rfl), clone1]
    simp only [Option.bind_some]
    rw [delete1, e1]
    simp only [Option.bind_some]
    rw [cond_neg (c := (0 : Int) != 0) (by rfl), cond_pos (c := true) rfl, cond_pos (c := decide (((([] : Msgs).length : Nat) : Int) < 40)) (by rfl), cond_pos (c := Nat.ble ((([] : Msgs).length + 1) * 16) 140737488355328) (by rfl)]
    simp only [Option.bind_some, cond_false, List.nil_append]
    rw [cond_neg (c := (1 : Int) == 0) (by rfl), cond_pos (c := (1 : Int) == 1) (by rfl), cond_neg (c := ((([((true, b2 + 1) : Bool × Int)] : Msgs).length : Nat) : Int) == 0) (by rfl), pick1]
    simp only [Option.bind_some]
    have e2 : handover_Hear.F k (b1, b2) (([((true, b2 + 1) : Bool × Int)] : Msgs).getD (Int.toNat 0) (false, 0)) = some ((0, b2 + 1), (false, 0), false, 0) := r2
    rw [cond_pos (c := decide ((0 : Int) ≤ 0) && decide ((0 : Int) < ((([((true, b2 + 1) : Bool × Int)] : Msgs).length : Nat) : Int))) (by rfl), clone1]
    simp only [Option.bind_some]
    rw [delete1, e2]
    exact ⟨o'.1, o'.2, 0, b2 + 1, rfl, r3.swap, r4 ha, by omega⟩

theorem ends_r2 (k : Nat) (self : EndsK) (a1 a2 b1 b2 : Int) (ta tb : Msgs) : skywaykeep3_HandoverEnds.l1b k self ((2, a1, a2, b1, b2), ta, tb) = some (.inl ((a1, a2, b1, b2), ta, tb)) := by
  unfold skywaykeep3_HandoverEnds.l1b
  dsimp only
  rw [cond_neg (c := decide ((2 : Int) < 2)) (by rfl)]

theorem ends_l1 (k m : Nat) {n : Int} (hn : n ≤ 800) (a1 a2 b1 b2 : Int) (ta tb : Msgs) (h : J n (a1, a2) (b1, b2) ta tb) :
    ∃ a1' a2' b1' b2', skywaykeep3_HandoverEnds.l1 k (m + 3) ((0, a1, a2, b1, b2), ta, tb) = some (.inl ((a1', a2', b1', b2'), [], [])) ∧ J (n + 1 + 1) (a1', a2') (b1', b2') [] [] ∧ a1' ≠ 2 ∧ b1' ≠ 2 := by
  rw [skywaykeep3_HandoverEnds.l1_succ]
  obtain ⟨c1, c2, d1, d2, e, j, hc⟩ := ends_r0 k (fun x => skywaykeep3_HandoverEnds.l1 k (m + 2) x) (n := n) (by omega) a1 a2 b1 b2 ta tb h
  rw [e, w64_id (by omega) (by omega)]
  show ∃ a1' a2' b1' b2', skywaykeep3_HandoverEnds.l1 k (m + 1 + 1) ((1, c1, c2, d1, d2), [], []) = _ ∧ _
  rw [skywaykeep3_HandoverEnds.l1_succ]
  obtain ⟨u1, u2, v1, v2, e', j', hu, hv⟩ := ends_r1 k (fun x => skywaykeep3_HandoverEnds.l1 k (m + 1) x) (n := n + 1) (by omega) c1 c2 d1 d2 [] [] j hc
  rw [e', w64_id (by omega) (by omega)]
  show ∃ a1' a2' b1' b2', skywaykeep3_HandoverEnds.l1 k (m + 1) ((2, u1, u2, v1, v2), [], []) = _ ∧ _
  rw [skywaykeep3_HandoverEnds.l1_succ, ends_r2]
  exact ⟨u1, u2, v1, v2, rfl, j', hu, hv⟩

attribute [local irreducible] skywaykeep3_handoverFact.F skywaykeep3_HandoverEnds.l0 skywaykeep3_HandoverEnds.l1 handover_Responsible.F handover_Acts.F

theorem HandoverEnds_plain (k : Nat) (a0 : List Int) (hk : a0.length + 1 ≤ k) (m : Nat) (hm : k = m + 3) : skywaykeep3_HandoverEnds.F k a0 = some true := by
  unfold skywaykeep3_HandoverEnds.F
  rw [hfact]
  simp only [Option.bind_some, Bool.not_true, cond_false]
  by_cases h : a0.length ≤ 200
  · rw [cond_neg (decide_eq_false (by omega))]
    have hb : handover_Begin.F k = some ((1, 0), (0, 0)) := rfl
    rw [hb]
    simp only [Option.bind_some]
    obtain ⟨a1, a2, b1, b2, ta, tb, e, j⟩ := ends_l0 k a0 h k 0 1 0 0 0 [] [] (by omega) (by omega) begin_ok
    rw [show ((0 : Nat) : Int) = 0 from rfl] at e
    rw [e]
    simp only [Option.bind_some, cond_false]
    obtain ⟨c1, c2, d1, d2, e', j', hc, hd⟩ := ends_l1 k m (n := a0.length) (by omega) a1 a2 b1 b2 ta tb j
    rw [← hm] at e'
    rw [e']
    simp only [Option.bind_some]
    obtain ⟨p1, p2, p3, p4⟩ := j'.bounds
    obtain ⟨q1, q2, q3, q4⟩ := j'.swap.bounds
    simp only at hc hd p1 p2 p3 p4 q1 q2 q3 q4
    rw [acts_eq k (c1, c2) p1 p2 p3 (by omega), acts_eq k (d1, d2) q1 q2 q3 (by omega)]
    have key : (c1 = 1 ∧ d1 = 0 ∧ c2 = d2) ∨ (d1 = 1 ∧ c1 = 0 ∧ c2 = d2) := by
      obtain ⟨N, _, g | g⟩ := j'.one
      · rcases g.xs with g1 | g1 <;> rcases g.ys with g2 | ⟨g2, _⟩ <;> simp only [Prod.mk.injEq] at g1 g2 <;> omega
      · rcases g.xs with g1 | g1 <;> rcases g.ys with g2 | ⟨g2, _⟩ <;> simp only [Prod.mk.injEq] at g1 g2 <;> omega
    rcases responsible_eq k (by omega) j' with ⟨g, hb'⟩ | ⟨g, ha'⟩
    · simp only at hb'
      obtain ⟨rfl, rfl, rfl⟩ := key.resolve_right (fun z => hb' z.1)
      rw [g]
      simp only [Option.bind_some]
      rw [cond_neg (c := (0 : Int) != 0) (by rfl)]
      simp [w64_id]
    · simp only at ha'
      obtain ⟨rfl, rfl, rfl⟩ := key.resolve_left (fun z => ha' z.1)
      rw [g]
      simp only [Option.bind_some]
      rw [cond_neg (c := (0 : Int) != 0) (by rfl)]
      simp [w64_id]
  · rw [cond_pos (decide_eq_true (by omega))]

attribute [local irreducible] skywaykeep3_HandoverEnds.F
theorem ends_cal (k : Nat) (x : DatPs (skywaykeep3_HandoverEnds.C 0).ats) : (skywaykeep3_HandoverEnds.C k).F x = skywaykeep3_HandoverEnds.F k x := rfl
theorem HandoverEnds_law (x : DatPs (skywaykeep3_HandoverEnds.C 0).ats) (_ : FitPs (skywaykeep3_HandoverEnds.C 0).ats x) : ∃ k, (skywaykeep3_HandoverEnds.C k).F x = some true :=
  ⟨List.length (α := Int) x + 1 + 3, (ends_cal _ x).trans (HandoverEnds_plain _ x (by omega) (List.length (α := Int) x + 1) rfl)⟩

end Go.Proofs.Ytdchminahimfhaa.RT
