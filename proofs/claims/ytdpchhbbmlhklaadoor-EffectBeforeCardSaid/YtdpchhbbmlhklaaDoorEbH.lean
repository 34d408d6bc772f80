/- What is proved here: the law EffectBefore. It asks nothing. -/
import Derived.Test.YtdpchhbbmlhklaaDoorEbT
import Derived.Test.YtdpchhbbmlhklaaDoorEbG
namespace Go.Proofs.YtdpchhbbmlhklaaDoor.RT
open Go Go.R

attribute [local irreducible] tube_Check.F tube_at.F plane_Check.F tube_Point.F tube_At.F skywaykeep3_small.F phrase_Check.F aircraft_Check.F effect_divide.F effect_changed.F effect_Of.F plane_Distance.F effect_up.F math_Sin.F math_sin.F math_Round.F angle_Sin.F angle_Vector.F skywaykeep3_effectFact.F

/-- A tube that is another one, until a time. -/
def Till (k : Nat) (l M : List Nd) (t : Int) : Prop := TubeOk M ∧ tm M 0 = tm l 0 ∧ ∀ u, tm l 0 ≤ u → u ≤ t → hs M u = true ∧ Near (pt k l u) (pt k M u) ∧ (u = t → pt k l u = pt k M u)

theorem of_till (k : Nat) (hk : 100 ≤ k) (l : List Nd) (c : Cl) (t : Int) (a : Kd) (p : Pt) :
    (∃ e, e ≠ 0 ∧ effect_Of.F k l c t a p = some ([], e)) ∨ (tm l 0 ≤ t ∧ t ≤ tl l ∧ ∃ M, effect_Of.F k l c t a p = some (M, 0) ∧ Till k l M t) := by
  rcases of_cases k hk l c t a p with h | ⟨hl, ha, hp, h0, h1, _, _, hof⟩
  · exact .inl h
  have hsl : ∀ u, tm l 0 ≤ u → u ≤ t → hs l u = true := fun u g1 g2 => by unfold hs; rw [decide_eq_true g1, decide_eq_true (p := u ≤ tl l) (by omega)]; rfl
  rw [hof]
  obtain ⟨call, kind, val, tx⟩ := c
  rcases changed_shape k hk hl h0 h1 call kind val tx ha hp with ⟨e, he, h⟩ | h | ⟨X, h, hX⟩
  · rw [h]
    simp only [Option.bind_some]
    rw [cond_pos (c := e != 0) (by simpa using he)]
    exact .inl ⟨e, he, rfl⟩
  · rw [h]
    have hlen := hl.len
    simp only [Option.bind_some]
    rw [cond_neg (c := (0 : Int) != 0) (by rfl), decide_eq_false (p := ((l.length : Nat) : Int) > 64) (by omega)]
    exact .inr ⟨h0, h1, l, rfl, hl, rfl, fun u g1 g2 => ⟨hsl u g1 g2, Near.self _, fun _ => rfl⟩⟩
  · rw [h]
    simp only [Option.bind_some]
    rw [cond_neg (c := (0 : Int) != 0) (by rfl)]
    by_cases c : (((hd l t ++ [pt k l t] ++ X).length : Nat) : Int) > 64
    · rw [decide_eq_true c]
      exact .inl ⟨2, by decide, rfl⟩
    · rw [decide_eq_false c]
      obtain ⟨q, hq, he⟩ := (at_cases k hk hl t).2.2 (hsl t h0 (by omega))
      have hnow : NdOk (pt k l t) := by rw [he]; exact seg_ok hl hq h1
      have htime : (pt k l t).1.1 = t := by rw [he, ndAt_time]
      have ok : TubeOk (hd l t ++ [pt k l t] ++ X) := by
        have := ext_ok hl hnow (X := X) (by rw [htime]; exact hX.1) hX.2 (by rw [htime]; omega)
        rw [htime] at this
        exact this
      exact .inr ⟨h0, h1, _, rfl, ok, before_at k hk hl ok h0 h1 rfl⟩

attribute [local irreducible] hd

theorem mx_one {a b : Int} (ha : a ≤ 1) (hb : b ≤ 1) : mx a b ≤ 1 := by unfold mx; split <;> omega

theorem bef_loop (k : Nat) (hk : 100 ≤ k) {l M : List Nd} (hl : TubeOk l) {t : Int} (h1 : t ≤ tl l) (hM : Till k l M t) : ∀ (n : Nat) (u : Int), tm l 0 ≤ u → u ≤ t + 1 → t + 1 - u < n → skywaykeep3_EffectBefore.l0 k l t (M, 0) n u = some true := by
  obtain ⟨ok, _, hT⟩ := hM
  have htb := hl.tmb (j := l.length - 1) (by have := hl.pos; omega)
  have htz := hl.tmb hl.pos
  change 0 ≤ tl l ∧ tl l ≤ 200000 at htb
  intro n
  induction n with
  | zero => intro u _ _ h; omega
  | succ n ih =>
    intro u g1 g2 hn
    rw [skywaykeep3_EffectBefore.l0_succ]
    unfold skywaykeep3_EffectBefore.l0b
    by_cases hu : u ≤ t
    · obtain ⟨hh, near, last⟩ := hT u g1 hu
      have hsl : hs l u = true := by unfold hs; rw [decide_eq_true g1, decide_eq_true (p := u ≤ tl l) (by omega)]; rfl
      obtain ⟨q1, hq1, e1⟩ := (at_cases k hk hl u).2.2 hsl
      obtain ⟨q2, hq2, e2⟩ := (at_cases k hk ok u).2.2 hh
      have hu2 : u ≤ tl M := by
        unfold hs at hh
        simpa using (Bool.and_eq_true_iff.1 hh).2
      have n1 : NdOk (pt k l u) := by rw [e1]; exact seg_ok hl hq1 (by omega)
      have n2 : NdOk (pt k M u) := by rw [e2]; exact seg_ok ok hq2 hu2
      rw [decide_eq_true hu, At_eq k hk hl, At_eq k hk ok, hsl, hh]
      simp only [Option.bind_some, cond_true]
      generalize pt k l u = x at near last n1 ⊢
      generalize pt k M u = y at near last n2 ⊢
      rw [if_pos trivial, cond_neg (c := (0 : Int) != 0) (by rfl)]
      simp only [Option.bind_some]
      rw [cond_neg (c := (0 : Int) != 0) (by rfl)]
      rw [show plane_Sub.F k x.1.2.1 y.1.2.1 = some (w64 (x.1.2.1.1 - y.1.2.1.1), w64 (x.1.2.1.2 - y.1.2.1.2)) from rfl]
      simp only [Option.bind_some]
      obtain ⟨⟨a1, a2⟩, ⟨b1, b2⟩, ⟨c1, c2⟩⟩ := near
      rw [w64_id (n := x.1.2.1.1 - y.1.2.1.1) (by omega) (by omega), w64_id (n := x.1.2.1.2 - y.1.2.1.2) (by omega) (by omega)]
      rw [w64_id (n := 0 - (x.1.2.1.1 - y.1.2.1.1)) (by omega) (by omega), w64_id (n := 0 - (x.1.2.1.2 - y.1.2.1.2)) (by omega) (by omega)]
      rw [w64_id (n := x.1.2.2 - y.1.2.2) (by omega) (by omega), w64_id (n := y.1.2.2 - x.1.2.2) (by omega) (by omega)]
      have hm : mx (mx (mx (mx (mx (x.1.2.1.1 - y.1.2.1.1) (0 - (x.1.2.1.1 - y.1.2.1.1))) (x.1.2.1.2 - y.1.2.1.2)) (0 - (x.1.2.1.2 - y.1.2.1.2))) (x.1.2.2 - y.1.2.2)) (y.1.2.2 - x.1.2.2) ≤ 1 := mx_one (mx_one (mx_one (mx_one (mx_one (by omega) (by omega)) (by omega)) (by omega)) (by omega)) (by omega)
      rw [decide_eq_false (p := mx (mx (mx (mx (mx (x.1.2.1.1 - y.1.2.1.1) (0 - (x.1.2.1.1 - y.1.2.1.1))) (x.1.2.1.2 - y.1.2.1.2)) (0 - (x.1.2.1.2 - y.1.2.1.2))) (x.1.2.2 - y.1.2.2)) (y.1.2.2 - x.1.2.2) > 1) (by omega)]
      rw [w64_id (n := u + 1) (by omega) (by omega)]
      have go := ih (u + 1) (by omega) (by omega) (by omega)
      by_cases he : u = t
      · have := last he
        subst this
        rw [cond_pos (c := u == t) (by rw [he]; simp)]
        simp only [cond_false, Option.bind_some, beq_self_eq_true, Bool.and_self, Bool.not_true]
        exact go
      · rw [cond_neg (c := u == t) (beq_false_of_ne he)]
        simp only [cond_false, Option.bind_some]
        exact go
    · rw [decide_eq_false hu]
      rfl

theorem EffectBefore_plain (k : Nat) (hk : 300000 ≤ k) (hf : skywaykeep3_effectFact.F k = some true) (l : List Nd) (c : Cl) (t : Int) (a : Kd) (p : Pt) : skywaykeep3_EffectBefore.F k l c t a p = some true := by
  unfold skywaykeep3_EffectBefore.F
  obtain ⟨r, hr, hq⟩ := small_eq k (by omega) [l] 1 400 (by omega)
  rw [hf, hr]
  simp only [Option.bind_some, Bool.not_true, cond_false]
  cases r with
  | false => rfl
  | true =>
    obtain ⟨hl, _⟩ := (hq.1 rfl).2 l (by simp)
    clear hq hr
    simp only [Bool.not_true, cond_false]
    rcases of_till k (by omega) l c t a p with ⟨e, he, h⟩ | ⟨h0, h1, M, h, hT⟩
    · rw [h]
      simp only [Option.bind_some]
      rw [cond_pos (c := e != 0) (by simpa using he)]
      rfl
    · rw [h]
      have htb := hl.tmb (j := l.length - 1) (by have := hl.pos; omega)
      have htz := hl.tmb hl.pos
      change 0 ≤ tl l ∧ tl l ≤ 200000 at htb
      have lp := hl.pos
      have mp := hT.1.pos
      simp only [Option.bind_some]
      rw [cond_neg (c := (0 : Int) != 0) (by rfl), tcheck_pos (by omega) hT.1]
      simp only [Option.bind_some]
      rw [cond_neg (c := (0 : Int) != 0) (by rfl)]
      have in0 : ∀ {m : List Nd}, 0 < m.length → (decide ((0 : Nat) ≤ 0) && decide ((0 : Int) < ((m.length : Nat) : Int))) = true := fun h => by simp; omega
      rw [cond_pos (in0 mp), cond_pos (in0 lp)]
      simp only [Option.bind_some]
      have e0 : M.getD 0 ((0, ((0, 0), 0)), (0, 0)) = nd M 0 := rfl
      have e1 : l.getD 0 ((0, ((0, 0), 0)), (0, 0)) = nd l 0 := rfl
      rw [e0, e1, tm_eq, tm_eq, hT.2.1, cond_neg (c := tm l 0 != tm l 0) (by simp), cond_pos (in0 lp)]
      exact bef_loop k (by omega) hl h1 hT k (tm l 0) (Int.le_refl _) (by omega) (by omega)

attribute [local irreducible] skywaykeep3_EffectBefore.F
theorem before_cal (k : Nat) (x : DatPs (skywaykeep3_EffectBefore.C 0).ats) : (skywaykeep3_EffectBefore.C k).F x = skywaykeep3_EffectBefore.F k x.1 x.2.1 x.2.2.1 x.2.2.2.1 x.2.2.2.2 := rfl
theorem EffectBefore_law (x : DatPs (skywaykeep3_EffectBefore.C 0).ats) (_ : FitPs (skywaykeep3_EffectBefore.C 0).ats x) : ∃ k, (skywaykeep3_EffectBefore.C k).F x = some true :=
  ⟨300000 + 1000, (before_cal _ x).trans (EffectBefore_plain (300000 + 1000) (by omega) (effact 300000) x.1 x.2.1 x.2.2.1 x.2.2.2.1 x.2.2.2.2)⟩

end Go.Proofs.YtdpchhbbmlhklaaDoor.RT
