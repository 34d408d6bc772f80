/- What is proved here: what a clearance makes of a tube is a tube. It asks nothing. -/
import Derived.Test.YtdpchhbbmlhklaaGreatDoorRsT
import Derived.Test.YtdpchhbbmlhklaaGreatDoorRsG
namespace Go.Proofs.YtdpchhbbmlhklaaGreatDoor.RT
open Go Go.R

attribute [local irreducible] tube_Check.F tube_at.F plane_Check.F tube_Point.F phrase_Check.F aircraft_Check.F effect_divide.F effect_changed.F effect_Of.F plane_Distance.F effect_up.F math_Sin.F math_sin.F math_Round.F angle_Sin.F angle_Vector.F

/-- A tube that is another one, until a time. -/
def Till (k : Nat) (l M : List Nd) (t : Int) : Prop := TubeOk M ∧ tm M 0 = tm l 0 ∧ ∀ u, tm l 0 ≤ u → u ≤ t → hs M u = true ∧ Near (pt k l u) (pt k M u) ∧ (u = t → pt k l u = pt k M u)

theorem of_till (k : Nat) (hk : 100 ≤ k) (l : List Nd) (c : Cl) (t : Int) (a : Kd) (p : Pt) :
    (∃ e, e ≠ 0 ∧ effect_Of.F k l c t a p = some ([], e)) ∨ (tm l 0 ≤ t ∧ t ≤ tl l ∧ ∃ M, effect_Of.F k l c t a p = some (M, 0) ∧ Till k l M t) := by
  rcases of_cases k hk l c t a p with h | ⟨hl, ha, hp, h0, h1, _, _, hof⟩
  · exact .inl h
  have hsl : ∀ u, tm l 0 ≤ u → u ≤ t → hs l u = true := fun u g1 g2 => by unfold hs; rw [decide_eq_true g1, decide_eq_true (p := u ≤ tl l) (by omega)]; rfl
  rw [hof]
  obtain ⟨call, kind, val, tx⟩ := c
  rcases changed_shape k hk hl h0 h1 call kind val tx ha hp with ⟨e, he, h⟩ | h | ⟨X, h, hX⟩
  · rw [h]
    simp only [Option.bind_some]
    rw [cond_pos (c := e != 0) (by simpa using he)]
    exact .inl ⟨e, he, rfl⟩
  · rw [h]
    have hlen := hl.len
    simp only [Option.bind_some]
    rw [cond_neg (c := (0 : Int) != 0) (by rfl), decide_eq_false (p := ((l.length : Nat) : Int) > 64) (by omega)]
    exact .inr ⟨h0, h1, l, rfl, hl, rfl, fun u g1 g2 => ⟨hsl u g1 g2, Near.self _, fun _ => rfl⟩⟩
  · rw [h]
    simp only [Option.bind_some]
    rw [cond_neg (c := (0 : Int) != 0) (by rfl)]
    by_cases c : (((hd l t ++ [pt k l t] ++ X).length : Nat) : Int) > 64
    · rw [decide_eq_true c]
      exact .inl ⟨2, by decide, rfl⟩
    · rw [decide_eq_false c]
      obtain ⟨q, hq, he⟩ := (at_cases k hk hl t).2.2 (hsl t h0 (by omega))
      have hnow : NdOk (pt k l t) := by rw [he]; exact seg_ok hl hq h1
      have htime : (pt k l t).1.1 = t := by rw [he, ndAt_time]
      have ok : TubeOk (hd l t ++ [pt k l t] ++ X) := by
        have := ext_ok hl hnow (X := X) (by rw [htime]; exact hX.1) hX.2 (by rw [htime]; omega)
        rw [htime] at this
        exact this
      exact .inr ⟨h0, h1, _, rfl, ok, before_at k hk hl ok h0 h1 rfl⟩

attribute [local irreducible] hd
end Go.Proofs.YtdpchhbbmlhklaaGreatDoor.RT
