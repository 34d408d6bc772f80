/- What is proved here: what the division of a tube comes to, what a clearance of another kind does. They ask nothing. -/
import Derived.Test.YtdpchhbbmlhklaaGreatDoorRsT
import Derived.Test.YtdpchhbbmlhklaaGreatDoorTubQ
import Derived.Test.YtdpchhbbmlhklaaGreatDoorPhrA
namespace Go.Proofs.YtdpchhbbmlhklaaGreatDoor.RT
open Go Go.R

attribute [local irreducible] tube_Check.F tube_at.F plane_Check.F tube_Point.F chart_Name.F phrase_Check.F

/-! ### Aircraft -/

abbrev Kd := ByteArray × Int × Int × Int × Int × Int × Int

structure KdOk (a : Kd) : Prop where
  ceil : 1 ≤ a.2.2.1 ∧ a.2.2.1 ≤ 60000
  climb : 1 ≤ a.2.2.2.1 ∧ a.2.2.2.1 ≤ 200
  desc : 1 ≤ a.2.2.2.2.1 ∧ a.2.2.2.2.1 ≤ 200
  slow : 1 ≤ a.2.2.2.2.2.1 ∧ a.2.2.2.2.2.1 ≤ a.2.2.2.2.2.2
  fast : a.2.2.2.2.2.2 ≤ 400

theorem acheck_eq (k : Nat) (hk : 100 ≤ k) (a : Kd) : ∃ e, aircraft_Check.F k a = some e ∧ (e = 0 → KdOk a) := by
  unfold aircraft_Check.F
  obtain ⟨b, hb⟩ := cname_total k (by omega) a.1
  rw [hb]
  simp only [Option.bind_some, cond_some]
  cases b with
  | false => exact ⟨5, rfl, fun h => absurd h (by decide)⟩
  | true =>
    simp only [Bool.not_true, cond_false]
    have no : ∀ {e : Int}, e ≠ 0 → (e = 0 → KdOk a) := fun h h' => absurd h' h
    have tail : ∃ e, (bif bif bif bif decide (a.2.2.2.2.2.1 < 1) then true else decide (a.2.2.2.2.2.1 > 400) then true else decide (a.2.2.2.2.2.2 < 1) then true else decide (a.2.2.2.2.2.2 > 400) then some (4 : Int) else bif decide (a.2.2.2.2.2.1 > a.2.2.2.2.2.2) then some 3 else some 0) = some e ∧ (e = 0 → 1 ≤ a.2.2.2.2.2.1 ∧ a.2.2.2.2.2.1 ≤ a.2.2.2.2.2.2 ∧ a.2.2.2.2.2.2 ≤ 400) := by
      by_cases h1 : a.2.2.2.2.2.1 < 1
      · rw [decide_eq_true h1]; exact ⟨4, rfl, fun h => absurd h (by decide)⟩
      rw [decide_eq_false h1]
      by_cases h2 : a.2.2.2.2.2.1 > 400
      · rw [decide_eq_true h2]; exact ⟨4, rfl, fun h => absurd h (by decide)⟩
      rw [decide_eq_false h2]
      by_cases h3 : a.2.2.2.2.2.2 < 1
      · rw [decide_eq_true h3]; exact ⟨4, rfl, fun h => absurd h (by decide)⟩
      rw [decide_eq_false h3]
      by_cases h4 : a.2.2.2.2.2.2 > 400
      · rw [decide_eq_true h4]; exact ⟨4, rfl, fun h => absurd h (by decide)⟩
      rw [decide_eq_false h4]
      by_cases h5 : a.2.2.2.2.2.1 > a.2.2.2.2.2.2
      · rw [decide_eq_true h5]; exact ⟨3, rfl, fun h => absurd h (by decide)⟩
      rw [decide_eq_false h5]
      exact ⟨0, rfl, fun _ => ⟨by omega, by omega, by omega⟩⟩
    obtain ⟨et, ht, hq⟩ := tail
    simp only [cond_some] at ht
    by_cases w1 : a.2.1 < 0
    · rw [decide_eq_true w1]; exact ⟨1, rfl, no (by decide)⟩
    rw [decide_eq_false w1]
    by_cases w2 : a.2.1 > 3
    · rw [decide_eq_true w2]; exact ⟨1, rfl, no (by decide)⟩
    rw [decide_eq_false w2]
    simp only [cond_false]
    by_cases c1 : a.2.2.1 < 1
    · rw [decide_eq_true c1]; exact ⟨4, rfl, no (by decide)⟩
    rw [decide_eq_false c1]
    by_cases c2 : a.2.2.1 > 60000
    · rw [decide_eq_true c2]; exact ⟨4, rfl, no (by decide)⟩
    rw [decide_eq_false c2]
    simp only [cond_false]
    by_cases u1 : a.2.2.2.1 < 1
    · rw [decide_eq_true u1]; exact ⟨4, rfl, no (by decide)⟩
    rw [decide_eq_false u1]
    by_cases u2 : a.2.2.2.1 > 200
    · rw [decide_eq_true u2]; exact ⟨4, rfl, no (by decide)⟩
    rw [decide_eq_false u2]
    simp only [cond_false]
    by_cases d1 : a.2.2.2.2.1 < 1
    · rw [decide_eq_true d1]; exact ⟨4, rfl, no (by decide)⟩
    rw [decide_eq_false d1]
    by_cases d2 : a.2.2.2.2.1 > 200
    · rw [decide_eq_true d2]; exact ⟨4, rfl, no (by decide)⟩
    rw [decide_eq_false d2]
    simp only [cond_false]
    refine ⟨et, ht, fun h => ?_⟩
    have := hq h
    exact ⟨by omega, by omega, by omega, by omega, by omega⟩

attribute [local irreducible] aircraft_Check.F

/-! ### The division of a tube -/

theorem nd_eta (n : Nd) : ((n.1.1, ((n.1.2.1.1, n.1.2.1.2), n.1.2.2)), (n.2.1, n.2.2)) = n := rfl

theorem div_loop (k : Nat) (l : List Nd) (hl : l.length ≤ 64) (at_ : Int) (now : Nd) : ∀ (n i : Nat) (hd tl : List Nd), i ≤ l.length → l.length - i < n → hd.length + (l.length - i) ≤ 64 → tl.length + (l.length - i) ≤ 64 →
    effect_divide.l0 k l at_ n (((i : Int), now.1.1, now.1.2.1.1, now.1.2.1.2, now.1.2.2, now.2.1, now.2.2), hd, tl) =
      some (now, (hd ++ ((l.drop i).filter fun x => decide (x.1.1 < at_)) ++ [now], tl ++ (l.drop i).filter fun x => decide (x.1.1 > at_))) := by
  intro n
  induction n with
  | zero => intro i _ _ _ h; omega
  | succ n ih =>
    intro i hd tl hi hn h1 h2
    rw [effect_divide.l0_succ]
    unfold effect_divide.l0b
    dsimp only
    by_cases hlt : i < l.length
    · have hdr := drop_cons hlt (nd0 : Nd)
      rw [nd_eq] at hdr
      have hg : l.getD ((i : Int)).toNat ((0, ((0, 0), 0)), (0, 0)) = nd l i := by rw [Int.toNat_natCast]; rfl
      rw [decide_eq_true (p := (i : Int) < ((l.length : Nat) : Int)) (by omega), decide_eq_true (p := 0 ≤ (i : Int)) (by omega), hg, show w64 ((i : Int) + 1) = ((i + 1 : Nat) : Int) from w64_id (by omega) (by omega), hdr]
      simp only [Bool.and_self, cond_true]
      rw [show ((((nd l i).1.1, ((nd l i).1.2.1, (nd l i).1.2.2)), (nd l i).2) : Nd) = nd l i from rfl]
      by_cases c1 : (nd l i).1.1 < at_
      · rw [decide_eq_true c1, cond_pos (c := Nat.ble ((hd.length + 1) * 48) 140737488355328) (Nat.ble_eq_true_of_le (by omega))]
        simp only [cond_true]
        have hi2 := ih (i + 1) (hd ++ [nd l i]) tl (by omega) (by omega) (by simp; omega) (by omega)
        rw [hi2, List.filter_cons_of_pos (by simpa using c1), List.filter_cons_of_neg (by simp; omega)]
        simp
      · rw [decide_eq_false c1]
        simp only [cond_false]
        by_cases c2 : (nd l i).1.1 > at_
        · rw [decide_eq_true c2, cond_pos (c := Nat.ble ((tl.length + 1) * 48) 140737488355328) (Nat.ble_eq_true_of_le (by omega))]
          simp only [cond_true]
          have hi2 := ih (i + 1) hd (tl ++ [nd l i]) (by omega) (by omega) (by omega) (by simp; omega)
          rw [hi2, List.filter_cons_of_neg (by simpa using c1), List.filter_cons_of_pos (by simpa using c2)]
          simp
        · rw [decide_eq_false c2]
          simp only [cond_false]
          have hi2 := ih (i + 1) hd tl (by omega) (by omega) (by omega) (by omega)
          rw [hi2, List.filter_cons_of_neg (by simpa using c1), List.filter_cons_of_neg (by simpa using c2)]
    · rw [decide_eq_false (p := (i : Int) < ((l.length : Nat) : Int)) (by omega), List.drop_eq_nil_of_le (by omega), cond_neg rfl, cond_pos (c := Nat.ble ((hd.length + 1) * 48) 140737488355328) (Nat.ble_eq_true_of_le (by omega))]
      simp

/-- The nodes before a time, and behind it. -/
def hd (l : List Nd) (t : Int) : List Nd := l.filter fun x => decide (x.1.1 < t)
def bk (l : List Nd) (t : Int) : List Nd := l.filter fun x => decide (x.1.1 > t)

theorem divide_eq (k : Nat) (hk : 100 ≤ k) {l : List Nd} (h : TubeOk l) (t : Int) : effect_divide.F k l t = some (pt k l t, (hd l t ++ [pt k l t], bk l t)) := by
  unfold effect_divide.F
  rw [point_eq k hk h]
  simp only [Option.bind_some]
  have := div_loop k l h.len t (pt k l t) k 0 [] [] (by omega) (by have := h.len; omega) (by have := h.len; simpa using this) (by have := h.len; simpa using this)
  rw [show ((0 : Nat) : Int) = 0 from rfl] at this
  rw [this]
  rfl

attribute [local irreducible] effect_divide.F

theorem clone_eq (k : Nat) {l : List Nd} (h : l.length ≤ 1000) : slices_Clone_api_TubeNode.F k l = some l := by
  unfold slices_Clone_api_TubeNode.F
  rw [cond_pos (Nat.ble_eq_true_of_le (by omega))]
  rfl

theorem changed_none (k : Nat) (hk : 100 ≤ k) {l : List Nd} (h : TubeOk l) (c : Cl) (hc : c.2.1 > 3) (t : Int) (a : Kd) (p : Int × Int) : effect_changed.F k l c t a p = some (l, 0) := by
  unfold effect_changed.F
  rw [divide_eq k hk h]
  simp only [Option.bind_some]
  rw [cond_neg (c := c.2.1 == 0) (beq_false_of_ne (by omega))]
  simp only [cond_some, Option.bind_some]
  rw [decide_eq_true hc]
  have : (bif (((bk l t).length : Nat) : Int) == 0 then true else true) = true := by cases ((((bk l t).length : Nat) : Int) == 0) <;> rfl
  rw [this, clone_eq k (by have := h.len; omega)]
  rfl

attribute [local irreducible] effect_changed.F

/-- What a clearance makes of a tube: its checks, and the change. -/
theorem of_cases (k : Nat) (hk : 100 ≤ k) (l : List Nd) (c : Cl) (t : Int) (a : Kd) (p : Int × Int) :
    (∃ e, e ≠ 0 ∧ effect_Of.F k l c t a p = some ([], e)) ∨ (TubeOk l ∧ KdOk a ∧ PtOk p ∧ tm l 0 ≤ t ∧ t ≤ tl l ∧ phrase_Check.F k c = some 0 ∧ aircraft_Check.F k a = some 0 ∧
      effect_Of.F k l c t a p = (effect_changed.F k l c t a p).bind fun r6 => bif (r6.2 != 0) then some ([], r6.2) else bif (decide (((r6.1.length : Nat) : Int) > 64)) then some ([], 2) else some (r6.1, 0)) := by
  unfold effect_Of.F
  by_cases h : TubeOk l
  · rw [tcheck_pos hk h]
    simp only [Option.bind_some]
    rw [cond_neg (c := (0 : Int) != 0) (by rfl)]
    obtain ⟨e2, h2⟩ := pcheck_total k (by omega) c
    rw [h2]
    simp only [Option.bind_some]
    by_cases z2 : e2 = 0
    · subst z2
      rw [cond_neg (c := (0 : Int) != 0) (by rfl)]
      obtain ⟨e3, h3, hK⟩ := acheck_eq k hk a
      rw [h3]
      simp only [Option.bind_some]
      by_cases z3 : e3 = 0
      · subst z3
        rw [cond_neg (c := (0 : Int) != 0) (by rfl), pchk_eq]
        simp only [Option.bind_some]
        by_cases hp : PtOk p
        · rw [if_pos hp, cond_neg (c := (0 : Int) != 0) (by rfl), last_ix h.pos h.len]
          have hpos := h.pos
          rw [cond_pos (c := decide ((0 : Nat) ≤ 0) && decide ((0 : Int) < ((l.length : Nat) : Int))) (by simp; omega)]
          rw [cond_pos (c := decide (0 ≤ ((l.length - 1 : Nat) : Int)) && decide (((l.length - 1 : Nat) : Int) < ((l.length : Nat) : Int))) (by simp; omega)]
          rw [cond_some]
          simp only [Option.bind_some]
          change (∃ e, e ≠ 0 ∧ (bif (bif decide (t < tm l 0) then true else decide (t > tl l)) then some ([], 12) else _) = some ([], e)) ∨ _ ∧ _ ∧ _ ∧ _ ∧ _ ∧ _ ∧ _ ∧ (bif (bif decide (t < tm l 0) then true else decide (t > tl l)) then some ([], 12) else _) = _
          by_cases g1 : t < tm l 0
          · rw [decide_eq_true g1]; exact .inl ⟨12, by decide, rfl⟩
          rw [decide_eq_false g1]
          by_cases g2 : t > tl l
          · rw [decide_eq_true g2]; exact .inl ⟨12, by decide, rfl⟩
          rw [decide_eq_false g2]
          exact .inr ⟨h, hK rfl, hp, by omega, by omega, trivial, trivial, rfl⟩
        · rw [if_neg hp, cond_pos (c := (4 : Int) != 0) (by rfl)]
          exact .inl ⟨4, by decide, rfl⟩
      · rw [cond_pos (c := e3 != 0) (by simpa using z3)]
        exact .inl ⟨e3, z3, rfl⟩
    · rw [cond_pos (c := e2 != 0) (by simpa using z2)]
      exact .inl ⟨e2, z2, rfl⟩
  · obtain ⟨e, he, hq⟩ := tcheck_neg hk h
    rw [hq]
    simp only [Option.bind_some]
    rw [cond_pos (c := e != 0) (by simpa using he)]
    exact .inl ⟨e, he, rfl⟩

attribute [local irreducible] effect_Of.F

end Go.Proofs.YtdpchhbbmlhklaaGreatDoor.RT
