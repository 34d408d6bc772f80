/- What is proved here: what a clearance makes of a tube, of whatever kind it is: its nodes before the time stay. They ask nothing. -/
import Derived.Test.YtdpchhbbmlhklaaGreatDoorRsT
import Derived.Test.YtdpchhbbmlhklaaGreatDoorRsC
import Derived.Test.YtdpchhbbmlhklaaGreatDoorRsF
import Derived.Test.YtdpchhbbmlhklaaGreatDoorSinA
namespace Go.Proofs.YtdpchhbbmlhklaaGreatDoor.RT
open Go Go.R

attribute [local irreducible] tube_Check.F tube_at.F plane_Check.F tube_Point.F phrase_Check.F aircraft_Check.F effect_divide.F effect_Of.F plane_Distance.F effect_up.F math_Sin.F math_sin.F math_Round.F

/-! ### Angles -/

theorem norm_eq (k : Nat) (a : Int) : ∃ q : Nat, q < 4096 ∧ angle_Norm.F k a = some (q : Int) ∧ angle_Norm.F k (q : Int) = some (q : Int) := by
  have key : ∀ x : BitVec 64, (x &&& BitVec.ofInt 64 4095).toNat = x.toNat % 4096 := fun x => by
    rw [BitVec.toNat_and, show (BitVec.ofInt 64 4095).toNat = 2 ^ 12 - 1 from rfl, Nat.and_two_pow_sub_one_eq_mod]
  have ang : ∀ b : Int, angle_Norm.F k b = some (((BitVec.ofInt 64 b).toNat % 4096 : Nat) : Int) := fun b => by
    rw [← key]
    have hb := key (BitVec.ofInt 64 b)
    show some (w64 (((BitVec.ofInt 64 b &&& BitVec.ofInt 64 4095).toNat : Nat) : Int)) = _
    rw [w64_id (by omega) (by omega)]
  refine ⟨(BitVec.ofInt 64 a).toNat % 4096, by omega, ang a, ?_⟩
  rw [ang]
  have : (BitVec.ofInt 64 (((BitVec.ofInt 64 a).toNat % 4096 : Nat) : Int)).toNat = (BitVec.ofInt 64 a).toNat % 4096 := by
    rw [BitVec.toNat_ofInt]
    omega
  rw [this, Nat.mod_mod]

theorem sin_eq (k : Nat) (a : Int) : ∃ v, angle_Sin.F k a = some v ∧ -16384 ≤ v ∧ v ≤ 16384 := by
  obtain ⟨q, hq, h1, h2⟩ := norm_eq k a
  obtain ⟨v, hv, v0, v1⟩ := sin_tab k q hq
  have : angle_Sin.F k a = angle_Sin.F k (q : Int) := by
    unfold angle_Sin.F
    rw [h1, h2]
  exact ⟨_, this.trans hv, by omega, by omega⟩

attribute [local irreducible] angle_Sin.F

theorem scaled_eq (k : Nat) (d v : Int) : ∃ r, angle_scaled.F k d v = some r := by
  unfold angle_scaled.F
  cases decide (w64 (d * v) < 0) <;> exact ⟨_, rfl⟩

theorem vector_eq (k : Nat) (a d : Int) : ∃ v e, angle_Vector.F k a d = some (v, e) := by
  unfold angle_Vector.F
  by_cases h1 : d < 0
  · rw [decide_eq_true h1]; exact ⟨_, _, rfl⟩
  by_cases h2 : d > 2000000
  · rw [decide_eq_false h1, decide_eq_true h2]; exact ⟨_, _, rfl⟩
  rw [decide_eq_false h1, decide_eq_false h2]
  simp only [cond_false, Option.bind_some]
  obtain ⟨s, hs, _⟩ := sin_eq k a
  obtain ⟨c, hc, _⟩ := sin_eq k (w64 (a + 1024))
  obtain ⟨r1, h3⟩ := scaled_eq k d s
  obtain ⟨r2, h4⟩ := scaled_eq k d c
  rw [hs]
  simp only [Option.bind_some]
  rw [h3]
  simp only [Option.bind_some]
  rw [show angle_Cos.F k a = some c by unfold angle_Cos.F; rw [hc]; rfl]
  simp only [Option.bind_some]
  rw [h4]
  exact ⟨_, _, rfl⟩

attribute [local irreducible] angle_Vector.F

/-! ### A flight on another heading -/

/-- Nodes that keep all but their places. -/
def Turned : List Nd → List Nd → Prop
  | [], Q => Q = []
  | n :: B, Q => ∃ p Q', Q = ((n.1.1, (p, n.1.2.2)), n.2) :: Q' ∧ PtOk p ∧ Turned B Q'

theorem turn_loop (k : Nat) (c : Cl) (now : Nd) (hdl B : List Nd) (r20 : Int × Int) (hB : B.length ≤ 64) : ∀ (n i : Nat) (out : List Nd), i ≤ B.length → B.length - i < n → out.length + (B.length - i) ≤ 1000 →
    (∃ e, e ≠ 0 ∧ effect_changed.l2 k c (now, (hdl, B)) r20 n ((i : Int), out) = some ([], e)) ∨ ∃ Q, effect_changed.l2 k c (now, (hdl, B)) r20 n ((i : Int), out) = some (out ++ Q, 0) ∧ Turned (B.drop i) Q := by
  intro n
  induction n with
  | zero => intro i _ _ h; omega
  | succ n ih =>
    intro i out hi hn ho
    rw [effect_changed.l2_succ]
    unfold effect_changed.l2b
    dsimp only
    by_cases hlt : i < B.length
    · have hd := drop_cons hlt (nd0 : Nd)
      rw [nd_eq] at hd
      rw [decide_eq_true (p := (i : Int) < ((B.length : Nat) : Int)) (by omega), decide_eq_true (p := 0 ≤ (i : Int)) (by omega)]
      have hg : B.getD ((i : Int)).toNat ((0, ((0, 0), 0)), (0, 0)) = nd B i := by rw [Int.toNat_natCast]; rfl
      rw [hg]
      simp only [Bool.and_self, cond_true]
      obtain ⟨v, e, hv⟩ := vector_eq k c.2.2.1 (w64 ((w64 (Int.tdiv r20.1 (w64 ((((B.getD 0 ((0, ((0, 0), 0)), (0, 0))).1).1) - now.1.1)))) * (w64 ((nd B i).1.1 - now.1.1))))
      rw [hv]
      simp only [Option.bind_some]
      by_cases hz : e = 0
      · subst hz
        rw [cond_neg (c := (0 : Int) != 0) (by rfl)]
        rw [show plane_Add.F k now.1.2.1 v = some (w64 (now.1.2.1.1 + v.1), w64 (now.1.2.1.2 + v.2)) from rfl]
        simp only [Option.bind_some]
        rw [pchk_eq]
        simp only [Option.bind_some]
        by_cases hp : PtOk (w64 (now.1.2.1.1 + v.1), w64 (now.1.2.1.2 + v.2))
        · rw [if_pos hp, cond_neg (c := (0 : Int) != 0) (by rfl), cond_pos (c := Nat.ble ((out.length + 1) * 48) 140737488355328) (Nat.ble_eq_true_of_le (by omega)), show w64 ((i : Int) + 1) = ((i + 1 : Nat) : Int) from w64_id (by omega) (by omega)]
          rcases ih (i + 1) (out ++ [(((nd B i).1.1, ((w64 (now.1.2.1.1 + v.1), w64 (now.1.2.1.2 + v.2)), (nd B i).1.2.2)), (nd B i).2)]) (by omega) (by omega) (by rw [List.length_append, List.length_singleton]; omega) with h | ⟨Q, hQ, hC⟩
          · exact .inl h
          · refine .inr ⟨(((nd B i).1.1, ((w64 (now.1.2.1.1 + v.1), w64 (now.1.2.1.2 + v.2)), (nd B i).1.2.2)), (nd B i).2) :: Q, ?_, ?_⟩
            · rw [hQ, List.append_assoc]
              rfl
            · rw [hd]
              exact ⟨_, Q, rfl, hp, hC⟩
        · rw [if_neg hp, cond_pos (c := (4 : Int) != 0) (by rfl)]
          exact .inl ⟨4, by decide, rfl⟩
      · rw [cond_pos (c := e != 0) (by simpa using hz)]
        exact .inl ⟨e, hz, rfl⟩
    · rw [decide_eq_false (p := (i : Int) < ((B.length : Nat) : Int)) (by omega), List.drop_eq_nil_of_le (by omega)]
      exact .inr ⟨[], by rw [List.append_nil]; rfl, rfl⟩

/-- What stands behind the time. -/
def Ext (X : List Nd) (t : Int) : Prop := (∀ n ∈ X, NdOk n ∧ t < n.1.1) ∧ X.Pairwise fun a b => a.1.1 < b.1.1

theorem turned_ok {t : Int} : ∀ (B Q : List Nd), Ext B t → Turned B Q → Ext Q t ∧ ∀ u, (∀ n ∈ B, u < n.1.1) → ∀ n ∈ Q, u < n.1.1
  | [], Q, _, h => by
    have : Q = [] := h
    subst this
    exact ⟨⟨by simp, by simp⟩, by simp⟩
  | n :: B, Q, hB, h => by
    obtain ⟨p, Q', rfl, hp, hC⟩ := h
    obtain ⟨b1, b2⟩ := hB
    rw [List.pairwise_cons] at b2
    obtain ⟨q1, q2⟩ := turned_ok B Q' ⟨fun m hm => b1 m (List.mem_cons_of_mem _ hm), b2.2⟩ hC
    have hn := b1 n (List.mem_cons_self ..)
    refine ⟨⟨fun m hm => ?_, List.pairwise_cons.2 ⟨fun m hm => q2 _ b2.1 m hm, q1.2⟩⟩, fun u hu m hm => ?_⟩
    · rcases List.mem_cons.1 hm with rfl | hm
      · exact ⟨⟨hn.1.time, hp, hn.1.height, hn.1.radius, hn.1.band⟩, hn.2⟩
      · exact q1.1 m hm
    · rcases List.mem_cons.1 hm with rfl | hm
      · exact hu n (List.mem_cons_self ..)
      · exact q2 u (fun x hx => hu x (List.mem_cons_of_mem _ hx)) m hm

theorem chain_ok (k : Nat) (s : Int) : ∀ (B Q : List Nd) (T : Int) (p : Pt), 0 ≤ T → (∀ n ∈ B, NdOk n) → Chain k s T p B Q → Ext Q T
  | [], Q, T, p, _, _, h => by
    have : Q = [] := h
    subst this
    exact ⟨by simp, by simp⟩
  | n :: B, Q, T, p, h0, hB, h => by
    obtain ⟨u, Q', lo, hi, rfl, _, _, u0, u1, hC⟩ := h
    have ih := chain_ok k s B Q' _ _ (by omega) (fun m hm => hB m (List.mem_cons_of_mem _ hm)) hC
    have hn := hB n (List.mem_cons_self ..)
    refine ⟨fun m hm => ?_, List.pairwise_cons.2 ⟨fun m hm => (ih.1 m hm).2, ih.2⟩⟩
    rcases List.mem_cons.1 hm with rfl | hm
    · exact ⟨⟨⟨by show 0 ≤ T + u; omega, u1⟩, hn.pt, hn.height, hn.radius, hn.band⟩, by show T < T + u; omega⟩
    · exact ⟨(ih.1 m hm).1, by have := (ih.1 m hm).2; omega⟩

/-- WHAT A CLEARANCE MAKES OF A TUBE. -/
theorem changed_shape (k : Nat) (hk : 100 ≤ k) {l : List Nd} (h : TubeOk l) {t : Int} (h0 : tm l 0 ≤ t) (h1 : t ≤ tl l) (call : ByteArray) (kind val : Int) (tx : ByteArray) {a : Kd} (ha : KdOk a) {p : Pt} (hp : PtOk p) :
    (∃ e, e ≠ 0 ∧ effect_changed.F k l (call, (kind, (val, tx))) t a p = some ([], e)) ∨ effect_changed.F k l (call, (kind, (val, tx))) t a p = some (l, 0) ∨ ∃ X, effect_changed.F k l (call, (kind, (val, tx))) t a p = some (hd l t ++ [pt k l t] ++ X, 0) ∧ Ext X t := by
  have hhs : hs l t = true := by unfold hs; rw [decide_eq_true h0, decide_eq_true h1]; rfl
  obtain ⟨q, hq, he⟩ := (at_cases k hk h t).2.2 hhs
  have hnow : NdOk (pt k l t) := by rw [he]; exact seg_ok h hq h1
  have htime : (pt k l t).1.1 = t := by rw [he, ndAt_time]
  have htb := hnow.time
  have hlen := h.len
  by_cases k0 : kind = 0
  · subst k0
    rcases climbs_eq k hk h h0 h1 call tx val a p with g | ⟨D, e, X, hc, hX, hch, _⟩
    · exact .inl g
    · rename_i he0
      subst he0
      obtain ⟨D', e', hc', hce⟩ := Climb_eq k hk a (pt k l t).1.2.2 val
      rw [hc] at hc'
      obtain ⟨rfl, rfl⟩ : D = D' ∧ 0 = e' := by simpa using hc'
      obtain ⟨_, x0, x1, L0, L1, D0, _⟩ := hce rfl
      refine .inr (.inr ⟨_, hch, fun n hn => ?_, ?_⟩)
      · obtain ⟨x, hx, rfl⟩ := List.mem_map.1 hn
        have hx2 := hX.node x hx
        have b := nh_bounds (h0 := (pt k l t).1.2.2) (L := val) (t0 := t) (u := x.1.1) D0 (by omega)
        exact ⟨⟨hx2.1.time, hx2.1.pt, by show 0 ≤ nh _ _ _ _ _ ∧ nh _ _ _ _ _ ≤ 60000; omega, hx2.1.radius, hx2.1.band⟩, hx2.2⟩
      · rw [List.pairwise_map]
        exact hX.ord
  by_cases hend : t = tl l
  · exact .inr (.inl (changed_end k hk h hend _ k0 a p))
  by_cases k3 : kind > 3
  · exact .inr (.inl (changed_none k hk h _ k3 t a p))
  have hbn : 0 < (bk l t).length := List.length_pos_iff.2 (bk_nil h (by omega))
  have hbl : (bk l t).length ≤ 64 := Nat.le_trans (List.length_filter_le _ _) h.len
  have hhl : (hd l t).length ≤ 64 := Nat.le_trans (List.length_filter_le _ _) h.len
  have hbx : Ext (bk l t) t := ⟨fun n hn => by
      have := List.mem_filter.1 hn
      exact ⟨h.node n this.1, by simpa using this.2⟩, h.ord.filter _⟩
  have hb0 := hbx.1 _ (nd_mem hbn)
  have hb1 := hb0.1.time
  have hb2 := hb0.2
  unfold effect_changed.F
  rw [divide_eq k hk h]
  simp only [Option.bind_some]
  rw [cond_neg (c := kind == 0) (beq_false_of_ne k0), cond_neg (c := (((bk l t).length : Nat) : Int) == 0) (beq_false_of_ne (by omega))]
  simp only [Option.bind_some]
  rw [cond_neg (c := decide (kind > 3)) (decide_eq_false k3)]
  have hg : (bk l t).getD 0 ((0, ((0, 0), 0)), (0, 0)) = nd (bk l t) 0 := rfl
  obtain ⟨lo, hi, hdd, l0, l1, l2, _⟩ := dist_eq k hnow.pt hb0.1.pt
  have in0 : (decide ((0 : Nat) ≤ 0) && decide ((0 : Int) < (((bk l t).length : Nat) : Int))) = true := by simp; omega
  by_cases k1 : kind = 1
  · subst k1
    rw [cond_pos (c := (1 : Int) == 1) (by rfl), cond_pos in0, hg, hdd]
    simp only [Option.bind_some]
    rw [cond_pos in0, htime, w64_id (n := (nd (bk l t) 0).1.1 - t) (by omega) (by omega), cond_pos (c := (nd (bk l t) 0).1.1 - t != 0) (by simp; omega)]
    rcases turn_loop k (call, (1, (val, tx))) (pt k l t) (hd l t ++ [pt k l t]) (bk l t) (lo, hi) hbl k 0 (hd l t ++ [pt k l t]) (Nat.zero_le _) (by omega) (by rw [List.length_append, List.length_singleton]; omega) with g | ⟨Q, hQ, hT⟩
    · exact .inl g
    · rw [List.drop_zero] at hT
      exact .inr (.inr ⟨Q, hQ, (turned_ok _ _ hbx hT).1⟩)
  rw [cond_neg (c := kind == 1) (beq_false_of_ne k1)]
  by_cases k2 : kind = 2
  · subst k2
    rw [cond_pos (c := (2 : Int) == 2) (by rfl)]
    have hsl := ha.slow
    have hfa := ha.fast
    by_cases c1 : val < a.2.2.2.2.2.1
    · rw [decide_eq_true c1]
      exact .inl ⟨4, by decide, rfl⟩
    by_cases c2 : val > a.2.2.2.2.2.2
    · rw [decide_eq_false c1, decide_eq_true c2]
      exact .inl ⟨4, by decide, rfl⟩
    rw [decide_eq_false c1, decide_eq_false c2]
    simp only [cond_false, Option.bind_some]
    rw [htime]
    rcases pace_loop k call tx val (by omega) (by omega) (pt k l t) (hd l t ++ [pt k l t]) (bk l t) hbl (fun n hn => (hbx.1 n hn).1) k 0 t (pt k l t).1.2.1 (hd l t ++ [pt k l t]) (Nat.zero_le _) (by omega) (by omega) (by omega) hnow.pt (by rw [List.length_append, List.length_singleton]; omega) with g | ⟨Q, hQ, hC⟩
    · exact .inl g
    · rw [List.drop_zero] at hC
      exact .inr (.inr ⟨Q, hQ, chain_ok k val _ _ _ _ (by omega) (fun n hn => (hbx.1 n hn).1) hC⟩)
  rw [cond_neg (c := kind == 2) (beq_false_of_ne k2), cond_pos in0, hg, hdd]
  simp only [Option.bind_some]
  rw [cond_pos in0, htime, w64_id (n := (nd (bk l t) 0).1.1 - t) (by omega) (by omega), cond_pos (c := (nd (bk l t) 0).1.1 - t != 0) (by simp; omega)]
  have hs0 : 0 ≤ Int.tdiv lo ((nd (bk l t) 0).1.1 - t) := Int.tdiv_nonneg l0 (by omega)
  have hs1 : Int.tdiv lo ((nd (bk l t) 0).1.1 - t) ≤ lo := by
    rw [Int.tdiv_eq_ediv_of_nonneg l0]
    exact Int.ediv_le_self _ l0
  rw [w64_id (n := Int.tdiv lo ((nd (bk l t) 0).1.1 - t)) (by omega) (by omega)]
  by_cases hz : Int.tdiv lo ((nd (bk l t) 0).1.1 - t) = 0
  · rw [cond_pos (c := Int.tdiv lo ((nd (bk l t) 0).1.1 - t) == 0) (by rw [hz]; rfl)]
    exact .inl ⟨10, by decide, rfl⟩
  rw [cond_neg (c := Int.tdiv lo ((nd (bk l t) 0).1.1 - t) == 0) (beq_false_of_ne hz)]
  obtain ⟨lo2, hi2, hd2, m0, m1, m2, m3⟩ := dist_eq k hnow.pt hp
  rw [hd2]
  simp only [Option.bind_some]
  by_cases hz2 : hi2 = 0
  · rw [cond_pos (c := hi2 == 0) (by rw [hz2]; rfl)]
    exact .inr (.inr ⟨[], by rw [List.append_nil], by simp, by simp⟩)
  rw [cond_neg (c := hi2 == 0) (beq_false_of_ne hz2)]
  obtain ⟨u, hu, u0, u1, _⟩ := ups_eq k (d := hi2) (s := Int.tdiv lo ((nd (bk l t) 0).1.1 - t)) (by omega) (by omega) (by omega) (by omega)
  rw [hu]
  simp only [Option.bind_some]
  rw [w64_id (n := t + u) (by omega) (by omega)]
  by_cases hc : t + u > 200000
  · rw [decide_eq_true hc]
    exact .inl ⟨12, by decide, rfl⟩
  rw [decide_eq_false hc, cond_false]
  rw [cond_pos (c := Nat.ble (((hd l t ++ [pt k l t]).length + 1) * 48) 140737488355328) (Nat.ble_eq_true_of_le (by rw [List.length_append, List.length_singleton]; omega))]
  refine .inr (.inr ⟨[((t + u, (p, (pt k l t).1.2.2)), (pt k l t).2)], rfl, fun n hn => ?_, by simp⟩)
  rw [List.mem_singleton] at hn
  subst hn
  exact ⟨⟨⟨by show 0 ≤ t + u; omega, by show t + u ≤ 200000; omega⟩, hp, hnow.height, hnow.radius, hnow.band⟩, by show t < t + u; omega⟩

end Go.Proofs.YtdpchhbbmlhklaaGreatDoor.RT
