/- What is proved here: a flight with another speed. They ask nothing. -/
import Derived.Test.YtdpchhbbmlhklaaGreatDoorRsT
import Derived.Test.YtdpchhbbmlhklaaGreatDoorRsD
namespace Go.Proofs.YtdpchhbbmlhklaaGreatDoor.RT
open Go Go.R

attribute [local irreducible] tube_Check.F tube_at.F plane_Check.F tube_Point.F phrase_Check.F aircraft_Check.F effect_divide.F effect_changed.F effect_Of.F plane_Distance.F effect_up.F

/-! ### Flights at a speed -/

/-- Nodes that follow one another at a speed. -/
def Chain (k : Nat) (s : Int) : Int → Pt → List Nd → List Nd → Prop
  | _, _, [], Q => Q = []
  | T, p, n :: B, Q => ∃ u Q' lo hi, Q = ((T + u, n.1.2), n.2) :: Q' ∧ plane_Distance.F k p n.1.2.1 = some (lo, hi) ∧ lo ≤ s * u ∧ 1 ≤ u ∧ T + u ≤ 200000 ∧ Chain k s (T + u) n.1.2.1 B Q'

theorem pace_loop (k : Nat) (call tx : ByteArray) (s : Int) (hs : 1 ≤ s) (hs' : s ≤ 400) (now : Nd) (hdl B : List Nd) (hB : B.length ≤ 64) (hb : ∀ n ∈ B, NdOk n) : ∀ (n i : Nat) (T : Int) (p : Pt) (out : List Nd), i ≤ B.length → B.length - i < n → 0 ≤ T → T ≤ 200000 → PtOk p → out.length + (B.length - i) ≤ 1000 →
    (∃ e, e ≠ 0 ∧ effect_changed.l3 k (call, (2, (s, tx))) (now, (hdl, B)) n ((T, (i : Int), p.1, p.2), out) = some ([], e)) ∨ ∃ Q, effect_changed.l3 k (call, (2, (s, tx))) (now, (hdl, B)) n ((T, (i : Int), p.1, p.2), out) = some (out ++ Q, 0) ∧ Chain k s T p (B.drop i) Q := by
  intro n
  induction n with
  | zero => intro i _ _ _ _ h; omega
  | succ n ih =>
    intro i T p out hi hn h0 h1 hp ho
    rw [effect_changed.l3_succ]
    unfold effect_changed.l3b
    dsimp only
    by_cases hlt : i < B.length
    · have hd := drop_cons hlt (nd0 : Nd)
      rw [nd_eq] at hd
      rw [decide_eq_true (p := (i : Int) < ((B.length : Nat) : Int)) (by omega), decide_eq_true (p := 0 ≤ (i : Int)) (by omega)]
      have hg : B.getD ((i : Int)).toNat ((0, ((0, 0), 0)), (0, 0)) = nd B i := by rw [Int.toNat_natCast]; rfl
      rw [hg, show ((p.1, p.2) : Pt) = p from rfl]
      simp only [Bool.and_self, cond_true]
      have hbi := hb _ (nd_mem hlt)
      obtain ⟨lo, hi', hdd, l0, l1, l2, _⟩ := dist_eq k hp hbi.pt
      rw [hdd]
      simp only [Option.bind_some]
      obtain ⟨u, hu, u0, u1, u2⟩ := ups_eq k (d := hi') (s := s) (by omega) (by omega) hs (by omega)
      rw [hu]
      simp only [Option.bind_some]
      rw [w64_id (n := T + u) (by omega) (by omega)]
      by_cases hc : T + u > 200000
      · rw [decide_eq_true hc]
        exact .inl ⟨12, by decide, rfl⟩
      · rw [decide_eq_false hc, cond_false, cond_pos (c := Nat.ble ((out.length + 1) * 48) 140737488355328) (Nat.ble_eq_true_of_le (by omega)), show w64 ((i : Int) + 1) = ((i + 1 : Nat) : Int) from w64_id (by omega) (by omega)]
        rcases ih (i + 1) (T + u) (nd B i).1.2.1 (out ++ [((T + u, ((nd B i).1.2.1, (nd B i).1.2.2)), (nd B i).2)]) (by omega) (by omega) (by omega) (by omega) hbi.pt (by rw [List.length_append, List.length_singleton]; omega) with h | ⟨Q, hQ, hC⟩
        · exact .inl h
        · refine .inr ⟨((T + u, (nd B i).1.2), (nd B i).2) :: Q, ?_, ?_⟩
          · rw [hQ, List.append_assoc]
            rfl
          · rw [hd]
            exact ⟨u, Q, lo, hi', rfl, hdd, by omega, u0, by omega, hC⟩
    · rw [decide_eq_false (p := (i : Int) < ((B.length : Nat) : Int)) (by omega), List.drop_eq_nil_of_le (by omega)]
      exact .inr ⟨[], by rw [List.append_nil]; rfl, rfl⟩

theorem chain_pts (k : Nat) (s : Int) : ∀ (B Q : List Nd) (T : Int) (p : Pt), Chain k s T p B Q → (Q.map fun x => x.1.2.1) = (B.map fun x => x.1.2.1) ∧ (∀ q ∈ Q, T < q.1.1) ∧ Q.length = B.length
  | [], Q, T, p, h => by
    have : Q = [] := h
    subst this
    exact ⟨rfl, (fun q hq => absurd hq (by simp)), rfl⟩
  | n :: B, Q, T, p, h => by
    obtain ⟨u, Q', lo, hi, rfl, _, _, u0, _, hC⟩ := h
    obtain ⟨a, b, c⟩ := chain_pts k s B Q' _ _ hC
    refine ⟨by simp only [List.map_cons, a], fun q hq => ?_, by simp only [List.length_cons, c]⟩
    rw [List.mem_cons] at hq
    rcases hq with rfl | hq
    · show T < T + u
      omega
    · have := b q hq
      omega

/-- A step at a speed. -/
def Step (k : Nat) (s : Int) (M : List Nd) (i : Nat) : Prop :=
  ∃ lo hi, plane_Distance.F k (nd M (i - 1)).1.2.1 (nd M i).1.2.1 = some (lo, hi) ∧ lo ≤ s * (tm M i - tm M (i - 1)) ∧ 1 ≤ tm M i - tm M (i - 1) ∧ tm M i - tm M (i - 1) ≤ 200000

theorem chain_ix (k : Nat) (s : Int) : ∀ (B Q H : List Nd) (T : Int) (p : Pt), 0 ≤ T → 0 < H.length → (nd H (H.length - 1)).1.2.1 = p → tm H (H.length - 1) = T → Chain k s T p B Q → ∀ i, H.length ≤ i → i < (H ++ Q).length → Step k s (H ++ Q) i
  | [], Q, H, T, p, _, _, _, _, h => by
    have : Q = [] := h
    subst this
    intro i h1 h2
    rw [List.append_nil] at h2
    omega
  | n :: B, Q, H, T, p, hT, hH, hp, ht, h => by
    obtain ⟨u, Q', lo, hi, rfl, hd, hl, u0, u1, hC⟩ := h
    intro i h1 h2
    have e : H ++ ((T + u, n.1.2), n.2) :: Q' = (H ++ [((T + u, n.1.2), n.2)]) ++ Q' := by rw [List.append_assoc]; rfl
    have hla := last_app H ((T + u, n.1.2), n.2)
    rcases Nat.lt_or_ge H.length i with g | g
    · rw [e] at h2 ⊢
      refine chain_ix k s B Q' (H ++ [((T + u, n.1.2), n.2)]) (T + u) n.1.2.1 (by omega) (by simp) (by rw [hla]) (by unfold tm; rw [hla]) hC i (by rw [List.length_append, List.length_singleton]; omega) h2
    · have : i = H.length := by omega
      subst this
      have n1 : nd (H ++ ((T + u, n.1.2), n.2) :: Q') H.length = ((T + u, n.1.2), n.2) := by
        unfold nd
        rw [List.getD, List.getElem?_append_right (Nat.le_refl _), Nat.sub_self]
        rfl
      have n0 : nd (H ++ ((T + u, n.1.2), n.2) :: Q') (H.length - 1) = nd H (H.length - 1) := by
        unfold nd
        rw [List.getD, List.getElem?_append_left (by omega), List.getD]
      have t1 : tm (H ++ ((T + u, n.1.2), n.2) :: Q') H.length = T + u := by unfold tm; rw [n1]
      have t0 : tm (H ++ ((T + u, n.1.2), n.2) :: Q') (H.length - 1) = T := by unfold tm; rw [n0]; exact ht
      refine ⟨lo, hi, by rw [n1, n0, hp]; exact hd, ?_⟩
      rw [t1, t0, show T + u - T = u by omega]
      exact ⟨hl, u0, by omega⟩

/-! ### The points behind a time -/

def pts (l : List Nd) (t : Int) : List Pt := (bk l t).map fun x => x.1.2.1

/-! ### The law -/

theorem paced_eq (k : Nat) (hk : 100 ≤ k) {l : List Nd} (h : TubeOk l) {t : Int} (h0 : tm l 0 ≤ t) (h1 : t ≤ tl l) (call tx : ByteArray) (s : Int) {a : Kd} (ha : KdOk a) (p : Pt) :
    (∃ e, e ≠ 0 ∧ effect_changed.F k l (call, (2, (s, tx))) t a p = some ([], e)) ∨ (∃ M, effect_changed.F k l (call, (2, (s, tx))) t a p = some (M, 0) ∧ pts M t = pts l t ∧ ∀ i, i < M.length → t < tm M i → 1 ≤ s ∧ s ≤ 400 ∧ 1 ≤ i ∧ Step k s M i) := by
  have hlen := h.len
  by_cases he : t = tl l
  · refine .inr ⟨l, changed_end k hk h he _ (show (2 : Int) ≠ 0 by decide) a p, rfl, fun i hi ht => ?_⟩
    have := h.le (show i ≤ l.length - 1 by omega) (by omega)
    change tm l i ≤ tl l at this
    omega
  have hhs : hs l t = true := by unfold hs; rw [decide_eq_true h0, decide_eq_true (p := t ≤ tl l) (by omega)]; rfl
  obtain ⟨q, hq, hne⟩ := (at_cases k hk h t).2.2 hhs
  have hnow : NdOk (pt k l t) := by rw [hne]; exact seg_ok h hq (by omega)
  have htime : (pt k l t).1.1 = t := by rw [hne, ndAt_time]
  have htb := hnow.time
  have hbl : 0 < (bk l t).length := List.length_pos_iff.2 (bk_nil h (by omega))
  have hbl2 : (bk l t).length ≤ 64 := Nat.le_trans (List.length_filter_le _ _) h.len
  have hhl : (hd l t).length ≤ 64 := Nat.le_trans (List.length_filter_le _ _) h.len
  unfold effect_changed.F
  rw [divide_eq k hk h]
  simp only [Option.bind_some]
  rw [cond_neg (c := (2 : Int) == 0) (by rfl), cond_neg (c := (((bk l t).length : Nat) : Int) == 0) (beq_false_of_ne (by omega))]
  simp only [Option.bind_some]
  rw [cond_neg (c := decide ((2 : Int) > 3)) (by rfl), cond_neg (c := (2 : Int) == 1) (by rfl), cond_pos (c := (2 : Int) == 2) (by rfl)]
  have hsl := ha.slow
  have hfa := ha.fast
  by_cases c1 : s < a.2.2.2.2.2.1
  · rw [decide_eq_true c1]
    exact .inl ⟨4, by decide, rfl⟩
  by_cases c2 : s > a.2.2.2.2.2.2
  · rw [decide_eq_false c1, decide_eq_true c2]
    exact .inl ⟨4, by decide, rfl⟩
  rw [decide_eq_false c1, decide_eq_false c2]
  simp only [cond_false, Option.bind_some]
  rw [htime]
  rcases pace_loop k call tx s (by omega) (by omega) (pt k l t) (hd l t ++ [pt k l t]) (bk l t) hbl2 (fun n hn => h.node n (List.mem_filter.1 hn).1) k 0 t (pt k l t).1.2.1 (hd l t ++ [pt k l t]) (Nat.zero_le _) (by omega) (by omega) (by omega) hnow.pt (by rw [List.length_append, List.length_singleton]; omega) with h' | ⟨Q, hQ, hC⟩
  · exact .inl h'
  · rw [List.drop_zero] at hC
    obtain ⟨p1, p2, p3⟩ := chain_pts k s _ _ _ _ hC
    have hHt : ∀ x ∈ hd l t ++ [pt k l t], x.1.1 ≤ t := fun x hx => by
      rw [List.mem_append, List.mem_singleton] at hx
      rcases hx with hx | rfl
      · have := (List.mem_filter.1 hx).2
        have : x.1.1 < t := by simpa using this
        omega
      · omega
    have hla := last_app (hd l t) (pt k l t)
    refine .inr ⟨hd l t ++ [pt k l t] ++ Q, hQ, ?_, fun i hi ht => ?_⟩
    · unfold pts
      have e1 : bk (hd l t ++ [pt k l t] ++ Q) t = Q := by
        unfold bk
        rw [List.filter_append, List.filter_eq_nil_iff.2 (fun x hx => by have := hHt x hx; simp; omega), List.nil_append, List.filter_eq_self.2 (fun x hx => by have := p2 x hx; simp; omega)]
      rw [e1]
      exact p1
    · have hge : (hd l t ++ [pt k l t]).length ≤ i := by
        rcases Nat.lt_or_ge i (hd l t ++ [pt k l t]).length with g | g
        · have e : nd (hd l t ++ [pt k l t] ++ Q) i = nd (hd l t ++ [pt k l t]) i := by
            unfold nd
            rw [List.getD, List.getElem?_append_left g, List.getD]
          have := hHt _ (nd_mem g)
          unfold tm at ht
          rw [e] at ht
          omega
        · exact g
      refine ⟨by omega, by omega, by rw [List.length_append, List.length_singleton] at hge; omega, ?_⟩
      exact chain_ix k s (bk l t) Q (hd l t ++ [pt k l t]) t (pt k l t).1.2.1 (by omega) (by simp) (by rw [hla]) (by unfold tm; rw [hla]; exact htime) hC i hge hi

end Go.Proofs.YtdpchhbbmlhklaaGreatDoor.RT
