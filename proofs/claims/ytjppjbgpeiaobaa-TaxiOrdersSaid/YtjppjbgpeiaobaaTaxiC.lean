/- What is proved here: the plain laws TaxiFrees and TaxiOrders. They ask nothing. -/
import Derived.Test.YtjppjbgpeiaobaaTaT
import Derived.Test.YtjppjbgpeiaobaaPlA
import Derived.Test.YtjppjbgpeiaobaaStrA
import Derived.Test.YtjppjbgpeiaobaaNameA
import Derived.Test.YtjppjbgpeiaobaaTaxiA
import Derived.Test.YtjppjbgpeiaobaaTaxiB
namespace Go.Proofs.Ytjppjbgpeiaobaa.RT
open Go Go.R

attribute [local irreducible] taxi_Check.F taxi_stand.F taxi_Waiting.F taxi_Most.F

/-- The order at the holding point. -/
def mcmp (a b : Mv) : Int := iscmp a.2.2.1 a.1 b.2.2.1 b.1

theorem cmpi_eq (k : Nat) (a b : Int) : cmp_Compare_int.F k a b = some (icmp a b) := by
  unfold cmp_Compare_int.F cmp_isNaN_int.F icmp
  simp only [Option.bind_some, bne_self_eq_false, cond_false]
  by_cases h : a < b
  · rw [decide_eq_true h, if_pos h]; rfl
  · rw [decide_eq_false h, if_neg h]
    by_cases g : b < a
    · rw [decide_eq_true (p := a > b) g, if_pos g]; rfl
    · rw [decide_eq_false (p := a > b) g, if_neg g]; rfl

theorem cmps_eq (k : Nat) (a b : ByteArray) : cmp_Compare_string.F k a b = some (scmp a b) := by
  unfold cmp_Compare_string.F cmp_isNaN_string.F scmp
  simp only [Option.bind_some, beq_self_eq_true, Bool.not_true, cond_false]
  cases h : Op.bytesLess a.toList b.toList with
  | true => rfl
  | false =>
    cases h' : Op.bytesLess b.toList a.toList with
    | true =>
      have : ¬ a.toList = b.toList := fun e => by rw [e, bl_irrefl] at h'; cases h'
      rw [show (a.toList == b.toList) = false by simpa using this]; rfl
    | false =>
      have := bl_tri _ _ h h'
      rw [show (a.toList == b.toList) = true by simpa using this]; rfl

theorem or2_eq (m : Nat) (a b : Int) : cmp_Or_int.F (m + 5) [a, b] = some (if a = 0 then b else a) := by
  unfold cmp_Or_int.F
  rw [cmp_Or_int.l0_succ]
  unfold cmp_Or_int.l0b
  by_cases h : a = 0
  · subst h
    rw [if_pos rfl, cond_pos (c := decide ((0 : Int) < (([0, b] : List Int).length : Nat))) (by rfl), cond_pos (by rfl), cond_neg (by rfl)]
    show cmp_Or_int.l0 (m + 5) [0, b] ((m + 3) + 1) 1 = some b
    rw [cmp_Or_int.l0_succ]
    unfold cmp_Or_int.l0b
    by_cases g : b = 0
    · subst g; rfl
    · rw [cond_pos (c := decide ((1 : Int) < (([0, b] : List Int).length : Nat))) (by rfl), cond_pos (by rfl), cond_pos (by simpa using g)]; rfl
  · rw [if_neg h, cond_pos (c := decide ((0 : Int) < (([a, b] : List Int).length : Nat))) (by rfl), cond_pos (by rfl), cond_pos (by simpa using h)]; rfl

theorem mcmp_eq (m : Nat) (a b : Mv) : taxi_Queue_1.F (m + 5) a b = some (mcmp a b) := by
  unfold taxi_Queue_1.F
  rw [cmpi_eq, cmps_eq]
  simp only [Option.bind_some]
  rw [or2_eq]
  rfl

theorem mcmp_ok : CmpOk mcmp := iscmp_ok (fun m : Mv => m.2.2.1) (fun m : Mv => m.1)

/-- Departures whose names differ can be put in order. -/
theorem sort_eq (m : Nat) (xs : List Mv) (hl : xs.length ≤ 60) (hd : xs.Pairwise fun a b => a.1.toList ≠ b.1.toList) :
    ∃ ys, sortO (fun a b => taxi_Queue_1.F (m + 5) a b) xs = some ys ∧ ys.Perm xs ∧ ys.Pairwise fun a b => mcmp a b < 0 := by
  obtain ⟨ys, h⟩ := sorted_exists (cmp := fun a b => taxi_Queue_1.F (m + 5) a b) mcmp_ok (by omega) (fun x _ y _ => mcmp_eq m x y) (hd.imp fun {a b} h e => h (iscmp_zero e))
  have h0 := h
  obtain ⟨_, cf, _, h2, _, h4, h5⟩ := h
  refine ⟨ys, sortO_eq h0, h4, h5.imp_of_mem fun {a b} ha hb hab => ?_⟩
  have : taxi_Queue_1.F (m + 5) a b = some (cf a b) := h2 a (h4.mem_iff.1 ha) b (h4.mem_iff.1 hb)
  rw [mcmp_eq] at this
  rw [Option.some.inj this]
  exact hab

/-! ### The queue -/

/-- What is known of the moves before they are put in order. -/
structure Made (xs : List Mv) (d : List Ak) (i : Nat) : Prop where
  len : xs.length = i
  call : ∀ j, j < i → (mv xs j).1 = (ak d j).1
  time : ∀ j, j < i → 0 ≤ (mv xs j).2.1 ∧ (mv xs j).2.1 ≤ 200000 ∧ (mv xs j).2.1 ≤ (mv xs j).2.2.1 ∧ (mv xs j).2.2.1 ≤ 201800

theorem mv_snoc (xs : List Mv) (x : Mv) (j : Nat) : mv (xs ++ [x]) j = if j < xs.length then mv xs j else if j = xs.length then x else (ByteArray.empty, (0, (0, 0))) := by
  unfold mv
  rw [List.getD_eq_getElem?_getD, List.getElem?_append]
  split
  · rw [List.getD_eq_getElem?_getD]
  · rename_i h
    by_cases e : j = xs.length
    · rw [if_pos e, e]; simp
    · rw [if_neg e, List.getElem?_eq_none_iff.2 (by simp; omega)]; rfl

theorem queue_first (k : Nat) (l : List Sd) (d : List Ak) (hd : d.length ≤ 16) (h : ∀ j, j < d.length → AkOk k l d j) : ∀ (n i : Nat) (xs : List Mv), i ≤ d.length → d.length - i < n → Made xs d i →
    ∃ ys, taxi_Queue.l0 k l d n (i, xs) = some (Sum.inl ys) ∧ Made ys d d.length := by
  intro n
  induction n with
  | zero => intro i _ _ h; omega
  | succ n ih =>
    intro i xs hi hm hM
    rw [taxi_Queue.l0_succ]
    unfold taxi_Queue.l0b
    dsimp only
    by_cases hlt : i < d.length
    · rw [decide_eq_true (p := (i : Int) < ((d.length : Nat) : Int)) (by omega), decide_eq_true (p := 0 ≤ (i : Int)) (by omega)]
      simp only [Bool.and_self, cond_true, getD_nat, ak_eq]
      obtain ⟨⟨v, hv, hv1, hv2⟩, t1, t2, _⟩ := h i hlt
      have hlen := hM.len
      rw [hv]
      simp only [Option.bind_some]
      rw [cond_pos (Nat.ble_eq_true_of_le (by omega)), w64_id (n := (i : Int) + 1) (by omega) (by omega), w64_id (n := (ak d i).2.2 + v) (by omega) (by omega)]
      refine ih (i + 1) _ (by omega) (by omega) ⟨by simp [hlen], fun j hj => ?_, fun j hj => ?_⟩
      · rw [mv_snoc, hlen]
        by_cases g : j < i
        · rw [if_pos g]; exact hM.call j g
        · rw [if_neg g, if_pos (by omega), show j = i by omega]
      · rw [mv_snoc, hlen]
        by_cases g : j < i
        · rw [if_pos g]; exact hM.time j g
        · rw [if_neg g, if_pos (by omega)]; dsimp only; omega
    · rw [decide_eq_false (p := (i : Int) < ((d.length : Nat) : Int)) (by omega)]
      have : i = d.length := by omega
      subst this
      exact ⟨xs, rfl, hM⟩

theorem mv_set (xs : List Mv) (i : Nat) (hi : i < xs.length) (x : Mv) (j : Nat) : mv (xs.set i x) j = if i = j then x else mv xs j := by
  unfold mv
  rw [List.getD_eq_getElem?_getD, List.getElem?_set, List.getD_eq_getElem?_getD]
  by_cases h : i = j
  · rw [if_pos h, if_pos h, if_pos hi]; rfl
  · rw [if_neg h, if_neg h]

/-- What is known of the moves in order, with the times of leaving among the first i. -/
structure Led (ys zs : List Mv) (gap : Int) (i : Nat) : Prop where
  len : zs.length = ys.length
  same : ∀ j, j < ys.length → (mv zs j).1 = (mv ys j).1 ∧ (mv zs j).2.1 = (mv ys j).2.1 ∧ (mv zs j).2.2.1 = (mv ys j).2.2.1
  leave : ∀ j, j < i → (mv zs j).2.2.1 ≤ (mv zs j).2.2.2 ∧ (mv zs j).2.2.2 ≤ 200000 ∧ (0 < j → (mv zs (j - 1)).2.2.2 + gap ≤ (mv zs j).2.2.2)

theorem queue_second (k : Nat) (gap : Int) (hg : 0 ≤ gap ∧ gap ≤ 1800) (ys : List Mv) (hl : ys.length ≤ 16) (ht : ∀ j, j < ys.length → 0 ≤ (mv ys j).2.1 ∧ (mv ys j).2.1 ≤ 200000 ∧ (mv ys j).2.1 ≤ (mv ys j).2.2.1 ∧ (mv ys j).2.2.1 ≤ 201800) :
    ∀ (n i : Nat) (zs : List Mv), i ≤ ys.length → ys.length - i < n → Led ys zs gap i →
    taxi_Queue.l1 k gap ys n (i, zs) = some ([], 12) ∨ ∃ us, taxi_Queue.l1 k gap ys n (i, zs) = some (us, 0) ∧ Led ys us gap ys.length := by
  intro n
  induction n with
  | zero => intro i _ _ h; omega
  | succ n ih =>
    intro i zs hi hm hL
    have hlen := hL.len
    rw [taxi_Queue.l1_succ]
    unfold taxi_Queue.l1b
    dsimp only
    by_cases hlt : i < ys.length
    · have hs := hL.same i hlt
      have htm := ht i hlt
      rw [decide_eq_true (p := (i : Int) < ((ys.length : Nat) : Int)) (by omega), decide_eq_true (p := 0 ≤ (i : Int)) (by omega), hlen, decide_eq_true (p := (i : Int) < ((ys.length : Nat) : Int)) (by omega)]
      simp only [Bool.and_self, cond_true, mv_eq, Int.toNat_natCast, Option.bind_some, List.length_set, hlen, decide_eq_true (p := (i : Int) < ((ys.length : Nat) : Int)) (by omega)]
      rw [w64_id (n := (i : Int) + 1) (by omega) (by omega)]
      have e1 : ∀ q, mv (zs.set i ((mv zs i).1, (mv zs i).2.1, (mv zs i).2.2.1, (mv zs i).2.2.1)) q = if i = q then ((mv zs i).1, (mv zs i).2.1, (mv zs i).2.2.1, (mv zs i).2.2.1) else mv zs q := mv_set zs i (by omega) _
      by_cases h0 : 0 < i
      · have hp := hL.leave (i - 1) (by omega)
        rw [decide_eq_true (p := (i : Int) > 0) (by omega), w64_id (n := (i : Int) - 1) (by omega) (by omega), decide_eq_true (p := 0 ≤ (i : Int) - 1) (by omega), decide_eq_true (p := (i : Int) - 1 < ((ys.length : Nat) : Int)) (by omega)]
        have e0 : ((i : Int) - 1).toNat = i - 1 := by omega
        simp only [Bool.and_self, cond_true, e0, e1, if_true, if_neg (show ¬ i = i - 1 by omega)]
        have hpt := ht (i - 1) (by omega)
        have hps := hL.same (i - 1) (by omega)
        rw [w64_id (n := (mv zs (i - 1)).2.2.2 + gap) (by omega) (by omega)]
        have e2 := mv_set (zs.set i ((mv zs i).1, (mv zs i).2.1, (mv zs i).2.2.1, (mv zs i).2.2.1)) i (by rw [List.length_set]; omega) ((mv zs i).1, (mv zs i).2.1, (mv zs i).2.2.1, mx (mv zs i).2.2.1 ((mv zs (i - 1)).2.2.2 + gap))
        simp only [e2, if_true]
        have hmx : (mv zs i).2.2.1 ≤ mx (mv zs i).2.2.1 ((mv zs (i - 1)).2.2.2 + gap) ∧ (mv zs (i - 1)).2.2.2 + gap ≤ mx (mv zs i).2.2.1 ((mv zs (i - 1)).2.2.2 + gap) := by
          unfold mx; split <;> omega
        by_cases c : mx (mv zs i).2.2.1 ((mv zs (i - 1)).2.2.2 + gap) > 200000
        · rw [decide_eq_true c]; exact .inl rfl
        · rw [decide_eq_false c]
          refine ih (i + 1) _ (by omega) (by omega) ⟨by simp [hlen], fun j hj => ?_, fun j hj => ?_⟩
          · rw [e2, e1]
            by_cases q : i = j
            · subst q; rw [if_pos rfl]; exact hs
            · rw [if_neg q, if_neg q]; exact hL.same j hj
          · simp only [e2, e1]
            by_cases q : i = j
            · subst q
              rw [if_pos rfl, if_neg (show ¬ i = i - 1 by omega), if_neg (show ¬ i = i - 1 by omega)]
              exact ⟨hmx.1, by dsimp only; omega, fun _ => hmx.2⟩
            · rw [if_neg q, if_neg q]
              have := hL.leave j (by omega)
              by_cases q2 : i = j - 1
              · omega
              · rw [if_neg q2, if_neg q2]; exact this
      · rw [decide_eq_false (p := (i : Int) > 0) (by omega)]
        simp only [cond_false, e1, if_true]
        by_cases c : (mv zs i).2.2.1 > 200000
        · rw [decide_eq_true c]; exact .inl rfl
        · rw [decide_eq_false c]
          refine ih (i + 1) _ (by omega) (by omega) ⟨by simp [hlen], fun j hj => ?_, fun j hj => ?_⟩
          · rw [e1]
            by_cases q : i = j
            · subst q; rw [if_pos rfl]; exact hs
            · rw [if_neg q]; exact hL.same j hj
          · have q : i = j := by omega
            subst q
            simp only [e1, if_true]
            exact ⟨Int.le_refl _, by omega, fun h => absurd h h0⟩
    · rw [decide_eq_false (p := (i : Int) < ((ys.length : Nat) : Int)) (by omega)]
      have : i = ys.length := by omega
      subst this
      exact .inr ⟨zs, rfl, hL⟩

theorem mv_mem {xs : List Mv} {j : Nat} (h : j < xs.length) : mv xs j ∈ xs := by
  have : mv xs j = xs[j] := by unfold mv; simp [List.getD, h]
  rw [this]; exact List.getElem_mem h

theorem mv_of_mem {xs : List Mv} {x : Mv} (h : x ∈ xs) : ∃ j, j < xs.length ∧ mv xs j = x := by
  obtain ⟨j, hj, rfl⟩ := List.getElem_of_mem h
  exact ⟨j, hj, by unfold mv; simp [List.getD, hj]⟩

/-- A queue. -/
structure Queued (zs : List Mv) (gap : Int) : Prop where
  len : zs.length ≤ 16
  gap0 : 0 ≤ gap ∧ gap ≤ 1800
  time : ∀ j, j < zs.length → 0 ≤ (mv zs j).2.1 ∧ (mv zs j).2.1 ≤ (mv zs j).2.2.1 ∧ (mv zs j).2.2.1 ≤ (mv zs j).2.2.2 ∧ (mv zs j).2.2.2 ≤ 200000
  apart : ∀ j, j < zs.length → 0 < j → (mv zs (j - 1)).2.2.2 + gap ≤ (mv zs j).2.2.2

theorem queue_eq (k : Nat) (hk : 300 ≤ k) (l : List Sd) (d : List Ak) (gap : Int) : (∃ e, e ≠ 0 ∧ taxi_Queue.F k l d gap = some ([], e)) ∨ ∃ zs, taxi_Queue.F k l d gap = some (zs, 0) ∧ zs.length = d.length ∧ Queued zs gap := by
  unfold taxi_Queue.F
  obtain ⟨e, h1, h2⟩ := check_eq k (by omega) l d
  rw [h1]
  simp only [Option.bind_some]
  by_cases he : e = 0
  · obtain ⟨hd, hok⟩ := h2 he
    rw [cond_neg (by simpa using he)]
    by_cases g1 : gap < 0
    · rw [decide_eq_true g1]; exact .inl ⟨4, by omega, rfl⟩
    by_cases g2 : gap > 1800
    · rw [decide_eq_false g1, decide_eq_true g2]; exact .inl ⟨4, by omega, rfl⟩
    rw [decide_eq_false g1, decide_eq_false g2]
    simp only [cond_false, Option.bind_some]
    obtain ⟨xs, hx, hM⟩ := queue_first k l d hd hok k 0 [] (by omega) (by omega) ⟨rfl, fun j hj => by omega, fun j hj => by omega⟩
    rw [show ((0 : Nat) : Int) = 0 from rfl] at hx
    rw [hx]
    simp only [Option.bind_some]
    have hdist : xs.Pairwise fun a b => a.1.toList ≠ b.1.toList := by
      rw [List.pairwise_iff_getElem]
      intro i j hi hj hij
      have ei : mv xs i = xs[i] := by unfold mv; simp [List.getD, hi]
      have ej : mv xs j = xs[j] := by unfold mv; simp [List.getD, hj]
      rw [← ei, ← ej, hM.call i (by rw [← hM.len]; exact hi), hM.call j (by rw [← hM.len]; exact hj)]
      exact (hok j (by rw [← hM.len]; exact hj)).2.2.2 i hij
    obtain ⟨m, rfl⟩ : ∃ m, k = m + 5 := ⟨k - 5, by omega⟩
    obtain ⟨ys, hs, hp, _⟩ := sort_eq m xs (by rw [hM.len]; omega) hdist
    rw [hs]
    simp only [Option.bind_some]
    have hyl : ys.length = d.length := by rw [hp.length_eq, hM.len]
    have hyt : ∀ j, j < ys.length → 0 ≤ (mv ys j).2.1 ∧ (mv ys j).2.1 ≤ 200000 ∧ (mv ys j).2.1 ≤ (mv ys j).2.2.1 ∧ (mv ys j).2.2.1 ≤ 201800 := fun j hj => by
      obtain ⟨q, hq, e⟩ := mv_of_mem (hp.mem_iff.1 (mv_mem hj))
      rw [← e]
      exact hM.time q (by rw [← hM.len]; exact hq)
    rcases queue_second (m + 5) gap ⟨by omega, by omega⟩ ys (by omega) hyt (m + 5) 0 ys (by omega) (by omega) ⟨rfl, fun j _ => ⟨rfl, rfl, rfl⟩, fun j hj => by omega⟩ with q | ⟨us, q, hL⟩
    · exact .inl ⟨12, by omega, q⟩
    · refine .inr ⟨us, q, by rw [hL.len, hyl], ⟨by rw [hL.len, hyl]; exact hd, ⟨by omega, by omega⟩, fun j hj => ?_, fun j hj h0 => (hL.leave j (by rw [← hL.len]; exact hj)).2.2 h0⟩⟩
      rw [hL.len] at hj
      have a1 := hyt j hj
      have a2 := hL.leave j hj
      have a3 := hL.same j hj
      omega
  · rw [cond_pos (by simpa using he)]
    exact .inl ⟨e, he, rfl⟩

attribute [local irreducible] taxi_Queue.F

/-- What Late makes of a queue, among the first i. -/
structure Later (zs us : List Mv) (slack : Int) (i : Nat) : Prop where
  len : us.length = zs.length
  call : ∀ j, j < zs.length → (mv us j).1 = (mv zs j).1 ∧ (mv us j).2.2.2 = (mv zs j).2.2.2
  rest : ∀ j, i ≤ j → j < zs.length → mv us j = mv zs j
  push : ∀ j, j < i → (mv zs j).2.1 ≤ (mv us j).2.1 ∧ (mv us j).2.2.1 - (mv us j).2.1 = (mv zs j).2.2.1 - (mv zs j).2.1 ∧ (mv us j).2.2.1 ≤ (mv us j).2.2.2 ∧ (mv us j).2.2.2 - (mv us j).2.2.1 ≤ slack

theorem late_loop (k : Nat) (slack : Int) (hs : 0 ≤ slack ∧ slack ≤ 1800) (zs : List Mv) (gap : Int) (hQ : Queued zs gap) : ∀ (n i : Nat) (us : List Mv), i ≤ zs.length → zs.length - i < n → Later zs us slack i →
    ∃ vs, taxi_Late.l0 k slack (zs, 0) n (i, us) = some (vs, 0) ∧ Later zs vs slack zs.length := by
  intro n
  induction n with
  | zero => intro i _ _ h; omega
  | succ n ih =>
    intro i us hi hm hL
    have hlen := hL.len
    have hz := hQ.len
    rw [taxi_Late.l0_succ]
    unfold taxi_Late.l0b
    dsimp only
    by_cases hlt : i < zs.length
    · have ht := hQ.time i hlt
      have hr := hL.rest i (Nat.le_refl _) hlt
      rw [decide_eq_true (p := (i : Int) < ((zs.length : Nat) : Int)) (by omega), decide_eq_true (p := 0 ≤ (i : Int)) (by omega), hlen, decide_eq_true (p := (i : Int) < ((zs.length : Nat) : Int)) (by omega)]
      simp only [Bool.and_self, cond_true, mv_eq, Int.toNat_natCast, Option.bind_some, List.length_set, hlen, hr, decide_eq_true (p := (i : Int) < ((zs.length : Nat) : Int)) (by omega)]
      rw [w64_id (n := (i : Int) + 1) (by omega) (by omega), w64_id (n := (mv zs i).2.2.2 - (mv zs i).2.2.1) (by omega) (by omega), w64_id (n := (mv zs i).2.2.2 - (mv zs i).2.2.1 - slack) (by omega) (by omega)]
      by_cases c : (mv zs i).2.2.2 - (mv zs i).2.2.1 - slack > 0
      · rw [decide_eq_true c, w64_id (n := (mv zs i).2.1 + _) (by omega) (by omega)]
        have e1 := mv_set us i (by omega) ((mv zs i).1, (mv zs i).2.1 + ((mv zs i).2.2.2 - (mv zs i).2.2.1 - slack), (mv zs i).2.2)
        simp only [cond_true, e1, if_true]
        rw [w64_id (n := (mv zs i).2.2.1 + _) (by omega) (by omega)]
        have e2 := mv_set (us.set i ((mv zs i).1, (mv zs i).2.1 + ((mv zs i).2.2.2 - (mv zs i).2.2.1 - slack), (mv zs i).2.2)) i (by rw [List.length_set]; omega) ((mv zs i).1, (mv zs i).2.1 + ((mv zs i).2.2.2 - (mv zs i).2.2.1 - slack), (mv zs i).2.2.1 + ((mv zs i).2.2.2 - (mv zs i).2.2.1 - slack), (mv zs i).2.2.2)
        refine ih (i + 1) _ (by omega) (by omega) ⟨by simp [hlen], fun j hj => ?_, fun j hj hj2 => ?_, fun j hj => ?_⟩
        · rw [e2, e1]
          by_cases q : i = j
          · subst q; rw [if_pos rfl]; exact ⟨rfl, rfl⟩
          · rw [if_neg q, if_neg q]; exact hL.call j hj
        · rw [e2, e1, if_neg (by omega), if_neg (by omega)]; exact hL.rest j (by omega) hj2
        · rw [e2, e1]
          by_cases q : i = j
          · subst q; rw [if_pos rfl]; dsimp only; omega
          · rw [if_neg q, if_neg q]; exact hL.push j (by omega)
      · rw [decide_eq_false c]
        refine ih (i + 1) _ (by omega) (by omega) ⟨hlen, hL.call, fun j hj => hL.rest j (by omega), fun j hj => ?_⟩
        by_cases q : j < i
        · exact hL.push j q
        · have : j = i := by omega
          subst this
          rw [hr]; omega
    · rw [decide_eq_false (p := (i : Int) < ((zs.length : Nat) : Int)) (by omega)]
      have : i = zs.length := by omega
      subst this
      exact ⟨us, rfl, hL⟩

theorem wn_mono {us zs : List Mv} (t : Int) (hl : us.length = zs.length) (h : ∀ j, j < zs.length → wat t (mv us j) = true → wat t (mv zs j) = true) : wn us t ≤ wn zs t := by
  induction us generalizing zs with
  | nil => simp [wn]
  | cons u us ih =>
    cases zs with
    | nil => simp at hl
    | cons z zs =>
      rw [wn_cons, wn_cons]
      have h0 := h 0 (by simp)
      have := ih (zs := zs) (by simpa using hl) (fun j hj => h (j + 1) (by simpa using hj))
      change wat t u = true → wat t z = true at h0
      by_cases c : wat t u = true
      · rw [if_pos c, if_pos (h0 c)]; omega
      · rw [if_neg c]; omega

theorem orders_loop (k : Nat) (gap slack : Int) (zs us : List Mv) (hQ : Queued zs gap) (hs : 0 ≤ slack ∧ slack ≤ 1800) (hL : Later zs us slack zs.length) : ∀ n i : Nat, i ≤ zs.length → zs.length - i < n →
    skywaykeep3_TaxiOrders.l0 k gap slack (zs, 0) (us, 0) n i = some (Sum.inl ()) := by
  intro n
  induction n with
  | zero => intro i _ h; omega
  | succ n ih =>
    intro i hi hm
    have hlen := hL.len
    have hz := hQ.len
    rw [skywaykeep3_TaxiOrders.l0_succ]
    unfold skywaykeep3_TaxiOrders.l0b
    dsimp only
    by_cases hlt : i < zs.length
    · have ht := hQ.time i hlt
      have hc := hL.call i hlt
      have hp := hL.push i hlt
      rw [hlen]
      simp only [decide_eq_true (p := (i : Int) < ((zs.length : Nat) : Int)) (by omega), decide_eq_true (p := 0 ≤ (i : Int)) (by omega), Bool.and_self, cond_true, getD_nat, mv_eq, hc.1, hc.2, beq_self_eq_true, bne_self_eq_false, Bool.not_true, cond_false]
      rw [w64_id (n := (i : Int) + 1) (by omega) (by omega), w64_id (n := (mv us i).2.2.1 - (mv us i).2.1) (by omega) (by omega), w64_id (n := (mv zs i).2.2.1 - (mv zs i).2.1) (by omega) (by omega), hp.2.1,
        decide_eq_false (p := (mv us i).2.1 < (mv zs i).2.1) (by omega), decide_eq_false (p := (mv zs i).2.2.2 < (mv us i).2.2.1) (by omega), w64_id (n := (mv zs i).2.2.2 - (mv us i).2.2.1) (by omega) (by omega),
        decide_eq_false (p := (mv zs i).2.2.2 - (mv us i).2.2.1 > mx slack 0) (by unfold mx; split <;> omega)]
      simp only [bne_self_eq_false, cond_false, Option.bind_some]
      by_cases h0 : 0 < i
      · have ha := hQ.apart i hlt h0
        have ht2 := hQ.time (i - 1) (by omega)
        have hg := hQ.gap0
        rw [decide_eq_true (p := (i : Int) > 0) (by omega), w64_id (n := (i : Int) - 1) (by omega) (by omega), decide_eq_true (p := 0 ≤ (i : Int) - 1) (by omega), decide_eq_true (p := (i : Int) - 1 < ((zs.length : Nat) : Int)) (by omega), show ((i : Int) - 1).toNat = i - 1 by omega, w64_id (n := (mv zs i).2.2.2 - (mv zs (i - 1)).2.2.2) (by omega) (by omega), decide_eq_false (p := (mv zs i).2.2.2 - (mv zs (i - 1)).2.2.2 < gap) (by omega)]
        exact ih (i + 1) (by omega) (by omega)
      · rw [decide_eq_false (p := (i : Int) > 0) (by omega)]
        exact ih (i + 1) (by omega) (by omega)
    · rw [decide_eq_false (p := (i : Int) < ((zs.length : Nat) : Int)) (by omega)]
      rfl

attribute [local irreducible] skywaykeep3_taxiFact.F skywaykeep3_TaxiOrders.l0 taxi_Late.l0

theorem TaxiOrders_plain (k : Nat) (hk : 300 ≤ k) (hf : skywaykeep3_taxiFact.F k = some true) (l : List Sd) (d : List Ak) (gap slack : Int) : skywaykeep3_TaxiOrders.F k l d gap slack = some true := by
  unfold skywaykeep3_TaxiOrders.F taxi_Late.F
  rw [hf]
  simp only [Option.bind_some, Bool.not_true, cond_false]
  rcases queue_eq k hk l d gap with ⟨e, he, h⟩ | ⟨zs, h, hlen, hQ⟩
  · rw [h]
    simp only [Option.bind_some]
    rw [cond_pos (c := e != 0) (by simpa using he)]
    simp only [Option.bind_some]
    rw [cond_pos (c := e != 0) (by simpa using he)]
    rfl
  · rw [h]
    simp only [Option.bind_some]
    rw [cond_neg (c := (0 : Int) != 0) (by rfl)]
    by_cases g1 : slack < 0
    · rw [decide_eq_true g1]; rfl
    by_cases g2 : slack > 1800
    · rw [decide_eq_false g1, decide_eq_true g2]; rfl
    rw [decide_eq_false g1, decide_eq_false g2]
    simp only [cond_false, Option.bind_some]
    have hz := hQ.len
    obtain ⟨us, hu, hL⟩ := late_loop k slack ⟨by omega, by omega⟩ zs gap hQ k 0 zs (by omega) (by omega) ⟨rfl, fun j _ => ⟨rfl, rfl⟩, fun j _ _ => rfl, fun j hj => by omega⟩
    rw [show ((0 : Nat) : Int) = 0 from rfl] at hu
    rw [hu]
    simp only [Option.bind_some]
    rw [cond_neg (c := (0 : Int) != 0) (by rfl)]
    simp only [Option.bind_some]
    rw [cond_neg (c := (0 : Int) != 0) (by rfl), hL.len, hlen, cond_neg (c := ((d.length : Nat) : Int) != ((d.length : Nat) : Int)) (by simp)]
    simp only [Option.bind_some]
    rw [cond_neg (c := ((d.length : Nat) : Int) != ((d.length : Nat) : Int)) (by simp)]
    have hol := orders_loop k gap slack zs us hQ ⟨by omega, by omega⟩ hL k 0 (by omega) (by omega)
    rw [show ((0 : Nat) : Int) = 0 from rfl] at hol
    rw [hol]
    simp only [Option.bind_some]
    obtain ⟨m1, a1, p1, _, _, p4⟩ := most_eq k hk zs (by omega)
    obtain ⟨m2, a2, q1, _, q3, _⟩ := most_eq k hk us (by rw [hL.len]; omega)
    rw [p1, q1]
    simp only [Option.bind_some]
    have hmono := wn_mono a2 hL.len (fun j hj hw => by
      have a := hL.push j hj
      have b := hL.call j hj
      have c := hQ.time j hj
      unfold wat at hw ⊢
      simp only [Bool.and_eq_true, decide_eq_true_eq] at hw ⊢
      omega)
    have h0 := p4 a2
    have h1 := p4 0
    rw [decide_eq_true (p := m2 ≤ m1) (by rcases q3 with ⟨z, _⟩ | ⟨_, z⟩ <;> omega)]

/-! ### The fact -/

theorem tfact_queue (m : Nat) : taxi_Queue.F (m + 40) [((⟨#[83]⟩ : ByteArray), 50)] [((⟨#[66]⟩ : ByteArray), ((⟨#[83]⟩ : ByteArray), 50)), ((⟨#[65]⟩ : ByteArray), ((⟨#[83]⟩ : ByteArray), 50))] 60 = some ([((⟨#[65]⟩ : ByteArray), (50, (100, 100))), ((⟨#[66]⟩ : ByteArray), (50, (100, 160)))], 0) := by
  unfold taxi_Queue.F
  rw [show taxi_Check.F (m + 40) [((⟨#[83]⟩ : ByteArray), 50)] [((⟨#[66]⟩ : ByteArray), ((⟨#[83]⟩ : ByteArray), 50)), ((⟨#[65]⟩ : ByteArray), ((⟨#[83]⟩ : ByteArray), 50))] = some 0 by kernel_rfl]
  simp only [Option.bind_some]
  rw [cond_neg (c := (0 : Int) != 0) (by rfl), cond_neg (c := decide ((60 : Int) < 0)) (by rfl)]
  simp only [Option.bind_some]
  rw [cond_neg (c := decide ((60 : Int) > 1800)) (by rfl), show taxi_Queue.l0 (m + 40) [((⟨#[83]⟩ : ByteArray), 50)] [((⟨#[66]⟩ : ByteArray), ((⟨#[83]⟩ : ByteArray), 50)), ((⟨#[65]⟩ : ByteArray), ((⟨#[83]⟩ : ByteArray), 50))] (m + 40) (0, []) = some (Sum.inl [((⟨#[66]⟩ : ByteArray), (50, (100, 0))), ((⟨#[65]⟩ : ByteArray), (50, (100, 0)))]) by kernel_rfl]
  simp only [Option.bind_some]
  have hs : sortO (fun a b => taxi_Queue_1.F (m + 40) a b) [((⟨#[66]⟩ : ByteArray), ((50 : Int), ((100 : Int), (0 : Int)))), ((⟨#[65]⟩ : ByteArray), (50, (100, 0)))] = some [((⟨#[65]⟩ : ByteArray), (50, (100, 0))), ((⟨#[66]⟩ : ByteArray), (50, (100, 0)))] :=
    sortO_eq ⟨by simp, mcmp, mcmp_ok, fun x _ y _ => mcmp_eq (m + 35) x y, by simp only [List.pairwise_cons, List.mem_singleton, forall_eq, List.not_mem_nil, false_implies, implies_true, List.Pairwise.nil, and_true]; decide +kernel, List.Perm.swap _ _ _, by simp only [List.pairwise_cons, List.mem_singleton, forall_eq, List.not_mem_nil, false_implies, implies_true, List.Pairwise.nil, and_true]; decide +kernel⟩
  rw [hs]
  simp only [Option.bind_some]
  show taxi_Queue.l1 (m + 40) 60 _ (m + 40) _ = some _
  kernel_rfl

theorem tfact (m : Nat) : skywaykeep3_taxiFact.F (m + 40) = some true := by
  unfold skywaykeep3_taxiFact.F taxi_Late.F
  rw [tfact_queue]
  simp only [Option.bind_some]
  show _ = some true
  kernel_rfl

attribute [local irreducible] skywaykeep3_TaxiOrders.F skywaykeep3_TaxiFrees.F
theorem taxi_cal (k : Nat) (x : DatPs (skywaykeep3_TaxiOrders.C 0).ats) : (skywaykeep3_TaxiOrders.C k).F x = skywaykeep3_TaxiOrders.F k x.1 x.2.1 x.2.2.1 x.2.2.2 := rfl
theorem TaxiOrders_law (x : DatPs (skywaykeep3_TaxiOrders.C 0).ats) (_ : FitPs (skywaykeep3_TaxiOrders.C 0).ats x) : ∃ k, (skywaykeep3_TaxiOrders.C k).F x = some true :=
  ⟨300 + 40, (taxi_cal _ x).trans (TaxiOrders_plain (300 + 40) (by omega) (tfact 300) x.1 x.2.1 x.2.2.1 x.2.2.2)⟩
theorem frees_cal (k : Nat) (x : DatPs (skywaykeep3_TaxiFrees.C 0).ats) : (skywaykeep3_TaxiFrees.C k).F x = skywaykeep3_TaxiFrees.F k x.1 x.2 := rfl
theorem TaxiFrees_law (x : DatPs (skywaykeep3_TaxiFrees.C 0).ats) (_ : FitPs (skywaykeep3_TaxiFrees.C 0).ats x) : ∃ k, (skywaykeep3_TaxiFrees.C k).F x = some true :=
  ⟨300 + 40, (frees_cal _ x).trans (TaxiFrees_plain (300 + 40) (by omega) (tfact 300) x.1 x.2)⟩

end Go.Proofs.Ytjppjbgpeiaobaa.RT
