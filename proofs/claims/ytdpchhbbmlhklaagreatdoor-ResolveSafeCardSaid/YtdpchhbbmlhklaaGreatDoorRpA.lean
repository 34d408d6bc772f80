/- What is proved here: the candidates that resolve.Candidates returns. It asks nothing. -/
import Derived.Test.YtdpchhbbmlhklaaGreatDoorRsT
import Derived.Test.YtdpchhbbmlhklaaGreatDoorAtC
import Derived.Test.YtdpchhbbmlhklaaGreatDoorDistA
import Derived.Test.YtdpchhbbmlhklaaGreatDoorRsB
namespace Go.Proofs.YtdpchhbbmlhklaaGreatDoor.RT
open Go Go.R

attribute [local irreducible] tube_Check.F tube_at.F plane_Check.F tube_Point.F chart_Name.F phrase_plain.F aircraft_Check.F plane_Distance.F angle_Of.F angle_Norm.F effect_Of.F

/-! ### Heading and speed -/

theorem mo_loop (k : Nat) {l : List Nd} (h : TubeOk l) (t : Int) : ∀ n i : Nat, i ≤ l.length → l.length - i < n → ∃ r, resolve_motion.l0 k l t n i = some r ∧ (r < 0 ∨ (0 ≤ r ∧ r < l.length ∧ t < tm l r.toNat)) := by
  intro n
  have hl := h.len
  induction n with
  | zero => intro i _ h; omega
  | succ n ih =>
    intro i hi hn
    rw [resolve_motion.l0_succ]
    unfold resolve_motion.l0b
    by_cases hlt : i < l.length
    · rw [decide_eq_true (p := (i : Int) < ((l.length : Nat) : Int)) (by omega), decide_eq_true (p := 0 ≤ (i : Int)) (by omega)]
      simp only [Bool.and_self, cond_true]
      have hg : (l.getD ((i : Int)).toNat ((0, ((0, 0), 0)), (0, 0))).1.1 = tm l i := by rw [Int.toNat_natCast]; rfl
      rw [hg]
      by_cases c : tm l i > t
      · rw [decide_eq_true c]
        exact ⟨i, rfl, .inr ⟨by omega, by omega, by rw [Int.toNat_natCast]; exact c⟩⟩
      · rw [decide_eq_false c, show w64 ((i : Int) + 1) = ((i + 1 : Nat) : Int) from w64_id (by omega) (by omega)]
        exact ih (i + 1) hlt (by omega)
    · rw [decide_eq_false (p := (i : Int) < ((l.length : Nat) : Int)) (by omega)]
      exact ⟨-1, rfl, .inl (by omega)⟩

theorem motion_eq (k : Nat) (hk : 5000 ≤ k) {l : List Nd} (h : TubeOk l) {t : Int} (h0 : tm l 0 ≤ t) (h1 : t ≤ tl l) : ∃ hd sp mv, resolve_motion.F k l t = some (hd, sp, mv) ∧ 0 ≤ hd ∧ hd < 4096 ∧ 0 ≤ sp ∧ sp ≤ 4000000 := by
  unfold resolve_motion.F
  obtain ⟨r, hr, hq⟩ := mo_loop k h t k 0 (Nat.zero_le _) (by have := h.len; omega)
  rw [show ((0 : Nat) : Int) = 0 from rfl] at hr
  rw [hr]
  simp only [Option.bind_some]
  by_cases c : r < 0
  · rw [decide_eq_true c]
    exact ⟨0, 0, false, rfl, by omega, by omega, by omega, by omega⟩
  rw [decide_eq_false c]
  obtain ⟨r0, r1, r2⟩ : 0 ≤ r ∧ r < l.length ∧ t < tm l r.toNat := hq.resolve_left c
  have hin : (decide (0 ≤ r) && decide (r < ((l.length : Nat) : Int))) = true := by rw [decide_eq_true r0, decide_eq_true (by omega)]; rfl
  rw [point_eq k (by omega) h t, hin]
  simp only [Option.bind_some, cond_true, cond_false]
  have hg : l.getD r.toNat ((0, ((0, 0), 0)), (0, 0)) = nd l r.toNat := rfl
  rw [hg]
  obtain ⟨v, hv⟩ : ∃ v, plane_Sub.F k (nd l r.toNat).1.2.1 (pt k l t).1.2.1 = some v := ⟨_, rfl⟩
  rw [hv]
  simp only [Option.bind_some]
  obtain ⟨hd, e, hof, q0, q1⟩ := of_eq k hk v
  rw [hof]
  simp only [Option.bind_some]
  by_cases z : e = 0
  · subst z
    rw [cond_neg (c := (0 : Int) != 0) (by rfl)]
    have hsl : hs l t = true := by unfold hs; rw [decide_eq_true h0, decide_eq_true h1]; rfl
    obtain ⟨q, hq2, e2⟩ := (at_cases k (by omega) h t).2.2 hsl
    have n1 : NdOk (pt k l t) := by rw [e2]; exact seg_ok h hq2 h1
    have n2 : NdOk (nd l r.toNat) := h.at (by omega)
    obtain ⟨lo, hi, hd', d0, d1, d2, _⟩ := dist_eq k n1.pt n2.pt
    rw [hd']
    simp only [Option.bind_some]
    rw [tm_eq]
    have ht := n2.time
    rw [tm_eq] at ht
    have htt := n1.time
    have e3 : (pt k l t).1.1 = t := by rw [e2]; exact ndAt_time
    rw [e3] at htt
    rw [w64_id (n := tm l r.toNat - t) (by omega) (by omega), cond_pos (c := (tm l r.toNat - t) != 0) (by simp; omega)]
    have b0 : 0 ≤ Int.tdiv lo (tm l r.toNat - t) := Int.tdiv_nonneg d0 (by omega)
    have b1 : Int.tdiv lo (tm l r.toNat - t) ≤ lo := by
      rw [Int.tdiv_eq_ediv_of_nonneg d0]
      exact Int.ediv_le_self _ d0
    refine ⟨hd, _, true, rfl, q0, q1, ?_, ?_⟩
    · rw [w64_id (by omega) (by omega)]; exact b0
    · rw [w64_id (by omega) (by omega)]; omega
  · rw [cond_pos (c := e != 0) (by simpa using z)]
    exact ⟨0, 0, false, rfl, by omega, by omega, by omega, by omega⟩

attribute [local irreducible] resolve_motion.F

/-! ### The candidates -/

/-- A kind's value for a step. -/
def cval (ht hd sp : Int) (kd by_ : Int) : Int := if kd = 0 then ht + by_ * 1000 else if kd = 2 then sp + by_ * 15 else (hd + by_ * 171) % 4096
def cok (a : Kd) (ht _hd sp : Int) (mv : Bool) (kd by_ : Int) : Bool :=
  if kd = 0 then decide (0 ≤ ht + by_ * 1000) && decide (ht + by_ * 1000 ≤ a.2.2.1)
  else if kd = 2 then mv && (decide (a.2.2.2.2.2.1 ≤ sp + by_ * 15) && decide (sp + by_ * 15 ≤ a.2.2.2.2.2.2)) else mv
/-- What a step adds. -/
def cand (call : ByteArray) (a : Kd) (ht hd sp : Int) (mv : Bool) (s : Int × Int) : Option Cl :=
  if cok a ht hd sp mv s.1 s.2 = true then some (call, (s.1, (cval ht hd sp s.1 s.2, ByteArray.empty))) else none
def two (kd r : Int) : List (Int × Int) := [(kd, r), (kd, -r)]
def ring (r : Int) : List (Int × Int) := two 0 r ++ two 2 r ++ two 1 r
def slots : List (Int × Int) := ring 1 ++ ring 2 ++ ring 3
def cands (call : ByteArray) (a : Kd) (ht hd sp : Int) (mv : Bool) (l : List (Int × Int)) : List Cl := l.filterMap (cand call a ht hd sp mv)

theorem cands_len (call : ByteArray) (a : Kd) (ht hd sp : Int) (mv : Bool) (l : List (Int × Int)) : (cands call a ht hd sp mv l).length ≤ l.length := List.length_filterMap_le _ _

theorem fm_two {β : Type} (f : (Int × Int) → Option β) (x y : Int × Int) : [x, y].filterMap f = (f x).toList ++ (f y).toList := by
  simp only [List.filterMap_cons, List.filterMap_nil]
  cases f x <;> cases f y <;> rfl

theorem w64s {a b c : Int} (ha : a.natAbs ≤ 10000000) (hb : b.natAbs ≤ 3) (hc : c.natAbs ≤ 1000) : w64 (a + w64 (b * c)) = a + b * c := by
  have := mul_nb (a := b) (b := c) (A := 3) (B := 1000) (by omega) (by omega) (by omega) (by omega)
  generalize b * c = p at this ⊢
  rw [w64_id (n := p) (by omega) (by omega), w64_id (by omega) (by omega)]

theorem toList_if {α : Type} (c : Bool) (x : α) : (if c = true then some x else none : Option α).toList = bif c then [x] else [] := by cases c <;> rfl

section
variable {k : Nat} {call : ByteArray} {a : Kd} {now : Nd} {hd sp : Int} {mv : Bool} {r : Int} {o0 : List Cl}

theorem c_l0 (hn : NdOk now) (hr : 1 ≤ r) (hr' : r ≤ 3) (m : Nat) (out : List Cl) (ho : out.length ≤ 100) :
    resolve_Candidates.l0 k call a now (r, o0) (m + 3) (0, out) = some (.inl (out ++ cands call a now.1.2.2 hd sp mv (two 0 r))) := by
  have hh := hn.height
  have step : ∀ (n i : Nat) (by_ : Int) (out : List Cl), out.length ≤ 101 → i < 2 → [r, w64 (0 - r)].getD i 0 = by_ → by_.natAbs ≤ 3 →
      resolve_Candidates.l0 k call a now (r, o0) (n + 1) ((i : Int), out) = resolve_Candidates.l0 k call a now (r, o0) n (((i + 1 : Nat) : Int), out ++ (cand call a now.1.2.2 hd sp mv (0, by_)).toList) := fun n i by_ out ho hi hby hb => by
    rw [resolve_Candidates.l0_succ]
    unfold resolve_Candidates.l0b
    dsimp only
    rw [decide_eq_true (p := (i : Int) < 2) (by omega), decide_eq_true (p := 0 ≤ (i : Int)) (by omega), decide_eq_true (p := (i : Int) < ((2 : Nat) : Int)) (by omega)]
    rw [Int.toNat_natCast, hby, w64s (by omega) hb (by omega), w64_id (n := (i : Int) + 1) (by omega) (by omega)]
    simp only [Bool.and_self, cond_true, cond_some, Option.bind_some]
    unfold cand
    dsimp only
    rw [toList_if]
    have hc : cok a now.1.2.2 hd sp mv 0 by_ = (bif decide (now.1.2.2 + by_ * 1000 ≥ 0) then decide (now.1.2.2 + by_ * 1000 ≤ a.2.2.1) else false) := by
      unfold cok
      rw [if_pos rfl]
      rw [show decide (now.1.2.2 + by_ * 1000 ≥ 0) = decide (0 ≤ now.1.2.2 + by_ * 1000) from rfl]
      cases decide (0 ≤ now.1.2.2 + by_ * 1000) <;> rfl
    rw [hc]
    rw [show ((i + 1 : Nat) : Int) = (i : Int) + 1 by omega]
    cases (bif decide (now.1.2.2 + by_ * 1000 ≥ 0) then decide (now.1.2.2 + by_ * 1000 ≤ a.2.2.1) else false) with
    | false => simp only [cond_false, List.append_nil]
    | true =>
      simp only [cond_true]
      rw [cond_pos (c := Nat.ble ((out.length + 1) * 48) 140737488355328) (Nat.ble_eq_true_of_le (by omega))]
      rfl
  have s0 := step (m + 2) 0 r out (by omega) (by omega) rfl (by omega)
  rw [show ((0 : Nat) : Int) = 0 from rfl] at s0
  have hl1 : ∀ c : Int × Int, (cand call a now.1.2.2 hd sp mv c).toList.length ≤ 1 := fun c => by cases cand call a now.1.2.2 hd sp mv c <;> simp
  have s1 := step (m + 1) 1 (-r) (out ++ (cand call a now.1.2.2 hd sp mv (0, r)).toList) (by rw [List.length_append]; have := hl1 (0, r); omega) (by omega) (by show w64 (0 - r) = -r; rw [w64_id (by omega) (by omega)]; omega) (by omega)
  rw [s0, s1, resolve_Candidates.l0_succ]
  unfold resolve_Candidates.l0b cands two
  rw [fm_two, List.append_assoc]
  rfl

theorem c_l1 (hs : 0 ≤ sp) (hs' : sp ≤ 4000000) (hr : 1 ≤ r) (hr' : r ≤ 3) {ht : Int} (m : Nat) (out : List Cl) (ho : out.length ≤ 100) :
    resolve_Candidates.l1 k call a (hd, sp, mv) (r, o0) (m + 3) (0, out) = some (.inl (out ++ cands call a ht hd sp mv (two 2 r))) := by
  have step : ∀ (n i : Nat) (by_ : Int) (out : List Cl), out.length ≤ 101 → i < 2 → [r, w64 (0 - r)].getD i 0 = by_ → by_.natAbs ≤ 3 →
      resolve_Candidates.l1 k call a (hd, sp, mv) (r, o0) (n + 1) ((i : Int), out) = resolve_Candidates.l1 k call a (hd, sp, mv) (r, o0) n (((i + 1 : Nat) : Int), out ++ (cand call a ht hd sp mv (2, by_)).toList) := fun n i by_ out ho hi hby hb => by
    rw [resolve_Candidates.l1_succ]
    unfold resolve_Candidates.l1b
    dsimp only
    rw [decide_eq_true (p := (i : Int) < 2) (by omega), decide_eq_true (p := 0 ≤ (i : Int)) (by omega), decide_eq_true (p := (i : Int) < ((2 : Nat) : Int)) (by omega)]
    rw [Int.toNat_natCast, hby, w64s (by omega) hb (by omega), w64_id (n := (i : Int) + 1) (by omega) (by omega)]
    simp only [Bool.and_self, cond_true, cond_some, Option.bind_some]
    unfold cand
    dsimp only
    rw [toList_if]
    have hc : cok a ht hd sp mv 2 by_ = (bif (bif mv then decide (sp + by_ * 15 ≥ a.2.2.2.2.2.1) else false) then decide (sp + by_ * 15 ≤ a.2.2.2.2.2.2) else false) := by
      unfold cok
      rw [if_neg (by decide), if_pos rfl]
      rw [show decide (sp + by_ * 15 ≥ a.2.2.2.2.2.1) = decide (a.2.2.2.2.2.1 ≤ sp + by_ * 15) from rfl]
      cases mv <;> cases decide (a.2.2.2.2.2.1 ≤ sp + by_ * 15) <;> rfl
    rw [hc]
    rw [show ((i + 1 : Nat) : Int) = (i : Int) + 1 by omega]
    cases (bif (bif mv then decide (sp + by_ * 15 ≥ a.2.2.2.2.2.1) else false) then decide (sp + by_ * 15 ≤ a.2.2.2.2.2.2) else false) with
    | false => simp only [cond_false, List.append_nil]
    | true =>
      simp only [cond_true]
      rw [cond_pos (c := Nat.ble ((out.length + 1) * 48) 140737488355328) (Nat.ble_eq_true_of_le (by omega))]
      rfl
  have s0 := step (m + 2) 0 r out (by omega) (by omega) rfl (by omega)
  rw [show ((0 : Nat) : Int) = 0 from rfl] at s0
  have hl1 : ∀ c : Int × Int, (cand call a ht hd sp mv c).toList.length ≤ 1 := fun c => by cases cand call a ht hd sp mv c <;> simp
  have s1 := step (m + 1) 1 (-r) (out ++ (cand call a ht hd sp mv (2, r)).toList) (by rw [List.length_append]; have := hl1 (2, r); omega) (by omega) (by show w64 (0 - r) = -r; rw [w64_id (by omega) (by omega)]; omega) (by omega)
  rw [s0, s1, resolve_Candidates.l1_succ]
  unfold resolve_Candidates.l1b cands two
  rw [fm_two, List.append_assoc]
  rfl

theorem c_l2 (h0 : 0 ≤ hd) (h1 : hd < 4096) (hr : 1 ≤ r) (hr' : r ≤ 3) {ht : Int} (m : Nat) (out : List Cl) (ho : out.length ≤ 100) (self : (Int × List Cl) → Option (List Cl × Int)) :
    resolve_Candidates.l2 k call (hd, sp, mv) (r, o0) self (m + 3) (0, out) = self (r + 1, out ++ cands call a ht hd sp mv (two 1 r)) := by
  have step : ∀ (n i : Nat) (by_ : Int) (out : List Cl), out.length ≤ 101 → i < 2 → [r, w64 (0 - r)].getD i 0 = by_ → by_.natAbs ≤ 3 →
      resolve_Candidates.l2 k call (hd, sp, mv) (r, o0) self (n + 1) ((i : Int), out) = resolve_Candidates.l2 k call (hd, sp, mv) (r, o0) self n (((i + 1 : Nat) : Int), out ++ (cand call a ht hd sp mv (1, by_)).toList) := fun n i by_ out ho hi hby hb => by
    rw [resolve_Candidates.l2_succ]
    unfold resolve_Candidates.l2b
    dsimp only
    rw [decide_eq_true (p := (i : Int) < 2) (by omega), decide_eq_true (p := 0 ≤ (i : Int)) (by omega), decide_eq_true (p := (i : Int) < ((2 : Nat) : Int)) (by omega)]
    rw [Int.toNat_natCast, hby, w64s (by omega) hb (by omega), w64_id (n := (i : Int) + 1) (by omega) (by omega), normA]
    simp only [Bool.and_self, cond_true, Option.bind_some]
    unfold cand
    dsimp only
    rw [toList_if]
    have hc : cok a ht hd sp mv 1 by_ = mv := by
      unfold cok
      rw [if_neg (by decide), if_neg (by decide)]
    rw [hc]
    rw [show ((i + 1 : Nat) : Int) = (i : Int) + 1 by omega]
    cases mv with
    | false => simp only [cond_false, List.append_nil]
    | true =>
      simp only [cond_true]
      rw [cond_pos (c := Nat.ble ((out.length + 1) * 48) 140737488355328) (Nat.ble_eq_true_of_le (by omega))]
      rfl
  have s0 := step (m + 2) 0 r out (by omega) (by omega) rfl (by omega)
  rw [show ((0 : Nat) : Int) = 0 from rfl] at s0
  have hl1 : ∀ c : Int × Int, (cand call a ht hd sp mv c).toList.length ≤ 1 := fun c => by cases cand call a ht hd sp mv c <;> simp
  have s1 := step (m + 1) 1 (-r) (out ++ (cand call a ht hd sp mv (1, r)).toList) (by rw [List.length_append]; have := hl1 (1, r); omega) (by omega) (by show w64 (0 - r) = -r; rw [w64_id (by omega) (by omega)]; omega) (by omega)
  rw [s0, s1, resolve_Candidates.l2_succ]
  unfold resolve_Candidates.l2b cands two
  rw [fm_two, List.append_assoc]
  dsimp only
  rw [decide_eq_false (p := (((1 + 1 : Nat) : Int)) < 2) (by omega), w64_id (n := r + 1) (by omega) (by omega)]
  rfl
end

theorem c_ring {k : Nat} (hk : 10 ≤ k) {call : ByteArray} {a : Kd} {now : Nd} {hd sp : Int} {mv : Bool} {r : Int} (hn : NdOk now) (hs : 0 ≤ sp) (hs' : sp ≤ 4000000) (h0 : 0 ≤ hd) (h1 : hd < 4096) (hr : 1 ≤ r) (hr' : r ≤ 3) (n : Nat) (out : List Cl) (ho : out.length ≤ 50) :
    resolve_Candidates.l3 k call a now (hd, sp, mv) (n + 1) (r, out) = resolve_Candidates.l3 k call a now (hd, sp, mv) n (r + 1, out ++ cands call a now.1.2.2 hd sp mv (ring r)) := by
  obtain ⟨m, rfl⟩ : ∃ m, k = m + 3 := ⟨k - 3, by omega⟩
  rw [resolve_Candidates.l3_succ]
  unfold resolve_Candidates.l3b
  dsimp only
  rw [decide_eq_true (p := r ≤ 3) hr']
  have l0 := cands_len call a now.1.2.2 hd sp mv (two 0 r)
  have l1 := cands_len call a now.1.2.2 hd sp mv (two 2 r)
  have e2 : ∀ kd : Int, (two kd r).length = 2 := fun _ => rfl
  rw [e2] at l0 l1
  simp only [cond_true]
  rw [c_l0 (hd := hd) (sp := sp) (mv := mv) hn hr hr' m out (by omega)]
  simp only [Option.bind_some]
  rw [c_l1 (ht := now.1.2.2) hs hs' hr hr' m _ (by rw [List.length_append]; omega)]
  simp only [Option.bind_some]
  rw [c_l2 (a := a) (ht := now.1.2.2) h0 h1 hr hr' m _ (by rw [List.length_append, List.length_append]; omega)]
  unfold ring cands
  rw [List.filterMap_append, List.filterMap_append, List.append_assoc, List.append_assoc, List.append_assoc]

/-- THE CANDIDATES. -/
theorem cand_eq (k : Nat) (hk : 5000 ≤ k) (call : ByteArray) (l : List Nd) (t : Int) (a : Kd) :
    (∃ e, e ≠ 0 ∧ resolve_Candidates.F k call l t a = some ([], e)) ∨ (TubeOk l ∧ KdOk a ∧ tm l 0 ≤ t ∧ t ≤ tl l ∧ phrase_Check.F k (call, (0, (0, ByteArray.empty))) = some 0 ∧
      ∃ ht hd sp mv, 0 ≤ ht ∧ ht ≤ 60000 ∧ 0 ≤ hd ∧ hd < 4096 ∧ 0 ≤ sp ∧ sp ≤ 4000000 ∧ resolve_Candidates.F k call l t a = some (cands call a ht hd sp mv slots, 0)) := by
  unfold resolve_Candidates.F
  by_cases h : TubeOk l
  · rw [tcheck_pos (by omega) h]
    simp only [Option.bind_some]
    rw [cond_neg (c := (0 : Int) != 0) (by rfl)]
    obtain ⟨e3, h3, hK⟩ := acheck_eq k (by omega) a
    rw [h3]
    simp only [Option.bind_some]
    by_cases z3 : e3 = 0
    · subst z3
      rw [cond_neg (c := (0 : Int) != 0) (by rfl), last_ix h.pos h.len]
      have hpos := h.pos
      rw [cond_pos (c := decide ((0 : Nat) ≤ 0) && decide ((0 : Int) < ((l.length : Nat) : Int))) (by simp; omega)]
      rw [cond_pos (c := decide (0 ≤ ((l.length - 1 : Nat) : Int)) && decide (((l.length - 1 : Nat) : Int) < ((l.length : Nat) : Int))) (by simp; omega)]
      rw [cond_some]
      simp only [Option.bind_some]
      change (∃ e, e ≠ 0 ∧ (bif (bif decide (t < tm l 0) then true else decide (t > tl l)) then some ([], 12) else _) = some ([], e)) ∨ _ ∧ _ ∧ _ ∧ _ ∧ _ ∧ ∃ ht hd sp mv, _ ∧ _ ∧ _ ∧ _ ∧ _ ∧ _ ∧ (bif (bif decide (t < tm l 0) then true else decide (t > tl l)) then some ([], 12) else _) = _
      by_cases g1 : t < tm l 0
      · rw [decide_eq_true g1]; exact .inl ⟨12, by decide, rfl⟩
      rw [decide_eq_false g1]
      by_cases g2 : t > tl l
      · rw [decide_eq_true g2]; exact .inl ⟨12, by decide, rfl⟩
      rw [decide_eq_false g2]
      simp only [cond_false]
      obtain ⟨e2, h2⟩ := pcheck_total k (by omega) (call, (0, (0, ByteArray.empty)))
      rw [h2]
      simp only [Option.bind_some]
      by_cases z2 : e2 = 0
      · subst z2
        rw [cond_neg (c := (0 : Int) != 0) (by rfl), point_eq k (by omega) h t]
        obtain ⟨hd, sp, mv, hm, q0, q1, q2, q3⟩ := motion_eq k hk h (t := t) (by omega) (by omega)
        rw [hm]
        simp only [Option.bind_some]
        have hsl : hs l t = true := by unfold hs; rw [decide_eq_true (by omega), decide_eq_true (p := t ≤ tl l) (by omega)]; rfl
        obtain ⟨q, hq2, e2⟩ := (at_cases k (by omega) h t).2.2 hsl
        have n1 : NdOk (pt k l t) := by rw [e2]; exact seg_ok h hq2 (by omega)
        have hl : ∀ r, (cands call a (pt k l t).1.2.2 hd sp mv (ring r)).length ≤ 6 := fun r => cands_len call a (pt k l t).1.2.2 hd sp mv (ring r)
        refine .inr ⟨h, hK rfl, by omega, by omega, trivial, (pt k l t).1.2.2, hd, sp, mv, n1.height.1, n1.height.2, q0, q1, q2, q3, ?_⟩
        have hl1 := hl 1
        have hl2 := hl 2
        have l3 : ∀ n out, resolve_Candidates.l3 k call a (pt k l t) (hd, sp, mv) (n + 1) (4, out) = some (out, 0) := fun n out => by
          rw [resolve_Candidates.l3_succ]; rfl
        have main : ∀ n : Nat, resolve_Candidates.l3 k call a (pt k l t) (hd, sp, mv) (n + 4) (1, []) = some (cands call a (pt k l t).1.2.2 hd sp mv slots, 0) := fun n => by
          rw [c_ring (by omega) n1 q2 q3 q0 q1 (by omega) (by omega) (n + 3) [] (by simp), show (1 : Int) + 1 = 2 by rfl]
          rw [c_ring (by omega) n1 q2 q3 q0 q1 (by omega) (by omega) (n + 2) _ (by simp only [List.nil_append]; omega), show (2 : Int) + 1 = 3 by rfl]
          rw [c_ring (by omega) n1 q2 q3 q0 q1 (by omega) (by omega) (n + 1) _ (by simp only [List.nil_append, List.length_append]; omega), show (3 : Int) + 1 = 4 by rfl]
          rw [l3]
          unfold slots cands
          rw [List.filterMap_append, List.filterMap_append]
          rfl
        have := main (k - 4)
        rw [show k - 4 + 4 = k by omega] at this
        exact this
      · rw [cond_pos (c := e2 != 0) (by simpa using z2)]
        exact .inl ⟨e2, z2, rfl⟩
    · rw [cond_pos (c := e3 != 0) (by simpa using z3)]
      exact .inl ⟨e3, z3, rfl⟩
  · obtain ⟨e, he, hq⟩ := tcheck_neg (k := k) (by omega) h
    rw [hq]
    simp only [Option.bind_some]
    rw [cond_pos (c := e != 0) (by simpa using he)]
    exact .inl ⟨e, he, rfl⟩

attribute [local irreducible] resolve_Candidates.F

/-- Two steps that differ give two clearances. -/
theorem cands_nodup (call : ByteArray) (a : Kd) (ht hd sp : Int) (mv : Bool) : (cands call a ht hd sp mv slots).Pairwise (· ≠ ·) := by
  unfold cands
  rw [List.pairwise_filterMap]
  have hs : slots.Pairwise fun x y => x ≠ y ∧ (-3 ≤ x.2 ∧ x.2 ≤ 3 ∧ -3 ≤ y.2 ∧ y.2 ≤ 3) ∧ (x.1 = 0 ∨ x.1 = 1 ∨ x.1 = 2) ∧ (y.1 = 0 ∨ y.1 = 1 ∨ y.1 = 2) := by decide
  refine hs.imp ?_
  rintro ⟨k1, b1⟩ ⟨k2, b2⟩ ⟨hne, hb, hk1, hk2⟩ c hc c' hc' e
  dsimp only at hb hk1 hk2
  subst e
  unfold cand at hc hc'
  dsimp only at hc hc'
  split at hc
  · split at hc'
    · rw [Option.some.injEq] at hc hc'
      rw [← hc] at hc'
      injection hc' with _ h2
      injection h2 with h2 h3
      injection h3 with h3 _
      subst h2
      have : b2 = b1 := by
        unfold cval at h3
        rcases hk1 with rfl | rfl | rfl
        · rw [if_pos rfl, if_pos rfl] at h3; omega
        · rw [if_neg (by decide), if_neg (by decide), if_neg (by decide), if_neg (by decide)] at h3; omega
        · rw [if_neg (by decide), if_pos rfl, if_neg (by decide), if_pos rfl] at h3; omega
      exact hne (by rw [this])
    · cases hc'
  · cases hc

/-- A candidate can be said. -/
theorem cands_mem {k : Nat} {call : ByteArray} {a : Kd} (ha : KdOk a) {ht hd sp : Int} {mv : Bool} (hph : phrase_Check.F k (call, (0, (0, ByteArray.empty))) = some 0) {c : Cl} (hc : c ∈ cands call a ht hd sp mv slots) : c.1 = call ∧ phrase_Check.F k c = some 0 := by
  unfold cands at hc
  rw [List.mem_filterMap] at hc
  obtain ⟨⟨kd, b⟩, hm, hc⟩ := hc
  have hkd : kd = 0 ∨ kd = 1 ∨ kd = 2 := by
    have : ∀ s ∈ slots, s.1 = 0 ∨ s.1 = 1 ∨ s.1 = 2 := by decide
    exact this _ hm
  unfold cand at hc
  dsimp only at hc
  split at hc
  · rename_i hok
    rw [Option.some.injEq] at hc
    subst hc
    refine ⟨rfl, ?_⟩
    -- the name of the call is one
    have hpl : phrase_plain.F k call = some true := by
      unfold phrase_Check.F at hph
      dsimp only at hph
      cases h : phrase_plain.F k call with
      | none => rw [h] at hph; cases hph
      | some b =>
        cases b with
        | true => rfl
        | false => rw [h] at hph; simp at hph
    have c1 := ha.ceil
    have c2 := ha.slow
    have c3 := ha.fast
    unfold phrase_Check.F
    dsimp only
    rw [hpl]
    have e0 : (ByteArray.empty.toList == (⟨#[]⟩ : ByteArray).toList) = true := by rw [ba_dec]; rfl
    rw [e0]
    simp only [Option.bind_some, Bool.not_true, cond_false]
    unfold cok at hok
    unfold cval
    rcases hkd with rfl | rfl | rfl
    · rw [if_pos rfl] at hok ⊢
      simp only [Bool.and_eq_true, decide_eq_true_eq] at hok
      generalize ht + b * 1000 = v at hok ⊢
      rw [decide_eq_false (p := v < 0) (by omega), decide_eq_false (p := v > 60000) (by omega)]
      rfl
    · rw [if_neg (by decide), if_neg (by decide)]
      obtain ⟨v, hv, v0, v1⟩ : ∃ v, (hd + b * 171) % 4096 = v ∧ 0 ≤ v ∧ v < 4096 := ⟨_, rfl, by omega, by omega⟩
      rw [hv, decide_eq_false (p := v < 0) (by omega), decide_eq_false (p := v > 4095) (by omega)]
      rfl
    · rw [if_neg (by decide), if_pos rfl] at hok ⊢
      simp only [Bool.and_eq_true, decide_eq_true_eq] at hok
      generalize sp + b * 15 = v at hok ⊢
      rw [decide_eq_false (p := v < 0) (by omega), decide_eq_false (p := v > 400) (by omega)]
      rfl
  · cases hc
end Go.Proofs.YtdpchhbbmlhklaaGreatDoor.RT
