/- What is proved here: the handover's protocol over a channel that loses and doubles; the plain law HandoverOne. It asks nothing. -/
import Derived.Test.YtdchminahimfhaaHoT
import Derived.Test.YtdchminahimfhaaPlA
namespace Go.Proofs.Ytdchminahimfhaa.RT
open Go Go.R

theorem hcheck_eq (k : Nat) (s : Int × Int) : handover_Check.F k s = some (if s.1 < 0 ∨ 2 < s.1 then 1 else if s.2 < 0 ∨ 2000 < s.2 then 4 else 0) := by
  unfold handover_Check.F
  simp only [cond_some, Option.bind_some, Bool.cond_true_left]
  simp only [cond_if, Bool.or_eq_true, decide_eq_true_eq, gt_iff_lt]

/-- What a side does with a message that it hears. -/
def hrs (s : Int × Int) (m : Bool × Int) : (Int × Int) × (Bool × Int) × Bool × Int :=
  if m.2 < 1 ∨ 2000 < m.2 then ((0, 0), (false, 0), false, 4)
  else if m.1 = true then (if s.1 = 2 ∧ m.2 = s.2 + 1 then (0, m.2) else s, (false, 0), false, 0)
  else if s.1 = 2 ∧ m.2 = s.2 + 2 then ((1, m.2), (true, m.2), true, 0)
  else if s.1 = 0 ∧ m.2 = s.2 + 1 then ((1, m.2), (true, m.2), true, 0)
  else if m.2 ≤ s.2 then (s, (true, m.2), true, 0) else (s, (false, 0), false, 0)

theorem hrs_eq (k : Nat) (s : Int × Int) (m : Bool × Int) (h1 : 0 ≤ s.1) (h2 : s.1 ≤ 2) (h3 : 0 ≤ s.2) (h4 : s.2 ≤ 2000) : handover_Hear.F k s m = some (hrs s m) := by
  obtain ⟨a, n⟩ := s
  obtain ⟨b, i⟩ := m
  simp only at h1 h2 h3 h4
  unfold handover_Hear.F handover_hearAck.F
  rw [hcheck_eq]
  rw [w64_id (n := n + 2) (by omega) (by omega), w64_id (n := n + 1) (by omega) (by omega), w64_id (n := n + 1 + 1) (by omega) (by omega)]
  simp only [cond_some, Option.bind_some, Bool.cond_true_left, Bool.cond_false_right]
  rw [if_neg (by omega), if_neg (by omega)]
  unfold hrs
  simp only [cond_if, Bool.or_eq_true, Bool.and_eq_true, decide_eq_true_eq, gt_iff_lt, bne_iff_ne, beq_iff_eq]
  (repeat' split) <;> first | rfl | (exfalso; omega)

abbrev Msgs := List (Bool × Int)

/-- x is responsible, for the N-th time; the messages to x and to y. -/
structure I1 (N : Int) (x y : Int × Int) (tx ty : Msgs) : Prop where
  n0 : 0 ≤ N
  xs : x = (1, N) ∨ x = (2, N)
  ys : y = (0, N) ∨ (y = (2, N - 1) ∧ 1 ≤ N)
  mx_ : ∀ m ∈ tx, 1 ≤ m.2 ∧ m.2 ≤ N
  my : ∀ m ∈ ty, 1 ≤ m.2 ∧ m.2 ≤ N + 1 ∧ (m.2 = N + 1 → m.1 = false ∧ x.1 = 2)

/-- One of the two sides is responsible, for at most the n-th time. -/
structure J (n : Int) (s o : Int × Int) (ls lo : Msgs) : Prop where
  l1 : ls.length ≤ 40
  l2 : lo.length ≤ 40
  one : ∃ N, N ≤ n ∧ (I1 N s o ls lo ∨ I1 N o s lo ls)

theorem J.swap {n : Int} {s o : Int × Int} {ls lo : Msgs} (h : J n s o ls lo) : J n o s lo ls :=
  ⟨h.l2, h.l1, let ⟨N, h1, h2⟩ := h.one; ⟨N, h1, h2.symm⟩⟩

theorem J.bounds {n : Int} {s o : Int × Int} {ls lo : Msgs} (h : J n s o ls lo) : 0 ≤ s.1 ∧ s.1 ≤ 2 ∧ 0 ≤ s.2 ∧ s.2 ≤ n := by
  obtain ⟨N, h1, h2 | h2⟩ := h.one
  · have := h2.n0
    rcases h2.xs with rfl | rfl <;> simp only <;> omega
  · have := h2.n0
    rcases h2.ys with rfl | ⟨rfl, _⟩ <;> simp only <;> omega

theorem J.more {n : Int} {s o : Int × Int} {ls lo : Msgs} (h : J n s o ls lo) : J (n + 1) s o ls lo :=
  ⟨h.l1, h.l2, let ⟨N, h1, h2⟩ := h.one; ⟨N, by omega, h2⟩⟩

theorem I1.sub {N : Int} {x y : Int × Int} {tx ty tx' ty' : Msgs} (h : I1 N x y tx ty) (hx : ∀ m ∈ tx', m ∈ tx) (hy : ∀ m ∈ ty', m ∈ ty) : I1 N x y tx' ty' :=
  ⟨h.n0, h.xs, h.ys, fun m hm => h.mx_ m (hx m hm), fun m hm => h.my m (hy m hm)⟩

theorem J.sub {n : Int} {s o : Int × Int} {ls lo ls' : Msgs} (h : J n s o ls lo) (hl : ls'.length ≤ ls.length) (hs : ∀ m ∈ ls', m ∈ ls) : J n s o ls' lo :=
  ⟨Nat.le_trans hl h.l1, h.l2, let ⟨N, h1, h2⟩ := h.one; ⟨N, h1, h2.imp (fun g => g.sub hs fun _ h => h) (fun g => g.sub (fun _ h => h) hs)⟩⟩

theorem mem_snoc {l : Msgs} {a m : Bool × Int} (h : m ∈ l ++ [a]) : m ∈ l ∨ m = a := by
  rcases List.mem_append.1 h with h | h
  · exact .inl h
  · exact .inr (List.mem_singleton.1 h)

theorem give_ok (k : Nat) {n : Int} (hn : n ≤ 1000) {s o : Int × Int} {ls lo : Msgs} (h : J n s o ls lo) :
    (s.1 ≠ 1 ∧ handover_Give.F k s = some ((0, 0), (false, 0), 11)) ∨ (s.1 = 1 ∧ handover_Give.F k s = some ((2, s.2), (false, s.2 + 1), 0) ∧ J (n + 1) (2, s.2) o ls lo ∧ (lo.length < 40 → J (n + 1) (2, s.2) o ls (lo ++ [(false, s.2 + 1)]))) := by
  obtain ⟨b1, b2, b3, b4⟩ := h.bounds
  unfold handover_Give.F
  rw [hcheck_eq, if_neg (by omega), if_neg (by omega)]
  simp only [Option.bind_some]
  rw [cond_neg (c := (0 : Int) != 0) (by rfl)]
  by_cases hs : s.1 = 1
  · refine .inr ⟨hs, ?_, ?_⟩
    · rw [cond_neg (by simpa using hs), cond_neg (by simp; omega), w64_id (n := s.2 + 1) (by omega) (by omega)]
    · obtain ⟨N, h1, h2⟩ := h.one
      have hx : I1 N s o ls lo := h2.resolve_right fun g => by
        rcases g.ys with rfl | ⟨rfl, _⟩ <;> simp at hs
      have e : s.2 = N := by rcases hx.xs with rfl | rfl <;> rfl
      have new : I1 N (2, s.2) o ls lo := ⟨hx.n0, .inr (by rw [e]), hx.ys, hx.mx_, fun m hm => ⟨(hx.my m hm).1, (hx.my m hm).2.1, fun hq => ⟨((hx.my m hm).2.2 hq).1, rfl⟩⟩⟩
      refine ⟨⟨h.l1, h.l2, N, by omega, .inl new⟩, fun hl => ⟨h.l1, by simp only [List.length_append, List.length_cons, List.length_nil]; omega, N, by omega, .inl ⟨new.n0, new.xs, new.ys, new.mx_, fun m hm => ?_⟩⟩⟩
      rcases mem_snoc hm with hm | rfl
      · exact new.my m hm
      · exact ⟨by simp only; omega, by simp only; omega, fun _ => ⟨rfl, rfl⟩⟩
  · exact .inl ⟨hs, by rw [cond_pos (by simpa using hs)]⟩

theorem again_ok (k : Nat) {n : Int} (hn : n ≤ 1000) {s o : Int × Int} {ls lo : Msgs} (h : J n s o ls lo) :
    (s.1 ≠ 2 ∧ handover_Again.F k s = some ((false, 0), 11)) ∨ (s.1 = 2 ∧ handover_Again.F k s = some ((false, s.2 + 1), 0) ∧ (lo.length < 40 → J (n + 1) s o ls (lo ++ [(false, s.2 + 1)]))) := by
  obtain ⟨b1, b2, b3, b4⟩ := h.bounds
  unfold handover_Again.F
  rw [hcheck_eq, if_neg (by omega), if_neg (by omega)]
  simp only [Option.bind_some]
  rw [cond_neg (c := (0 : Int) != 0) (by rfl)]
  by_cases hs : s.1 = 2
  · refine .inr ⟨hs, ?_, fun hl => ⟨h.l1, by simp only [List.length_append, List.length_cons, List.length_nil]; omega, ?_⟩⟩
    · rw [cond_neg (by simpa using hs), w64_id (n := s.2 + 1) (by omega) (by omega)]
    · obtain ⟨N, h1, h2 | h2⟩ := h.one
      · have e : s.2 = N := by rcases h2.xs with rfl | rfl <;> rfl
        refine ⟨N, by omega, .inl ⟨h2.n0, h2.xs, h2.ys, h2.mx_, fun m hm => ?_⟩⟩
        rcases mem_snoc hm with hm | rfl
        · exact h2.my m hm
        · exact ⟨by simp only; omega, by simp only; omega, fun _ => ⟨rfl, hs⟩⟩
      · have e : s.2 = N - 1 ∧ 1 ≤ N := by
          rcases h2.ys with rfl | ⟨rfl, g⟩
          · simp at hs
          · exact ⟨rfl, g⟩
        refine ⟨N, by omega, .inr ⟨h2.n0, h2.xs, h2.ys, fun m hm => ?_, h2.my⟩⟩
        rcases mem_snoc hm with hm | rfl
        · exact h2.mx_ m hm
        · exact ⟨by simp only; omega, by simp only; omega⟩
  · exact .inl ⟨hs, by rw [cond_pos (by simpa using hs)]⟩

/-- A message that is heard keeps the order. -/
theorem hear_ok (k : Nat) {n : Int} (hn : n ≤ 1000) {s o : Int × Int} {ls lo : Msgs} (h : J n s o ls lo) {m : Bool × Int} (hm : m ∈ ls) :
    ∃ r, handover_Hear.F k s m = some r ∧ r.2.2.2 = 0 ∧ J (n + 1) r.1 o ls lo ∧ (r.2.2.1 = true → lo.length < 40 → J (n + 1) r.1 o ls (lo ++ [r.2.1])) := by
  obtain ⟨b1, b2, b3, b4⟩ := h.bounds
  refine ⟨_, hrs_eq k s m b1 b2 b3 (by omega), ?_⟩
  obtain ⟨N, h1, h2 | h2⟩ := h.one
  · -- s is responsible
    obtain ⟨m1, m2⟩ := h2.mx_ m hm
    have h0 := h2.n0
    have e : s.2 = N := by rcases h2.xs with rfl | rfl <;> rfl
    have e' : s.1 = 1 ∨ s.1 = 2 := by
      rcases h2.xs with rfl | rfl
      · exact .inl rfl
      · exact .inr rfl
    have keep : J (n + 1) s o ls lo := h.more
    unfold hrs
    rw [if_neg (by omega)]
    by_cases c : m.1 = true
    · rw [if_pos c, if_neg (by omega)]
      exact ⟨rfl, keep, fun hq => by cases hq⟩
    · rw [if_neg c, if_neg (by omega), if_neg (by omega), if_pos (by omega)]
      refine ⟨rfl, keep, fun _ hl => ⟨h.l1, by simp only [List.length_append, List.length_cons, List.length_nil]; omega, N, by omega, .inl ⟨h2.n0, h2.xs, h2.ys, h2.mx_, fun q hq => ?_⟩⟩⟩
      rcases mem_snoc hq with hq | rfl
      · exact h2.my q hq
      · exact ⟨m1, by simp only; omega, fun hq => by simp only at hq; omega⟩
  · -- o is responsible
    obtain ⟨m1, m2, m3⟩ := h2.my m hm
    have h0 := h2.n0
    have keep : J (n + 1) s o ls lo := h.more
    have accept : o.1 = 2 → J (n + 1) (1, N + 1) o ls lo ∧ (lo.length < 40 → J (n + 1) (1, N + 1) o ls (lo ++ [(true, N + 1)])) := fun ho => by
      have eo : o = (2, N) := by
        rcases h2.xs with rfl | rfl
        · simp at ho
        · rfl
      have new : ∀ lo' : Msgs, (∀ q ∈ lo', 1 ≤ q.2 ∧ q.2 ≤ N + 1) → I1 (N + 1) (1, N + 1) o ls lo' := fun lo' hlo => ⟨by omega, .inl rfl, .inr ⟨by rw [eo]; congr 1; omega, by omega⟩, fun q hq => ⟨(h2.my q hq).1, (h2.my q hq).2.1⟩,
        fun q hq => ⟨(hlo q hq).1, by have := (hlo q hq).2; omega, fun hq' => by have := (hlo q hq).2; omega⟩⟩
      refine ⟨⟨h.l1, h.l2, N + 1, by omega, .inl (new lo fun q hq => ⟨(h2.mx_ q hq).1, by have := (h2.mx_ q hq).2; omega⟩)⟩, fun hl => ⟨h.l1, by simp only [List.length_append, List.length_cons, List.length_nil]; omega, N + 1, by omega, .inl (new _ fun q hq => ?_)⟩⟩
      rcases mem_snoc hq with hq | rfl
      · exact ⟨(h2.mx_ q hq).1, by have := (h2.mx_ q hq).2; omega⟩
      · exact ⟨by simp only; omega, by simp only; omega⟩
    unfold hrs
    rw [if_neg (by omega)]
    by_cases c : m.1 = true
    · rw [if_pos c]
      have hle : m.2 ≤ N := by
        rcases Int.lt_or_le N m.2 with g | g
        · have := (m3 (by omega)).1; rw [c] at this; cases this
        · exact g
      by_cases d : s.1 = 2 ∧ m.2 = s.2 + 1
      · rw [if_pos d]
        refine ⟨rfl, ⟨h.l1, h.l2, N, by omega, .inr ⟨h2.n0, h2.xs, .inl ?_, h2.mx_, h2.my⟩⟩, fun hq => by cases hq⟩
        rcases h2.ys with rfl | ⟨rfl, _⟩
        · simp at d
        · simp only at d; simp only; congr 1; omega
      · rw [if_neg d]
        exact ⟨rfl, keep, fun hq => by cases hq⟩
    · rw [if_neg c]
      by_cases hN : m.2 = N + 1
      · obtain ⟨a1, a2⟩ := accept (m3 hN).2
        rcases h2.ys with rfl | ⟨rfl, _⟩
        · rw [if_neg (by simp), if_pos (by simp [hN])]
          rw [hN]
          exact ⟨rfl, a1, fun _ => a2⟩
        · rw [if_pos ⟨rfl, by show m.2 = N - 1 + 2; omega⟩]
          rw [hN]
          exact ⟨rfl, a1, fun _ => a2⟩
      · rw [if_neg (by rintro ⟨g1, g2⟩; rcases h2.ys with rfl | ⟨rfl, _⟩ <;> simp only at g1 g2 <;> omega), if_neg (by rintro ⟨g1, g2⟩; rcases h2.ys with rfl | ⟨rfl, _⟩ <;> simp only at g1 g2 <;> omega)]
        by_cases d : m.2 ≤ s.2
        · rw [if_pos d]
          refine ⟨rfl, keep, fun _ hl => ⟨h.l1, by simp only [List.length_append, List.length_cons, List.length_nil]; omega, N, by omega, .inr ⟨h2.n0, h2.xs, h2.ys, fun q hq => ?_, h2.my⟩⟩⟩
          rcases mem_snoc hq with hq | rfl
          · exact h2.mx_ q hq
          · exact ⟨m1, by simp only; omega⟩
        · rw [if_neg d]
          exact ⟨rfl, keep, fun hq => by cases hq⟩

theorem pick_ok (k : Nat) (a m : Int) (h0 : 0 < m) (h1 : m ≤ 1000000) : ∃ d, skywaykeep3_pick.F k a m = some d ∧ 0 ≤ d ∧ d < m := by
  unfold skywaykeep3_pick.F
  have e1 : IntKind.u64.wrap m = m := by rw [IntKind.wrap_u64]; omega
  have h2 : IntKind.u64.wrap a = a % 18446744073709551616 := by rw [IntKind.wrap_u64]
  have h3 : 0 ≤ IntKind.u64.wrap a := by omega
  have h4 : Int.tmod (IntKind.u64.wrap a) m = IntKind.u64.wrap a % m := Int.tmod_eq_emod_of_nonneg h3
  have h5 := Int.emod_nonneg (IntKind.u64.wrap a) (show m ≠ 0 by omega)
  have h6 := Int.emod_lt_of_pos (IntKind.u64.wrap a) h0
  rw [e1, cond_pos (by simp; omega), h4, w64_id (by omega) (by omega)]
  exact ⟨_, rfl, h5, h6⟩

theorem clone_msg (k : Nat) (l : Msgs) (h : l.length ≤ 40) : slices_Clone_api_HandoverMsg.F k l = some l := by
  unfold slices_Clone_api_HandoverMsg.F
  rw [cond_pos (Nat.ble_eq_true_of_le (by omega)), List.nil_append]

theorem delete_msg (k : Nat) (l : Msgs) (h : l.length ≤ 40) (i : Int) (h0 : 0 ≤ i) (h1 : i < l.length) : ∃ l', slices_Delete_api_HandoverMsg.F k l i (w64 (i + 1)) = some l' ∧ l' = l.take i.toNat ++ l.drop (i.toNat + 1) := by
  unfold slices_Delete_api_HandoverMsg.F
  have e2 : w64 (i + 1) = i + 1 := w64_id (by omega) (by omega)
  have e3 : (i + 1).toNat = i.toNat + 1 := by omega
  have hd : (l.drop (i.toNat + 1)).length = l.length - (i.toNat + 1) := List.length_drop
  have ht : (l.take i.toNat).length = i.toNat := by rw [List.length_take]; omega
  rw [e2, e3, hd]
  have en : i.toNat + (l.length - (i.toNat + 1)) = l.length - 1 := by omega
  rw [en]
  have hlen : (l.take i.toNat ++ l.drop (i.toNat + 1) ++ l.drop (l.length - 1)).length = l.length := by
    simp only [List.length_append, ht, hd, List.length_drop]; omega
  rw [hlen, decide_eq_true h0, decide_eq_true (p := i ≤ i + 1) (by omega), decide_eq_true (p := i + 1 ≤ ((l.length : Nat) : Int)) (by omega), decide_eq_true (p := ((l.length : Nat) : Int) ≤ ((l.length : Nat) : Int)) (by omega), cond_neg (c := i == i + 1) (by simp; omega),
    decide_eq_true (p := i ≤ ((l.length : Nat) : Int)) (by omega), decide_eq_true (p := (0 : Int) ≤ i + 1) (by omega), cond_pos (c := Nat.ble (l.length - 1) l.length) (Nat.ble_eq_true_of_le (by omega)),
    decide_eq_true (p := (0 : Int) ≤ (((l.length - 1 - 0 : Nat)) : Int)) (by omega), decide_eq_true (p := (((l.length - 1 - 0 : Nat)) : Int) ≤ ((l.length : Nat) : Int)) (by omega), decide_eq_true (p := ((l.length : Nat) : Int) ≤ (((l.length - 0 : Nat)) : Int)) (by omega)]
  refine ⟨_, rfl, ?_⟩
  have q : (((l.length - 1 - 0 : Nat)) : Int).toNat = l.length - 1 := by omega
  rw [q]
  have hab : (l.take i.toNat ++ l.drop (i.toNat + 1)).length = l.length - 1 := by simp only [List.length_append, ht, hd]; omega
  have t1 : (l.take i.toNat ++ l.drop (i.toNat + 1) ++ l.drop (l.length - 1)).take (l.length - 1) = l.take i.toNat ++ l.drop (i.toNat + 1) := by
    rw [List.take_append_of_le_length (by omega), List.take_of_length_le (by omega)]
  rw [t1, List.append_assoc, List.take_append_of_le_length (by omega), List.take_of_length_le (by omega)]

/-- One step of the channel or of a side: the text of it. -/
noncomputable def stp (k : Nat) (op sd ix : Int) (a1 a2 b1 b2 : Int) (ta tb : Msgs) : Option ((Bool × Int × Int × Int × Int) × Msgs × Msgs) :=
  bif ((w64 (Int.tdiv sd 5)) == 0) then bif (op == 0) then (handover_Give.F k (a1, a2)).bind fun r34 => bif (r34.2.2 != 0) then (bif (r34.2.2 == 11) then some (a1 != 1) else some false).bind fun b35 => some (((!b35), a1, a2, b1, b2), ta, tb) else bif (decide (((tb.length : Nat) : Int) < 40)) then bif (Nat.ble ((tb.length + 1) * 16) 140737488355328) then some ((false, r34.1.1, r34.1.2, b1, b2), ta, (tb ++ [r34.2.1])) else none else some ((false, r34.1.1, r34.1.2, b1, b2), ta, tb) else bif (op == 1) then (handover_Again.F k (a1, a2)).bind fun r36 => bif (r36.2 != 0) then (bif (r36.2 == 11) then some (a1 != 2) else some false).bind fun b37 => some (((!b37), a1, a2, b1, b2), ta, tb) else bif (decide (((tb.length : Nat) : Int) < 40)) then bif (Nat.ble ((tb.length + 1) * 16) 140737488355328) then some ((false, a1, a2, b1, b2), ta, (tb ++ [r36.1])) else none else some ((false, a1, a2, b1, b2), ta, tb) else bif (((ta.length : Nat) : Int) == 0) then some ((false, a1, a2, b1, b2), ta, tb) else (skywaykeep3_pick.F k (w64 (Int.tdiv ix 10)) ((ta.length : Nat) : Int)).bind fun r38 => bif (decide (0 ≤ r38) && decide (r38 < ((ta.length : Nat) : Int))) then (bif (op != 4) then (slices_Clone_api_HandoverMsg.F k ta).bind fun r39 => (slices_Delete_api_HandoverMsg.F k r39 r38 (w64 (r38 + 1))).bind fun r40 => some (Sum.inl ((a1, a2, b1, b2), r40, tb)) else some (Sum.inl ((a1, a2, b1, b2), ta, tb))).bind fun y => match y with | Sum.inl x41 => bif (op == 3) then some ((false, x41.1.1, x41.1.2.1, x41.1.2.2.1, x41.1.2.2.2), x41.2.1, x41.2.2) else (handover_Hear.F k (a1, a2) (ta.getD r38.toNat (false, 0))).bind fun r43 => bif (r43.2.2.2 != 0) then some ((true, x41.1.1, x41.1.2.1, x41.1.2.2.1, x41.1.2.2.2), x41.2.1, x41.2.2) else bif r43.2.2.1 then bif (decide (((x41.2.2.length : Nat) : Int) < 40)) then bif (Nat.ble ((x41.2.2.length + 1) * 16) 140737488355328) then some ((false, r43.1.1, r43.1.2, x41.1.2.2.1, x41.1.2.2.2), x41.2.1, (x41.2.2 ++ [r43.2.1])) else none else some ((false, r43.1.1, r43.1.2, x41.1.2.2.1, x41.1.2.2.2), x41.2.1, x41.2.2) else some ((false, r43.1.1, r43.1.2, x41.1.2.2.1, x41.1.2.2.2), x41.2.1, x41.2.2) | Sum.inr y42 => some y42 else none else bif ((w64 (Int.tdiv sd 5)) == 1) then bif (op == 0) then (handover_Give.F k (b1, b2)).bind fun r44 => bif (r44.2.2 != 0) then (bif (r44.2.2 == 11) then some (b1 != 1) else some false).bind fun b45 => some (((!b45), a1, a2, b1, b2), ta, tb) else bif (decide (((ta.length : Nat) : Int) < 40)) then bif (Nat.ble ((ta.length + 1) * 16) 140737488355328) then some ((false, a1, a2, r44.1.1, r44.1.2), (ta ++ [r44.2.1]), tb) else none else some ((false, a1, a2, r44.1.1, r44.1.2), ta, tb) else bif (op == 1) then (handover_Again.F k (b1, b2)).bind fun r46 => bif (r46.2 != 0) then (bif (r46.2 == 11) then some (b1 != 2) else some false).bind fun b47 => some (((!b47), a1, a2, b1, b2), ta, tb) else bif (decide (((ta.length : Nat) : Int) < 40)) then bif (Nat.ble ((ta.length + 1) * 16) 140737488355328) then some ((false, a1, a2, b1, b2), (ta ++ [r46.1]), tb) else none else some ((false, a1, a2, b1, b2), ta, tb) else bif (((tb.length : Nat) : Int) == 0) then some ((false, a1, a2, b1, b2), ta, tb) else (skywaykeep3_pick.F k (w64 (Int.tdiv ix 10)) ((tb.length : Nat) : Int)).bind fun r48 => bif (decide (0 ≤ r48) && decide (r48 < ((tb.length : Nat) : Int))) then (bif (op != 4) then (slices_Clone_api_HandoverMsg.F k tb).bind fun r49 => (slices_Delete_api_HandoverMsg.F k r49 r48 (w64 (r48 + 1))).bind fun r50 => some (Sum.inl ((a1, a2, b1, b2), ta, r50)) else some (Sum.inl ((a1, a2, b1, b2), ta, tb))).bind fun y => match y with | Sum.inl x51 => bif (op == 3) then some ((false, x51.1.1, x51.1.2.1, x51.1.2.2.1, x51.1.2.2.2), x51.2.1, x51.2.2) else (handover_Hear.F k (b1, b2) (tb.getD r48.toNat (false, 0))).bind fun r53 => bif (r53.2.2.2 != 0) then some ((true, x51.1.1, x51.1.2.1, x51.1.2.2.1, x51.1.2.2.2), x51.2.1, x51.2.2) else bif r53.2.2.1 then bif (decide (((x51.2.1.length : Nat) : Int) < 40)) then bif (Nat.ble ((x51.2.1.length + 1) * 16) 140737488355328) then some ((false, x51.1.1, x51.1.2.1, r53.1.1, r53.1.2), (x51.2.1 ++ [r53.2.1]), x51.2.2) else none else some ((false, x51.1.1, x51.1.2.1, r53.1.1, r53.1.2), x51.2.1, x51.2.2) else some ((false, x51.1.1, x51.1.2.1, r53.1.1, r53.1.2), x51.2.1, x51.2.2) | Sum.inr y52 => some y52 else none else none

attribute [local irreducible] handover_Give.F handover_Again.F handover_Hear.F slices_Clone_api_HandoverMsg.F slices_Delete_api_HandoverMsg.F skywaykeep3_pick.F

theorem getD_mem {l : Msgs} {d : Int} (h0 : 0 ≤ d) (h1 : d < l.length) : l.getD d.toNat (false, 0) ∈ l := by
  rw [List.getD_eq_getElem?_getD, List.getElem?_eq_getElem (by omega)]
  exact List.getElem_mem _

theorem stp_ok (k : Nat) (op sd ix : Int) (hsd : 0 ≤ sd ∧ sd < 10) {n : Int} (hn : n ≤ 900) (a1 a2 b1 b2 : Int) (ta tb : Msgs) (h : J n (a1, a2) (b1, b2) ta tb) :
    ∃ a1' a2' b1' b2' ta' tb', stp k op sd ix a1 a2 b1 b2 ta tb = some ((false, a1', a2', b1', b2'), ta', tb') ∧ J (n + 1) (a1', a2') (b1', b2') ta' tb' := by
  have hl1 := h.l1
  have hl2 := h.l2
  have hsd' : Int.tdiv sd 5 = 0 ∨ Int.tdiv sd 5 = 1 := by
    rw [Int.tdiv_eq_ediv_of_nonneg hsd.1]; omega
  unfold stp
  rcases hsd' with hsd' | hsd'
  · rw [hsd', w64_id (n := 0) (by omega) (by omega), cond_pos (c := (0 : Int) == 0) (by rfl)]
    by_cases o0 : op = 0
    · rw [cond_pos (c := op == 0) (by simpa using o0)]
      rcases give_ok k (by omega) h with ⟨g1, g2⟩ | ⟨g1, g2, g3, g4⟩
      · rw [g2]
        simp only [Option.bind_some]
        rw [cond_pos (c := (11 : Int) != 0) (by rfl), cond_pos (c := (11 : Int) == 11) (by rfl)]
        have : (a1 != 1) = true := by simpa using g1
        simp only [Option.bind_some, this, Bool.not_true]
        exact ⟨_, _, _, _, _, _, rfl, h.more⟩
      · rw [g2]
        simp only [Option.bind_some]
        rw [cond_neg (c := (0 : Int) != 0) (by rfl)]
        by_cases hl : tb.length < 40
        · rw [cond_pos (decide_eq_true (by omega)), cond_pos (Nat.ble_eq_true_of_le (by omega))]
          exact ⟨_, _, _, _, _, _, rfl, g4 hl⟩
        · rw [cond_neg (decide_eq_false (by omega))]
          exact ⟨_, _, _, _, _, _, rfl, g3⟩
    rw [cond_neg (c := op == 0) (by simpa using o0)]
    by_cases o1 : op = 1
    · rw [cond_pos (c := op == 1) (by simpa using o1)]
      rcases again_ok k (by omega) h with ⟨g1, g2⟩ | ⟨g1, g2, g4⟩
      · rw [g2]
        simp only [Option.bind_some]
        rw [cond_pos (c := (11 : Int) != 0) (by rfl), cond_pos (c := (11 : Int) == 11) (by rfl)]
        have : (a1 != 2) = true := by simpa using g1
        simp only [Option.bind_some, this, Bool.not_true]
        exact ⟨_, _, _, _, _, _, rfl, h.more⟩
      · rw [g2]
        simp only [Option.bind_some]
        rw [cond_neg (c := (0 : Int) != 0) (by rfl)]
        by_cases hl : tb.length < 40
        · rw [cond_pos (decide_eq_true (by omega)), cond_pos (Nat.ble_eq_true_of_le (by omega))]
          exact ⟨_, _, _, _, _, _, rfl, g4 hl⟩
        · rw [cond_neg (decide_eq_false (by omega))]
          exact ⟨_, _, _, _, _, _, rfl, h.more⟩
    rw [cond_neg (c := op == 1) (by simpa using o1)]
    by_cases he : ta.length = 0
    · rw [cond_pos (c := ((ta.length : Nat) : Int) == 0) (by simp; exact List.length_eq_zero_iff.1 he)]
      exact ⟨_, _, _, _, _, _, rfl, h.more⟩
    rw [cond_neg (c := ((ta.length : Nat) : Int) == 0) (by simp; exact fun h => he (by rw [h]; rfl))]
    obtain ⟨d, p1, p2, p3⟩ := pick_ok k (w64 (Int.tdiv ix 10)) ((ta.length : Nat) : Int) (by omega) (by omega)
    rw [p1]
    simp only [Option.bind_some]
    rw [cond_pos (inIdx p2 p3)]
    have hmem := getD_mem p2 p3
    obtain ⟨r, r1, r2, r3, r4⟩ := hear_ok k (by omega) h hmem
    obtain ⟨l', d1, d2⟩ := delete_msg k ta (by omega) d p2 p3
    have hl' : l'.length ≤ ta.length := by rw [d2]; simp only [List.length_append, List.length_take, List.length_drop]; omega
    have hs' : ∀ m ∈ l', m ∈ ta := fun m hm => by
      rw [d2] at hm
      rcases List.mem_append.1 hm with hm | hm
      · exact List.mem_of_mem_take hm
      · exact List.mem_of_mem_drop hm
    rw [clone_msg k ta (by omega)]
    simp only [Option.bind_some]
    rw [d1, r1]
    have tail : ∀ w : Msgs, w.length ≤ ta.length → (∀ m ∈ w, m ∈ ta) → J (n + 1) (a1, a2) (b1, b2) w tb ∧ J (n + 1) r.1 (b1, b2) w tb ∧ (r.2.2.1 = true → tb.length < 40 → J (n + 1) r.1 (b1, b2) w (tb ++ [r.2.1])) := fun w w1 w2 =>
      ⟨(h).more.sub w1 w2, r3.sub w1 w2, fun x1 x2 => (r4 x1 x2).sub w1 w2⟩
    by_cases o4 : op = 4
    · rw [cond_neg (c := op != 4) (by simpa using o4)]
      simp only [Option.bind_some]
      rw [cond_neg (c := op == 3) (by simp; omega), cond_neg (c := r.2.2.2 != 0) (by simpa using r2)]
      obtain ⟨q1, q2, q3⟩ := tail ta (Nat.le_refl _) (fun _ h => h)
      cases hr : r.2.2.1 with
      | false => exact ⟨_, _, _, _, _, _, rfl, q2⟩
      | true =>
        simp only [cond_true]
        by_cases hl : tb.length < 40
        · rw [cond_pos (decide_eq_true (by omega)), cond_pos (Nat.ble_eq_true_of_le (by omega))]
          exact ⟨_, _, _, _, _, _, rfl, q3 hr hl⟩
        · rw [cond_neg (decide_eq_false (by omega))]
          exact ⟨_, _, _, _, _, _, rfl, q2⟩
    rw [cond_pos (c := op != 4) (by simpa using o4)]
    simp only [Option.bind_some]
    obtain ⟨q1, q2, q3⟩ := tail l' hl' hs'
    by_cases o3 : op = 3
    · rw [cond_pos (c := op == 3) (by simpa using o3)]
      exact ⟨_, _, _, _, _, _, rfl, q1⟩
    rw [cond_neg (c := op == 3) (by simpa using o3), cond_neg (c := r.2.2.2 != 0) (by simpa using r2)]
    cases hr : r.2.2.1 with
    | false => exact ⟨_, _, _, _, _, _, rfl, q2⟩
    | true =>
      simp only [cond_true]
      by_cases hl : tb.length < 40
      · rw [cond_pos (decide_eq_true (by omega)), cond_pos (Nat.ble_eq_true_of_le (by omega))]
        exact ⟨_, _, _, _, _, _, rfl, q3 hr hl⟩
      · rw [cond_neg (decide_eq_false (by omega))]
        exact ⟨_, _, _, _, _, _, rfl, q2⟩
  · rw [hsd', w64_id (n := 1) (by omega) (by omega), cond_neg (c := (1 : Int) == 0) (by rfl), cond_pos (c := (1 : Int) == 1) (by rfl)]
    by_cases o0 : op = 0
    · rw [cond_pos (c := op == 0) (by simpa using o0)]
      rcases give_ok k (by omega) h.swap with ⟨g1, g2⟩ | ⟨g1, g2, g3, g4⟩
      · rw [g2]
        simp only [Option.bind_some]
        rw [cond_pos (c := (11 : Int) != 0) (by rfl), cond_pos (c := (11 : Int) == 11) (by rfl)]
        have : (b1 != 1) = true := by simpa using g1
        simp only [Option.bind_some, this, Bool.not_true]
        exact ⟨_, _, _, _, _, _, rfl, h.more⟩
      · rw [g2]
        simp only [Option.bind_some]
        rw [cond_neg (c := (0 : Int) != 0) (by rfl)]
        by_cases hl : ta.length < 40
        · rw [cond_pos (decide_eq_true (by omega)), cond_pos (Nat.ble_eq_true_of_le (by omega))]
          exact ⟨_, _, _, _, _, _, rfl, (g4 hl).swap⟩
        · rw [cond_neg (decide_eq_false (by omega))]
          exact ⟨_, _, _, _, _, _, rfl, (g3).swap⟩
    rw [cond_neg (c := op == 0) (by simpa using o0)]
    by_cases o1 : op = 1
    · rw [cond_pos (c := op == 1) (by simpa using o1)]
      rcases again_ok k (by omega) h.swap with ⟨g1, g2⟩ | ⟨g1, g2, g4⟩
      · rw [g2]
        simp only [Option.bind_some]
        rw [cond_pos (c := (11 : Int) != 0) (by rfl), cond_pos (c := (11 : Int) == 11) (by rfl)]
        have : (b1 != 2) = true := by simpa using g1
        simp only [Option.bind_some, this, Bool.not_true]
        exact ⟨_, _, _, _, _, _, rfl, h.more⟩
      · rw [g2]
        simp only [Option.bind_some]
        rw [cond_neg (c := (0 : Int) != 0) (by rfl)]
        by_cases hl : ta.length < 40
        · rw [cond_pos (decide_eq_true (by omega)), cond_pos (Nat.ble_eq_true_of_le (by omega))]
          exact ⟨_, _, _, _, _, _, rfl, (g4 hl).swap⟩
        · rw [cond_neg (decide_eq_false (by omega))]
          exact ⟨_, _, _, _, _, _, rfl, h.more⟩
    rw [cond_neg (c := op == 1) (by simpa using o1)]
    by_cases he : tb.length = 0
    · rw [cond_pos (c := ((tb.length : Nat) : Int) == 0) (by simp; exact List.length_eq_zero_iff.1 he)]
      exact ⟨_, _, _, _, _, _, rfl, h.more⟩
    rw [cond_neg (c := ((tb.length : Nat) : Int) == 0) (by simp; exact fun h => he (by rw [h]; rfl))]
    obtain ⟨d, p1, p2, p3⟩ := pick_ok k (w64 (Int.tdiv ix 10)) ((tb.length : Nat) : Int) (by omega) (by omega)
    rw [p1]
    simp only [Option.bind_some]
    rw [cond_pos (inIdx p2 p3)]
    have hmem := getD_mem p2 p3
    obtain ⟨r, r1, r2, r3, r4⟩ := hear_ok k (by omega) h.swap hmem
    obtain ⟨l', d1, d2⟩ := delete_msg k tb (by omega) d p2 p3
    have hl' : l'.length ≤ tb.length := by rw [d2]; simp only [List.length_append, List.length_take, List.length_drop]; omega
    have hs' : ∀ m ∈ l', m ∈ tb := fun m hm => by
      rw [d2] at hm
      rcases List.mem_append.1 hm with hm | hm
      · exact List.mem_of_mem_take hm
      · exact List.mem_of_mem_drop hm
    rw [clone_msg k tb (by omega)]
    simp only [Option.bind_some]
    rw [d1, r1]
    have tail : ∀ w : Msgs, w.length ≤ tb.length → (∀ m ∈ w, m ∈ tb) → J (n + 1) (b1, b2) (a1, a2) w ta ∧ J (n + 1) r.1 (a1, a2) w ta ∧ (r.2.2.1 = true → ta.length < 40 → J (n + 1) r.1 (a1, a2) w (ta ++ [r.2.1])) := fun w w1 w2 =>
      ⟨(h.swap).more.sub w1 w2, r3.sub w1 w2, fun x1 x2 => (r4 x1 x2).sub w1 w2⟩
    by_cases o4 : op = 4
    · rw [cond_neg (c := op != 4) (by simpa using o4)]
      simp only [Option.bind_some]
      rw [cond_neg (c := op == 3) (by simp; omega), cond_neg (c := r.2.2.2 != 0) (by simpa using r2)]
      obtain ⟨q1, q2, q3⟩ := tail tb (Nat.le_refl _) (fun _ h => h)
      cases hr : r.2.2.1 with
      | false => exact ⟨_, _, _, _, _, _, rfl, (q2).swap⟩
      | true =>
        simp only [cond_true]
        by_cases hl : ta.length < 40
        · rw [cond_pos (decide_eq_true (by omega)), cond_pos (Nat.ble_eq_true_of_le (by omega))]
          exact ⟨_, _, _, _, _, _, rfl, (q3 hr hl).swap⟩
        · rw [cond_neg (decide_eq_false (by omega))]
          exact ⟨_, _, _, _, _, _, rfl, (q2).swap⟩
    rw [cond_pos (c := op != 4) (by simpa using o4)]
    simp only [Option.bind_some]
    obtain ⟨q1, q2, q3⟩ := tail l' hl' hs'
    by_cases o3 : op = 3
    · rw [cond_pos (c := op == 3) (by simpa using o3)]
      exact ⟨_, _, _, _, _, _, rfl, (q1).swap⟩
    rw [cond_neg (c := op == 3) (by simpa using o3), cond_neg (c := r.2.2.2 != 0) (by simpa using r2)]
    cases hr : r.2.2.1 with
    | false => exact ⟨_, _, _, _, _, _, rfl, (q2).swap⟩
    | true =>
      simp only [cond_true]
      by_cases hl : ta.length < 40
      · rw [cond_pos (decide_eq_true (by omega)), cond_pos (Nat.ble_eq_true_of_le (by omega))]
        exact ⟨_, _, _, _, _, _, rfl, (q3 hr hl).swap⟩
      · rw [cond_neg (decide_eq_false (by omega))]
        exact ⟨_, _, _, _, _, _, rfl, (q2).swap⟩


end Go.Proofs.Ytdchminahimfhaa.RT
