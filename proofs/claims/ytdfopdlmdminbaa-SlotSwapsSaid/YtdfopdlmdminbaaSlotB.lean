/- What is proved here: what delays, searches and exchanges of slots come to. They ask nothing. -/
import Derived.Test.YtdfopdlmdminbaaSlT
import Derived.Test.YtdfopdlmdminbaaPlA
import Derived.Test.YtdfopdlmdminbaaSlotA
namespace Go.Proofs.Ytdfopdlmdminbaa.RT
open Go Go.R

attribute [local irreducible] slot_Check.F

/-- Where a call stands. -/
def fx (c : ByteArray) : List Sl → Nat
  | [] => 0
  | x :: r => if x.1 = c then 0 else fx c r + 1

theorem fx_le (c : ByteArray) : ∀ s : List Sl, fx c s ≤ s.length
  | [] => Nat.le_refl _
  | x :: r => by
    simp only [fx]
    split
    · omega
    · have := fx_le c r; simp only [List.length_cons]; omega

theorem sl_cons (x : Sl) (r : List Sl) (j : Nat) : sl (x :: r) (j + 1) = sl r j := by simp [sl]
theorem sl_zero (x : Sl) (r : List Sl) : sl (x :: r) 0 = x := rfl

theorem fx_get (c : ByteArray) : ∀ {s : List Sl}, fx c s < s.length → (sl s (fx c s)).1 = c
  | [], h => by simp [fx] at h
  | x :: r, h => by
    simp only [fx] at h ⊢
    split
    · rename_i e; exact e
    · rename_i e
      rw [if_neg e] at h
      rw [sl_cons]
      exact fx_get c (by simp only [List.length_cons] at h; omega)

theorem fx_first (c : ByteArray) : ∀ {s : List Sl} {j : Nat}, j < fx c s → (sl s j).1 ≠ c
  | [], j, h => by simp [fx] at h
  | x :: r, j, h => by
    simp only [fx] at h
    split at h
    · omega
    · rename_i e
      cases j with
      | zero => exact e
      | succ j => rw [sl_cons]; exact fx_first c (by omega)

theorem fx_lt {c : ByteArray} {s : List Sl} {j : Nat} (hj : j < s.length) (h : (sl s j).1 = c) : fx c s < s.length := by
  rcases Nat.lt_or_ge j (fx c s) with g | g
  · exact absurd h (fx_first c g)
  · omega

theorem fx_uniq {c : ByteArray} {s : List Sl} (hs : ∀ i j, i < s.length → j < s.length → (sl s i).1 = (sl s j).1 → i = j) {j : Nat} (hj : j < s.length) (h : (sl s j).1 = c) : fx c s = j :=
  hs _ _ (fx_lt hj h) hj (by rw [fx_get c (fx_lt hj h), h])

theorem fx_congr (c : ByteArray) : ∀ {s s' : List Sl}, s.length = s'.length → (∀ j, j < s.length → (sl s j).1 = (sl s' j).1) → fx c s = fx c s'
  | [], [], _, _ => rfl
  | x :: r, y :: r', hl, h => by
    have h0 := h 0 (by simp)
    rw [sl_zero, sl_zero] at h0
    simp only [fx, h0]
    rw [fx_congr c (by simpa using hl) fun j hj => by have := h (j + 1) (by simp; omega); rwa [sl_cons, sl_cons] at this]
  | [], _ :: _, hl, _ => by simp at hl
  | _ :: _, [], hl, _ => by simp at hl

theorem find_loop (k : Nat) (s : List Sl) (hl : s.length ≤ 24) (c : ByteArray) : ∀ n i : Nat, i ≤ s.length → s.length - i < n →
    slot_find.l0 k s c n i = some (if fx c (s.drop i) < (s.drop i).length then ((i + fx c (s.drop i) : Nat) : Int) else -1) := by
  intro n
  induction n with
  | zero => intro i _ h; omega
  | succ n ih =>
    intro i hi hn
    rw [slot_find.l0_succ]
    unfold slot_find.l0b
    by_cases hlt : i < s.length
    · have hd := drop_cons hlt ((ByteArray.empty, (ByteArray.empty, 0)) : Sl)
      rw [sl_eq] at hd
      rw [decide_eq_true (p := (i : Int) < ((s.length : Nat) : Int)) (by omega), decide_eq_true (p := 0 ≤ (i : Int)) (by omega)]
      simp only [Bool.and_self, cond_true, getD_nat, sl_eq]
      rw [ba_dec, hd]
      by_cases h : (sl s i).1 = c
      · have e : fx c (sl s i :: s.drop (i + 1)) = 0 := by simp [fx, h]
        rw [decide_eq_true h, e, if_pos (by simp)]
        rfl
      · have e : fx c (sl s i :: s.drop (i + 1)) = fx c (s.drop (i + 1)) + 1 := by simp [fx, h]
        rw [decide_eq_false h, e, List.length_cons, show w64 ((i : Int) + 1) = ((i + 1 : Nat) : Int) from w64_id (by omega) (by omega)]
        simp only [cond_false]
        rw [ih (i + 1) (by omega) (by omega)]
        by_cases g : fx c (s.drop (i + 1)) < (s.drop (i + 1)).length
        · rw [if_pos g, if_pos (by omega)]
          congr 2
          omega
        · rw [if_neg g, if_neg (by omega)]
    · rw [decide_eq_false (p := (i : Int) < ((s.length : Nat) : Int)) (by omega), List.drop_eq_nil_of_le (by omega)]
      rfl

theorem find_eq (k : Nat) (hk : 100 ≤ k) (s : List Sl) (hl : s.length ≤ 24) (c : ByteArray) : slot_find.F k s c = some (if fx c s < s.length then (fx c s : Int) else -1) := by
  have := find_loop k s hl c k 0 (by omega) (by omega)
  unfold slot_find.F
  simpa using this

/-! ### Delays -/

def DlOk (s : List Sl) (d : Dm) : Prop := fx d.1 s < s.length ∧ d.2 ≤ (sl s (fx d.1 s)).2.2 ∧ (sl s (fx d.1 s)).2.2 ≤ 200000
instance (s : List Sl) (d : Dm) : Decidable (DlOk s d) := inferInstanceAs (Decidable (_ ∧ _ ∧ _))
def dl (s : List Sl) (d : Dm) : Int := (sl s (fx d.1 s)).2.2 - d.2

theorem delays_loop (k : Nat) (hk : 100 ≤ k) (l : List Dm) (hl : l.length ≤ 24) (ht : ∀ d ∈ l, 0 ≤ d.2 ∧ d.2 ≤ 200000) (s : List Sl) (hs : s.length ≤ 24) : ∀ (n i : Nat) (out : List Int), i ≤ l.length → l.length - i < n → out.length = i →
    (∃ e, e ≠ 0 ∧ slot_Delays.l0 k l s n ((i : Int), out) = some ([], e) ∧ ¬ ∀ d ∈ l.drop i, DlOk s d) ∨ (slot_Delays.l0 k l s n ((i : Int), out) = some (out ++ (l.drop i).map (dl s), 0) ∧ ∀ d ∈ l.drop i, DlOk s d) := by
  intro n
  induction n with
  | zero => intro i _ _ h; omega
  | succ n ih =>
    intro i out hi hn ho
    rw [slot_Delays.l0_succ]
    unfold slot_Delays.l0b
    dsimp only
    by_cases hlt : i < l.length
    · have hd := drop_cons hlt ((ByteArray.empty, 0) : Dm)
      rw [dm_eq] at hd
      rw [decide_eq_true (p := (i : Int) < ((l.length : Nat) : Int)) (by omega), decide_eq_true (p := 0 ≤ (i : Int)) (by omega)]
      simp only [Bool.and_self, cond_true, getD_nat, dm_eq]
      have htd := ht _ (getD_mem (ByteArray.empty, 0) hlt)
      rw [dm_eq] at htd
      rw [find_eq k hk s hs, hd]
      simp only [Option.bind_some]
      by_cases h1 : fx (dm l i).1 s < s.length
      · rw [if_pos h1, decide_eq_false (p := ((fx (dm l i).1 s : Nat) : Int) < 0) (by omega), decide_eq_true (p := 0 ≤ ((fx (dm l i).1 s : Nat) : Int)) (by omega), decide_eq_true (p := ((fx (dm l i).1 s : Nat) : Int) < ((s.length : Nat) : Int)) (by omega)]
        simp only [cond_false, Bool.and_self, cond_true, getD_nat, sl_eq]
        by_cases h2 : (sl s (fx (dm l i).1 s)).2.2 < (dm l i).2
        · rw [decide_eq_true h2]
          exact .inl ⟨12, by decide, rfl, fun h => by have := (h _ (List.mem_cons_self ..)).2.1; omega⟩
        rw [decide_eq_false h2]
        by_cases h3 : (sl s (fx (dm l i).1 s)).2.2 > 200000
        · rw [decide_eq_true h3]
          exact .inl ⟨12, by decide, rfl, fun h => by have := (h _ (List.mem_cons_self ..)).2.2; omega⟩
        rw [decide_eq_false h3]
        simp only [cond_false, Option.bind_some]
        rw [Nat.ble_eq_true_of_le (show (out.length + 1) * 8 ≤ 140737488355328 by omega), show w64 ((i : Int) + 1) = ((i + 1 : Nat) : Int) from w64_id (by omega) (by omega), w64_id (n := (sl s (fx (dm l i).1 s)).2.2 - (dm l i).2) (by omega) (by omega)]
        simp only [cond_true]
        rcases ih (i + 1) (out ++ [(sl s (fx (dm l i).1 s)).2.2 - (dm l i).2]) (by omega) (by omega) (by simp [ho]) with ⟨e, he, g1, g2⟩ | ⟨g1, g2⟩
        · exact .inl ⟨e, he, g1, fun h => g2 fun d hd => h d (List.mem_cons_of_mem _ hd)⟩
        · refine .inr ⟨by rw [g1]; simp [dl], fun d hd => ?_⟩
          rcases List.mem_cons.1 hd with rfl | hd
          · exact ⟨h1, by omega, by omega⟩
          · exact g2 d hd
      · rw [if_neg h1]
        exact .inl ⟨8, by decide, rfl, fun h => h1 (h _ (List.mem_cons_self ..)).1⟩
    · rw [decide_eq_false (p := (i : Int) < ((l.length : Nat) : Int)) (by omega), List.drop_eq_nil_of_le (by omega)]
      exact .inr ⟨by simp, fun d hd => by cases hd⟩

structure Dly (k : Nat) (l : List Dm) (s : List Sl) : Prop where
  dm : DmOk k l
  len : s.length ≤ 24
  each : ∀ d ∈ l, DlOk s d

theorem delays_cases (k : Nat) (hk : 100 ≤ k) (l : List Dm) (s : List Sl) : (∃ e, e ≠ 0 ∧ slot_Delays.F k l s = some ([], e) ∧ ¬ Dly k l s) ∨ (slot_Delays.F k l s = some (l.map (dl s), 0) ∧ Dly k l s) := by
  unfold slot_Delays.F
  obtain ⟨e1, h1, g1⟩ := scheck_eq k hk l
  rw [h1]
  simp only [Option.bind_some]
  by_cases z1 : e1 ≠ 0
  · rw [cond_pos (c := e1 != 0) (by simpa using z1)]
    exact .inl ⟨e1, z1, rfl, fun h => z1 (g1.2 h.dm)⟩
  replace z1 := Decidable.not_not.1 z1
  subst z1
  have hd := g1.1 rfl
  rw [cond_neg (c := (0 : Int) != 0) (by rfl)]
  by_cases hs : s.length ≤ 24
  · rw [cond_neg (decide_eq_false (by omega))]
    have hlen := hd.len
    rcases delays_loop k hk l hd.len (fun d h => (hd.each d h).time) s hs k 0 [] (by omega) (by omega) rfl with ⟨e, he, q1, q2⟩ | ⟨q1, q2⟩
    · rw [show ((0 : Nat) : Int) = 0 from rfl] at q1
      exact .inl ⟨e, he, q1, fun h => q2 (by simpa using h.each)⟩
    · rw [show ((0 : Nat) : Int) = 0 from rfl] at q1
      rw [q1]
      exact .inr ⟨by simp, hd, hs, by simpa using q2⟩
  · rw [cond_pos (decide_eq_true (by omega))]
    exact .inl ⟨2, by decide, rfl, fun h => hs h.len⟩

/-! ### Exchanges -/

def sw (s : List Sl) (i j : Nat) : List Sl :=
  (s.set i ((sl s i).1, ((sl s i).2.1, (sl s j).2.2))).set j ((sl (s.set i ((sl s i).1, ((sl s i).2.1, (sl s j).2.2))) j).1, ((sl (s.set i ((sl s i).1, ((sl s i).2.1, (sl s j).2.2))) j).2.1, (sl s i).2.2))

theorem sl_set (s : List Sl) (i : Nat) (hi : i < s.length) (x : Sl) (q : Nat) : sl (s.set i x) q = if i = q then x else sl s q := by
  unfold sl
  rw [List.getD_eq_getElem?_getD, List.getElem?_set]
  by_cases h : i = q
  · subst h; simp [hi]
  · simp [h]

theorem sw_len (s : List Sl) (i j : Nat) : (sw s i j).length = s.length := by simp [sw]

theorem sw_get (s : List Sl) (i j : Nat) (hi : i < s.length) (hj : j < s.length) (q : Nat) : sl (sw s i j) q = if q = j then ((sl s j).1, ((sl s j).2.1, (sl s i).2.2)) else if q = i then ((sl s i).1, ((sl s i).2.1, (sl s j).2.2)) else sl s q := by
  unfold sw
  rw [sl_set _ j (by simpa using hj), sl_set s i hi, sl_set s i hi]
  by_cases h : j = q
  · subst h
    rw [if_pos rfl, if_pos rfl]
    by_cases h2 : i = j
    · subst h2; rw [if_pos rfl]
    · rw [if_neg h2]
  · rw [if_neg h, if_neg (Ne.symm h)]
    by_cases h2 : i = q
    · rw [if_pos h2, if_pos h2.symm]
    · rw [if_neg h2, if_neg (Ne.symm h2)]

theorem sw_call (s : List Sl) (i j : Nat) (hi : i < s.length) (hj : j < s.length) (q : Nat) : (sl (sw s i j) q).1 = (sl s q).1 := by
  rw [sw_get s i j hi hj]
  split
  · rename_i h; rw [h]
  · split
    · rename_i h; rw [h]
    · rfl

theorem sl_ext {s s' : List Sl} (hl : s.length = s'.length) (h : ∀ q, q < s.length → sl s q = sl s' q) : s = s' := by
  refine List.ext_getElem hl fun q h1 h2 => ?_
  have := h q h1
  unfold sl at this
  rwa [getD_get _ h1, getD_get _ h2] at this

theorem sw_sw (s : List Sl) (i j : Nat) (hi : i < s.length) (hj : j < s.length) : sw (sw s i j) i j = s := by
  refine sl_ext (by simp [sw_len]) fun q _ => ?_
  have hi' : i < (sw s i j).length := by rw [sw_len]; exact hi
  have hj' : j < (sw s i j).length := by rw [sw_len]; exact hj
  rw [sw_get _ i j hi' hj', sw_get s i j hi hj, sw_get s i j hi hj, sw_get s i j hi hj]
  by_cases h1 : q = j
  · subst h1
    rw [if_pos rfl, if_pos rfl]
    by_cases h2 : i = q
    · subst h2; simp
    · rw [if_neg h2, if_pos rfl]
  · rw [if_neg h1]
    by_cases h2 : q = i
    · subst h2
      rw [if_pos rfl, if_neg h1, if_pos rfl, if_pos rfl]
    · rw [if_neg h2, if_neg h1, if_neg h2]

attribute [local irreducible] slot_Delays.F slot_find.F

theorem swap_eq (k : Nat) (hk : 100 ≤ k) (l : List Dm) (s : List Sl) (h : Dly k l s) (a b : ByteArray) (ha : fx a s < s.length) (hb : fx b s < s.length) :
    (slot_Swap.F k l s a b = some (sw s (fx a s) (fx b s), 0) ∧ Dly k l (sw s (fx a s) (fx b s))) ∨ (slot_Swap.F k l s a b = some ([], 12) ∧ ¬ Dly k l (sw s (fx a s) (fx b s))) := by
  unfold slot_Swap.F
  rcases delays_cases k hk l s with ⟨_, _, _, hn⟩ | ⟨h1, _⟩
  · exact absurd h hn
  have hlen := h.len
  rw [h1, find_eq k hk s h.len, find_eq k hk s h.len, if_pos ha, if_pos hb]
  simp only [Option.bind_some]
  rw [cond_neg (c := (0 : Int) != 0) (by rfl), decide_eq_false (p := ((fx a s : Nat) : Int) < 0) (by omega), decide_eq_false (p := ((fx b s : Nat) : Int) < 0) (by omega)]
  simp only [cond_false, Option.bind_some]
  unfold slices_Clone_api_Slot.F
  rw [cond_pos (Nat.ble_eq_true_of_le (by omega)), List.nil_append]
  simp only [Option.bind_some]
  rw [inIdx (n := s.length) (i := ((fx b s : Nat) : Int)) (by omega) (by omega), inIdx (n := s.length) (i := ((fx a s : Nat) : Int)) (by omega) (by omega)]
  simp only [cond_true, Int.toNat_natCast, sl_eq, List.length_set]
  rw [inIdx (n := s.length) (i := ((fx b s : Nat) : Int)) (by omega) (by omega)]
  simp only [cond_true]
  rw [show (s.set (fx a s) ((sl s (fx a s)).1, ((sl s (fx a s)).2.1, (sl s (fx b s)).2.2))).set (fx b s) ((sl (s.set (fx a s) ((sl s (fx a s)).1, ((sl s (fx a s)).2.1, (sl s (fx b s)).2.2))) (fx b s)).1, ((sl (s.set (fx a s) ((sl s (fx a s)).1, ((sl s (fx a s)).2.1, (sl s (fx b s)).2.2))) (fx b s)).2.1, (sl s (fx a s)).2.2)) = sw s (fx a s) (fx b s) from rfl]
  rcases delays_cases k hk l (sw s (fx a s) (fx b s)) with ⟨e, he, q1, q2⟩ | ⟨q1, q2⟩
  · rw [q1]
    simp only [Option.bind_some]
    rw [cond_pos (c := e != 0) (by simpa using he)]
    exact .inr ⟨rfl, q2⟩
  · rw [q1]
    simp only [Option.bind_some]
    rw [cond_neg (c := (0 : Int) != 0) (by rfl)]
    exact .inl ⟨rfl, q2⟩

theorem ba_beq (a : ByteArray) : (a == a) = true := by
  cases a with | mk d => exact beq_self_eq_true d

theorem sequal_loop (k : Nat) (l : List Sl) (hl : l.length ≤ 24) : ∀ n i : Nat, i ≤ l.length → l.length - i < n → slices_Equal_api_Slot.l0 k l l n i = some true := by
  intro n
  induction n with
  | zero => intro i _ h; omega
  | succ n ih =>
    intro i hi hn
    rw [slices_Equal_api_Slot.l0_succ]
    unfold slices_Equal_api_Slot.l0b
    by_cases hlt : i < l.length
    · rw [decide_eq_true (p := (i : Int) < ((l.length : Nat) : Int)) (by omega), decide_eq_true (p := 0 ≤ (i : Int)) (by omega)]
      simp only [Bool.and_self, cond_true, ba_beq, beq_self_eq_true, Bool.not_true, cond_false]
      rw [show w64 ((i : Int) + 1) = ((i + 1 : Nat) : Int) from w64_id (by omega) (by omega)]
      exact ih (i + 1) (by omega) (by omega)
    · rw [decide_eq_false (p := (i : Int) < ((l.length : Nat) : Int)) (by omega)]
      rfl

theorem sequal_refl (k : Nat) (hk : 100 ≤ k) (l : List Sl) (hl : l.length ≤ 24) : slices_Equal_api_Slot.F k l l = some true := by
  unfold slices_Equal_api_Slot.F
  rw [cond_neg (c := ((l.length : Nat) : Int) != ((l.length : Nat) : Int)) (by simp)]
  exact sequal_loop k l hl k 0 (by omega) (by omega)

theorem pick_ok (k : Nat) (a m : Int) (h0 : 0 < m) (h1 : m ≤ 1000000) : ∃ d, skywaykeep3_pick.F k a m = some d ∧ 0 ≤ d ∧ d < m := by
  unfold skywaykeep3_pick.F
  have e1 : IntKind.u64.wrap m = m := by rw [IntKind.wrap_u64]; omega
  have h2 : IntKind.u64.wrap a = a % 18446744073709551616 := by rw [IntKind.wrap_u64]
  have h3 : 0 ≤ IntKind.u64.wrap a := by omega
  have h4 : Int.tmod (IntKind.u64.wrap a) m = IntKind.u64.wrap a % m := Int.tmod_eq_emod_of_nonneg h3
  have h5 := Int.emod_nonneg (IntKind.u64.wrap a) (show m ≠ 0 by omega)
  have h6 := Int.emod_lt_of_pos (IntKind.u64.wrap a) h0
  rw [e1, cond_pos (by simp; omega), h4, w64_id (by omega) (by omega)]
  exact ⟨_, rfl, h5, h6⟩

/-! ### What was assigned -/

theorem dm_cons (x : Dm) (r : List Dm) (j : Nat) : dm (x :: r) (j + 1) = dm r j := by simp [dm]
theorem dm_zero (x : Dm) (r : List Dm) : dm (x :: r) 0 = x := rfl

theorem asg_get (place : ByteArray) : ∀ {S : List Dm} {c : Cps} {s : List Sl}, Cap c → asg place c S = some s → (∀ d ∈ S, d.2 ≤ 200000) → s.length = S.length ∧ ∀ j, j < S.length → (sl s j).1 = (dm S j).1 ∧ (dm S j).2 ≤ (sl s j).2.2 ∧ (sl s j).2.2 ≤ 200000
  | [], c, s, _, h, _ => by simp only [asg, Option.some.injEq] at h; subst h; simp
  | d :: r, c, s, hc, h, ht => by
    simp only [asg, Option.bind_eq_some_iff, Option.map_eq_some_iff] at h
    obtain ⟨p, h1, s', h2, rfl⟩ := h
    obtain ⟨a, c'⟩ := p
    obtain ⟨t1, _, t3, t4⟩ := tk_cap hc h1
    obtain ⟨g1, g2⟩ := asg_get place t1 h2 (fun x hx => ht x (List.mem_cons_of_mem _ hx))
    refine ⟨by simp [g1], fun j hj => ?_⟩
    have := ht d (by simp)
    cases j with
    | zero => rw [sl_zero, dm_zero]; exact ⟨rfl, t3, by simp only; omega⟩
    | succ j => rw [sl_cons, dm_cons]; exact g2 j (by simpa using hj)

/-- What is known of an assignment that went well. -/
structure Went (k : Nat) (l : List Dm) (c : Cps) (S : List Dm) (s : List Sl) : Prop where
  dm : DmOk k l
  caps : CpOk c
  srt : Srt l S
  asg : asg rwy c S = some s

theorem Went.len {k : Nat} {l : List Dm} {c : Cps} {S : List Dm} {s : List Sl} (h : Went k l c S s) : s.length = l.length ∧ S.length = l.length ∧ l.length ≤ 24 := by
  have h1 := (asg_get rwy h.caps.cap h.asg (fun d hd => (h.dm.each d (h.srt.1.mem_iff.1 hd)).time.2)).1
  have h2 := h.srt.1.length_eq
  exact ⟨by omega, h2, h.dm.len⟩

theorem Went.get {k : Nat} {l : List Dm} {c : Cps} {S : List Dm} {s : List Sl} (h : Went k l c S s) {j : Nat} (hj : j < S.length) : (sl s j).1 = (Go.Proofs.Ytdfopdlmdminbaa.RT.dm S j).1 ∧ (Go.Proofs.Ytdfopdlmdminbaa.RT.dm S j).2 ≤ (sl s j).2.2 ∧ (sl s j).2.2 ≤ 200000 :=
  (asg_get rwy h.caps.cap h.asg (fun d hd => (h.dm.each d (h.srt.1.mem_iff.1 hd)).time.2)).2 j hj

theorem Went.apart {k : Nat} {l : List Dm} {c : Cps} {S : List Dm} {s : List Sl} (h : Went k l c S s) : S.Pairwise fun a b => a.1 ≠ b.1 :=
  (h.srt.1.pairwise_iff (fun h => Ne.symm h)).2 h.dm.apart

end Go.Proofs.Ytdfopdlmdminbaa.RT
