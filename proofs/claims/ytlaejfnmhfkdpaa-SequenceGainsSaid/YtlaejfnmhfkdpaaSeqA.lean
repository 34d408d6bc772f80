/- What is proved here: what the check of arrivals, their landing times and whether an order is one come to. They ask nothing. -/
import Derived.Test.YtlaejfnmhfkdpaaSqT
import Derived.Test.YtlaejfnmhfkdpaaPlA
import Derived.Test.YtlaejfnmhfkdpaaStrA
import Derived.Test.YtlaejfnmhfkdpaaNameA
import Derived.Test.YtlaejfnmhfkdpaaCmpA
import Derived.Test.YtlaejfnmhfkdpaaWakT
namespace Go.Proofs.Ytlaejfnmhfkdpaa.RT
open Go Go.R

attribute [local irreducible] chart_Name.F

theorem name_total (k : Nat) (hk : 10 ≤ k) (s : ByteArray) : ∃ b, slot_Name.F k s = some b := by
  obtain ⟨b, hb⟩ := cname_total k hk s
  refine ⟨b, ?_⟩
  unfold slot_Name.F owner_Name.F sector_Name.F
  rw [hb]
  rfl

attribute [local irreducible] slot_Name.F

theorem ba_inj {a b : ByteArray} (h : a.toList = b.toList) : a = b := by
  rw [ByteArray.toList_eq, ByteArray.toList_eq] at h
  exact ByteArray.ext (Array.toList_inj.1 h)
theorem ba_dec (a b : ByteArray) : (a.toList == b.toList) = decide (a = b) := by
  by_cases h : a = b
  · subst h; simp
  · rw [decide_eq_false h]
    simpa using fun e => h (ba_inj e)
theorem getD_mem {α : Type} {l : List α} {j : Nat} (d : α) (h : j < l.length) : l.getD j d ∈ l := by simp [List.getD, h]
theorem getD_get {α : Type} {l : List α} {j : Nat} (d : α) (h : j < l.length) : l.getD j d = l[j] := by simp [List.getD, h]

abbrev Arr := ByteArray × Int × Int × Int
def ar (l : List Arr) (j : Nat) : Arr := l.getD j (ByteArray.empty, (0, (0, 0)))
theorem ar_eq (l : List Arr) (j : Nat) : l.getD j (ByteArray.empty, (0, (0, 0))) = ar l j := rfl

/-! ### The check -/

theorem qcheck_in (k : Nat) (l : List Arr) (hl : l.length ≤ 8) (x : Nat) (hx : x < l.length) (self : Int → Option Int) : ∀ n i : Nat, i ≤ x → x - i < n →
    (sequence_Check.l0 k l x self n i = some 7 ∧ ¬ ∀ j, i ≤ j → j < x → (ar l j).1 ≠ (ar l x).1) ∨ (sequence_Check.l0 k l x self n i = self ((x + 1 : Nat) : Int) ∧ ∀ j, i ≤ j → j < x → (ar l j).1 ≠ (ar l x).1) := by
  intro n
  induction n with
  | zero => intro i _ h; omega
  | succ n ih =>
    intro i hi hm
    rw [sequence_Check.l0_succ]
    unfold sequence_Check.l0b
    have hlen : (l.take (x : Int).toNat).length = x := by simp; omega
    rw [hlen]
    by_cases hlt : i < x
    · rw [decide_eq_true (p := (i : Int) < ((x : Nat) : Int)) (by omega), decide_eq_true (p := 0 ≤ (i : Int)) (by omega), show w64 ((i : Int) + 1) = ((i + 1 : Nat) : Int) from w64_id (by omega) (by omega)]
      simp only [Bool.and_self, cond_true]
      have e1 : (l.take (x : Int).toNat).getD (i : Int).toNat (ByteArray.empty, (0, (0, 0))) = ar l i := by
        rw [Int.toNat_natCast, Int.toNat_natCast, List.getD_eq_getElem?_getD, List.getElem?_take, if_pos hlt, ← List.getD_eq_getElem?_getD]; rfl
      have e2 : l.getD (x : Int).toNat (ByteArray.empty, (0, (0, 0))) = ar l x := by rw [getD_nat]; rfl
      rw [e1, e2, ba_dec]
      by_cases hc : (ar l i).1 = (ar l x).1
      · rw [cond_pos (decide_eq_true hc)]
        exact .inl ⟨rfl, fun h => h i (by omega) hlt hc⟩
      · rw [cond_neg (decide_eq_false hc)]
        rcases ih (i + 1) (by omega) (by omega) with ⟨h1, h2⟩ | ⟨h1, h2⟩
        · exact .inl ⟨h1, fun h => h2 fun j hj => h j (by omega)⟩
        · refine .inr ⟨h1, fun j hj hj' => ?_⟩
          by_cases e : j = i
          · subst e; exact hc
          · exact h2 j (by omega) hj'
    · rw [decide_eq_false (p := (i : Int) < ((x : Nat) : Int)) (by omega), show w64 ((x : Int) + 1) = ((x + 1 : Nat) : Int) from w64_id (by omega) (by omega)]
      exact .inr ⟨rfl, fun j hj hj' => by omega⟩

structure ArrIn (k : Nat) (d : Arr) : Prop where
  name : slot_Name.F k d.1 = some true
  wake : cls d.2.1
  from0 : 0 ≤ d.2.2.1
  upTo : d.2.2.1 ≤ d.2.2.2
  most : d.2.2.2 ≤ 200000

theorem qcheck_out (k : Nat) (hk : 100 ≤ k) (l : List Arr) (hl : l.length ≤ 8) : ∀ n i : Nat, i ≤ l.length → l.length - i < n →
    ∃ e, sequence_Check.l1 k l n i = some e ∧ (e = 0 ↔ ∀ x, i ≤ x → x < l.length → ArrIn k (ar l x) ∧ ∀ j, j < x → (ar l j).1 ≠ (ar l x).1) := by
  intro n
  induction n with
  | zero => intro i _ h; omega
  | succ n ih =>
    intro i hi hn
    rw [sequence_Check.l1_succ]
    unfold sequence_Check.l1b
    by_cases hlt : i < l.length
    · rw [decide_eq_true (p := (i : Int) < ((l.length : Nat) : Int)) (by omega), decide_eq_true (p := 0 ≤ (i : Int)) (by omega)]
      simp only [Bool.and_self, cond_true, getD_nat, ar_eq]
      obtain ⟨b, hb⟩ := name_total k (by omega) (ar l i).1
      rw [hb]
      simp only [Option.bind_some]
      cases b with
      | false => exact ⟨3, rfl, ⟨fun h => absurd h (by decide), fun h => by have := (h i (by omega) hlt).1.name; rw [hb] at this; cases this⟩⟩
      | true =>
        simp only [Bool.not_true, cond_false]
        by_cases c0 : cls (ar l i).2.1
        · rw [class_pos c0]
          simp only [Option.bind_some]
          rw [cond_neg (c := (0 : Int) != 0) (by rfl)]
          by_cases c1 : (ar l i).2.2.1 < 0
          · rw [decide_eq_true c1]
            exact ⟨12, rfl, ⟨fun h => absurd h (by decide), fun h => by have := (h i (by omega) hlt).1.from0; omega⟩⟩
          rw [decide_eq_false c1]
          by_cases c2 : (ar l i).2.2.1 > (ar l i).2.2.2
          · rw [decide_eq_true c2]
            exact ⟨12, rfl, ⟨fun h => absurd h (by decide), fun h => by have := (h i (by omega) hlt).1.upTo; omega⟩⟩
          rw [decide_eq_false c2]
          by_cases c3 : (ar l i).2.2.2 > 200000
          · rw [decide_eq_true c3]
            exact ⟨12, rfl, ⟨fun h => absurd h (by decide), fun h => by have := (h i (by omega) hlt).1.most; omega⟩⟩
          rw [decide_eq_false c3, decide_eq_true (p := (i : Int) ≤ ((l.length : Nat) : Int)) (by omega)]
          simp only [cond_false, Option.bind_some, Bool.and_self, cond_true]
          rcases qcheck_in k l hl i hlt (fun x => sequence_Check.l1 k l n x) k 0 (by omega) (by omega) with ⟨g, g2⟩ | ⟨g, g2⟩
          · rw [show ((0 : Nat) : Int) = 0 from rfl] at g
            rw [g]
            exact ⟨7, rfl, ⟨fun h => absurd h (by decide), fun h => absurd (fun j _ hj => (h i (by omega) hlt).2 j hj) g2⟩⟩
          · rw [show ((0 : Nat) : Int) = 0 from rfl] at g
            rw [g]
            obtain ⟨e, h1, h2⟩ := ih (i + 1) (by omega) (by omega)
            refine ⟨e, h1, h2.trans ⟨fun h x hx hx' => ?_, fun h x hx => h x (by omega)⟩⟩
            by_cases q : x = i
            · subst q; exact ⟨⟨hb, c0, by omega, by omega, by omega⟩, fun j hj => g2 j (by omega) hj⟩
            · exact h x (by omega) hx'
        · rw [class_neg c0]
          exact ⟨1, rfl, ⟨fun h => absurd h (by decide), fun h => absurd (h i (by omega) hlt).1.wake c0⟩⟩
    · rw [decide_eq_false (p := (i : Int) < ((l.length : Nat) : Int)) (by omega)]
      exact ⟨0, rfl, ⟨fun _ x hx hx' => by omega, fun _ => rfl⟩⟩

structure ArrOk (k : Nat) (l : List Arr) : Prop where
  len : l.length ≤ 8
  each : ∀ x, x < l.length → ArrIn k (ar l x)
  apart : ∀ x j, x < l.length → j < x → (ar l j).1 ≠ (ar l x).1

theorem qcheck_eq (k : Nat) (hk : 100 ≤ k) (l : List Arr) : ∃ e, sequence_Check.F k l = some e ∧ (e = 0 ↔ ArrOk k l) := by
  unfold sequence_Check.F
  by_cases hl : l.length ≤ 8
  · rw [cond_neg (decide_eq_false (by omega))]
    obtain ⟨e, h1, h2⟩ := qcheck_out k hk l hl k 0 (by omega) (by omega)
    exact ⟨e, h1, h2.trans ⟨fun h => ⟨hl, fun x hx => (h x (by omega) hx).1, fun x j hx hj => (h x (by omega) hx).2 j hj⟩, fun h x _ hx => ⟨h.each x hx, fun j hj => h.apart x j hx hj⟩⟩⟩
  · rw [cond_pos (decide_eq_true (by omega))]
    exact ⟨2, rfl, ⟨fun h => absurd h (by decide), fun h => absurd h.len hl⟩⟩

attribute [local irreducible] sequence_Check.F wake_Check.F

theorem both_eq (m : Nat) (hk : 95 ≤ m) (l : List Arr) (t : Tab) : ∃ e, sequence_both.F (m + 5) l t = some e ∧ (e = 0 → ArrOk (m + 5) l ∧ TabOk t) := by
  unfold sequence_both.F
  obtain ⟨e, h1, h2⟩ := qcheck_eq (m + 5) (by omega) l
  rw [h1]
  simp only [Option.bind_some]
  by_cases he : e = 0
  · subst he
    rw [cond_neg (c := (0 : Int) != 0) (by rfl)]
    rcases wcheck_cases m t with ⟨h3, h4⟩ | ⟨e', h3, h4⟩
    · rw [h3]; exact ⟨0, rfl, fun _ => ⟨h2.1 rfl, h4⟩⟩
    · rw [h4]; exact ⟨e', rfl, fun h => absurd h h3⟩
  · rw [cond_pos (c := e != 0) (by simpa using he)]
    exact ⟨e, rfl, fun h => absurd h he⟩

/-! ### Orders -/

theorem index_loop (k : Nat) (a : List Int) (hl : a.length ≤ 256) (x : Int) : ∀ n i : Nat, i ≤ a.length → a.length - i < n →
    ∃ r, slices_Index_int.l0 k a x n i = some r ∧ ((r = -1 ∧ ∀ j, i ≤ j → j < a.length → a.getD j 0 ≠ x) ∨ ∃ j : Nat, r = j ∧ i ≤ j ∧ j < a.length ∧ a.getD j 0 = x ∧ ∀ q, i ≤ q → q < j → a.getD q 0 ≠ x) := by
  intro n
  induction n with
  | zero => intro i _ h; omega
  | succ n ih =>
    intro i hi hn
    rw [slices_Index_int.l0_succ]
    unfold slices_Index_int.l0b
    by_cases hlt : i < a.length
    · rw [cond_pos (decide_eq_true (by omega)), cond_pos (inIdx (by omega) (by omega)), getD_nat, show w64 ((i : Int) + 1) = ((i + 1 : Nat) : Int) from w64_id (by omega) (by omega)]
      by_cases hc : x = a.getD i 0
      · rw [cond_pos (by simpa using hc)]
        exact ⟨_, rfl, .inr ⟨i, rfl, by omega, hlt, hc.symm, fun q h1 h2 => by omega⟩⟩
      · rw [cond_neg (by simpa using hc)]
        obtain ⟨r, h1, h2⟩ := ih (i + 1) (by omega) (by omega)
        refine ⟨r, h1, ?_⟩
        have ne : ∀ q, i ≤ q → (q = i ∨ a.getD q 0 ≠ x) → a.getD q 0 ≠ x := fun q _ h => by
          rcases h with rfl | h
          · exact fun e => hc e.symm
          · exact h
        rcases h2 with ⟨h2, h3⟩ | ⟨j, h2, h3, h4, h5, h6⟩
        · exact .inl ⟨h2, fun j hj hj' => ne j hj (by by_cases e : j = i; exact .inl e; exact .inr (h3 j (by omega) hj'))⟩
        · exact .inr ⟨j, h2, by omega, h4, h5, fun q hq hq' => ne q hq (by by_cases e : q = i; exact .inl e; exact .inr (h6 q (by omega) hq'))⟩
    · rw [cond_neg (decide_eq_false (by omega))]
      exact ⟨-1, rfl, .inl ⟨rfl, fun j h1 h2 => by omega⟩⟩

theorem index_eq (k : Nat) (hk : 300 ≤ k) (a : List Int) (hl : a.length ≤ 256) (x : Int) :
    ∃ r, slices_Index_int.F k a x = some r ∧ ((r = -1 ∧ x ∉ a) ∨ ∃ j : Nat, r = j ∧ j < a.length ∧ a.getD j 0 = x ∧ ∀ q, q < j → a.getD q 0 ≠ x) := by
  obtain ⟨r, h1, h2⟩ := index_loop k a hl x k 0 (by omega) (by omega)
  refine ⟨r, h1, ?_⟩
  rcases h2 with ⟨h2, h3⟩ | ⟨j, h2, _, h4, h5, h6⟩
  · refine .inl ⟨h2, fun hx => ?_⟩
    obtain ⟨j, hj, e⟩ := List.mem_iff_getElem.1 hx
    exact h3 j (by omega) hj (by rw [getD_get _ hj, e])
  · exact .inr ⟨j, h2, h4, h5, fun q hq => h6 q (by omega) hq⟩

attribute [local irreducible] slices_Index_int.F

theorem contains_eq (k : Nat) (hk : 300 ≤ k) (a : List Int) (hl : a.length ≤ 256) (x : Int) : slices_Contains_int.F k a x = some (decide (x ∈ a)) := by
  unfold slices_Contains_int.F
  obtain ⟨r, h1, h2⟩ := index_eq k hk a hl x
  rw [h1]
  simp only [Option.bind_some, Option.some.injEq]
  rcases h2 with ⟨rfl, h⟩ | ⟨j, rfl, h1, h2, _⟩
  · rw [decide_eq_false h]; rfl
  · rw [decide_eq_true (p := (j : Int) ≥ 0) (by omega), decide_eq_true (p := x ∈ a) (by rw [← h2]; exact getD_mem _ h1)]

attribute [local irreducible] slices_Contains_int.F

/-- An order of n: each index once. -/
def IsPerm (a : List Int) (n : Nat) : Prop := a.length = n ∧ (∀ x ∈ a, 0 ≤ x ∧ x < n) ∧ a.Nodup

theorem perm_loop (k : Nat) (hk : 300 ≤ k) (a : List Int) (hl : a.length ≤ 256) (m : Int) : ∀ n i : Nat, i ≤ a.length → a.length - i < n →
    ∃ b, sequence_permutation.l0 k a m n i = some b ∧ (b = true ↔ ∀ j, i ≤ j → j < a.length → (0 ≤ a.getD j 0 ∧ a.getD j 0 < m) ∧ a.getD j 0 ∉ a.take j) := by
  intro n
  induction n with
  | zero => intro i _ h; omega
  | succ n ih =>
    intro i hi hn
    rw [sequence_permutation.l0_succ]
    unfold sequence_permutation.l0b
    by_cases hlt : i < a.length
    · rw [cond_pos (decide_eq_true (by omega)), cond_pos (inIdx (by omega) (by omega)), getD_nat, show w64 ((i : Int) + 1) = ((i + 1 : Nat) : Int) from w64_id (by omega) (by omega), Int.toNat_natCast]
      by_cases c1 : a.getD i 0 < 0
      · rw [decide_eq_true c1]
        exact ⟨false, rfl, ⟨fun h => (by cases h), fun h => absurd (h i (by omega) hlt).1.1 (by omega)⟩⟩
      rw [decide_eq_false c1]
      by_cases c2 : a.getD i 0 ≥ m
      · rw [decide_eq_true c2]
        exact ⟨false, rfl, ⟨fun h => (by cases h), fun h => absurd (h i (by omega) hlt).1.2 (by omega)⟩⟩
      rw [decide_eq_false c2, decide_eq_true (p := 0 ≤ (i : Int)) (by omega), decide_eq_true (p := (i : Int) ≤ ((a.length : Nat) : Int)) (by omega), contains_eq k hk _ (by rw [List.length_take]; omega)]
      simp only [cond_false, Option.bind_some, Bool.and_self, cond_true]
      by_cases c3 : a.getD i 0 ∈ a.take i
      · rw [decide_eq_true c3]
        exact ⟨false, rfl, ⟨fun h => (by cases h), fun h => absurd c3 (h i (by omega) hlt).2⟩⟩
      · rw [decide_eq_false c3]
        obtain ⟨b, h1, h2⟩ := ih (i + 1) (by omega) (by omega)
        refine ⟨b, h1, h2.trans ⟨fun h j hj hj' => ?_, fun h j hj => h j (by omega)⟩⟩
        by_cases e : j = i
        · subst e; exact ⟨⟨by omega, by omega⟩, c3⟩
        · exact h j (by omega) hj'
    · rw [cond_neg (decide_eq_false (by omega))]
      exact ⟨true, rfl, ⟨fun _ j h1 h2 => by omega, fun _ => rfl⟩⟩

theorem perm_eq (k : Nat) (hk : 300 ≤ k) (a : List Int) (n : Nat) (hn : n ≤ 8) : ∃ b, sequence_permutation.F k a ((n : Nat) : Int) = some b ∧ (b = true ↔ IsPerm a n) := by
  unfold sequence_permutation.F
  by_cases hl : a.length = n
  · rw [cond_neg (c := ((a.length : Nat) : Int) != ((n : Nat) : Int)) (by simp [hl])]
    obtain ⟨b, h1, h2⟩ := perm_loop k hk a (by omega) n k 0 (by omega) (by omega)
    refine ⟨b, h1, h2.trans ⟨fun h => ⟨hl, fun x hx => ?_, ?_⟩, fun h j _ hj => ⟨h.2.1 _ (getD_mem _ hj), ?_⟩⟩⟩
    · obtain ⟨j, hj, e⟩ := List.mem_iff_getElem.1 hx
      have := (h j (by omega) hj).1
      rwa [getD_get _ hj, e] at this
    · unfold List.Nodup
      rw [List.pairwise_iff_getElem]
      intro i j hi hj hij e
      have := (h j (by omega) hj).2
      rw [getD_get _ hj] at this
      refine this (List.mem_of_getElem? (i := i) ?_)
      rw [List.getElem?_take, if_pos hij, List.getElem?_eq_getElem hi, e]
    · intro hm
      obtain ⟨i, hi, e⟩ := List.mem_iff_getElem.1 hm
      rw [List.getElem_take, getD_get _ hj] at e
      have hij : i < j := by rw [List.length_take] at hi; omega
      exact List.pairwise_iff_getElem.1 h.2.2 i j (by omega) hj hij e
  · rw [cond_pos (c := ((a.length : Nat) : Int) != ((n : Nat) : Int)) (by simpa using fun e => hl (by omega))]
    exact ⟨false, rfl, ⟨fun h => (by cases h), fun h => absurd h.1 hl⟩⟩

/-! ### Landing times -/

/-- The landing time of arrival x behind arrival i, which lands at a time. -/
def nxt (l : List Arr) (t : Tab) (i x at_ : Int) : Int := if i < 0 then (ar l x.toNat).2.2.1 else mx (ar l x.toNat).2.2.1 (at_ + tab t (ar l i.toNat).2.1 (ar l x.toNat).2.1)

theorem next_eq (k : Nat) {q : Nat} {l : List Arr} {t : Tab} (hl : ArrOk q l) (ht : TabOk t) {i x at_ : Int} (hx : 0 ≤ x ∧ x < l.length) (hi : i < l.length) (ha : 0 ≤ at_ ∧ at_ ≤ 1000000) : sequence_next.F k l t i x at_ = some (nxt l t i x at_) := by
  unfold sequence_next.F nxt
  have hx' : x.toNat < l.length := by omega
  have cx := hl.each _ hx'
  rw [ar_eq, cond_pos (c := decide (0 ≤ x) && decide (x < ((l.length : Nat) : Int))) (inIdx hx.1 hx.2)]
  by_cases h : i < 0
  · rw [cond_pos (decide_eq_true h), if_pos h]
  · rw [cond_neg (decide_eq_false h), if_neg h, ar_eq]
    have ci := hl.each i.toNat (by omega)
    have hb := ht.least _ _ ci.wake.1 ci.wake.2 cx.wake.1 cx.wake.2
    rw [cond_pos (c := decide (0 ≤ x) && decide (x < ((l.length : Nat) : Int))) (inIdx hx.1 hx.2), cond_pos (inIdx (by omega) hi), cond_pos (c := decide (0 ≤ x) && decide (x < ((l.length : Nat) : Int))) (inIdx hx.1 hx.2), cond_pos (inIdx ci.wake.1 (by have := ci.wake.2; omega)), cond_pos (inIdx cx.wake.1 (by have := cx.wake.2; omega)), cond_pos (tab_in ci.wake cx.wake)]
    show some (mx _ (w64 (at_ + tab t (ar l i.toNat).2.1 (ar l x.toNat).2.1))) = _
    rw [w64_id (by omega) (by omega)]

theorem mx_cases (a b : Int) : (a ≤ b ∧ mx a b = b) ∨ (b ≤ a ∧ mx a b = a) := by
  unfold mx
  split
  · left; omega
  · right; omega

theorem nxt_bounds {k : Nat} {l : List Arr} {t : Tab} (hl : ArrOk k l) (ht : TabOk t) {i x at_ : Int} (hx : 0 ≤ x ∧ x < l.length) (hi : i < l.length) (ha : 0 ≤ at_ ∧ at_ ≤ 200000) :
    (ar l x.toNat).2.2.1 ≤ nxt l t i x at_ ∧ 0 ≤ nxt l t i x at_ ∧ nxt l t i x at_ ≤ 200600 ∧ (0 ≤ i → at_ + tab t (ar l i.toNat).2.1 (ar l x.toNat).2.1 ≤ nxt l t i x at_ ∧ at_ < nxt l t i x at_) := by
  have cx := hl.each x.toNat (by omega)
  have q1 := cx.from0; have q2 := cx.upTo; have q3 := cx.most
  unfold nxt
  by_cases h : i < 0
  · rw [if_pos h]; exact ⟨by omega, by omega, by omega, fun h' => by omega⟩
  · rw [if_neg h]
    have ci := hl.each i.toNat (by omega)
    have hb := ht.least _ _ ci.wake.1 ci.wake.2 cx.wake.1 cx.wake.2
    rcases mx_cases (ar l x.toNat).2.2.1 (at_ + tab t (ar l i.toNat).2.1 (ar l x.toNat).2.1) with ⟨g, e⟩ | ⟨g, e⟩ <;> rw [e] <;> exact ⟨by omega, by omega, by omega, fun _ => ⟨by omega, by omega⟩⟩

/-- The landing times of an order; nothing, where one is too late. -/
def timesL (l : List Arr) (t : Tab) : List Int → Int → Int → Option (List Int)
  | [], _, _ => some []
  | x :: r, i, at_ => if nxt l t i x at_ > (ar l x.toNat).2.2.2 then none else (timesL l t r x (nxt l t i x at_)).map (nxt l t i x at_ :: ·)

attribute [local irreducible] sequence_next.F

theorem times_loop (k : Nat) {q : Nat} {l : List Arr} {t : Tab} (hl : ArrOk q l) (ht : TabOk t) (o : List Int) (ho : IsPerm o l.length) : ∀ (n i : Nat) (last at_ : Int) (out : List Int), i ≤ o.length → o.length - i < n → out.length = i → last < l.length → 0 ≤ at_ → at_ ≤ 200000 →
    sequence_Times.l0 k l o t n ((last, at_, i), out) = some (match timesL l t (o.drop i) last at_ with | some r => (out ++ r, 0) | none => ([], 8)) := by
  intro n
  induction n with
  | zero => intro i _ _ _ _ h; omega
  | succ n ih =>
    intro i last at_ out hi hn hout hlast ha0 ha
    have h8 : o.length ≤ 8 := by rw [ho.1]; exact hl.len
    rw [sequence_Times.l0_succ]
    unfold sequence_Times.l0b
    dsimp only
    by_cases hlt : i < o.length
    · have hx := ho.2.1 _ (getD_mem 0 hlt)
      rw [cond_pos (decide_eq_true (by omega)), cond_pos (inIdx (by omega) (by omega)), getD_nat, next_eq k hl ht hx hlast ⟨ha0, by omega⟩]
      simp only [Option.bind_some]
      rw [cond_pos (inIdx hx.1 hx.2), ar_eq, drop_cons hlt 0]
      simp only [timesL]
      by_cases hc : nxt l t last (o.getD i 0) at_ > (ar l (o.getD i 0).toNat).2.2.2
      · rw [cond_pos (decide_eq_true hc), if_pos hc]
      · rw [cond_neg (decide_eq_false hc), if_neg hc, cond_pos (Nat.ble_eq_true_of_le (by omega)), show w64 ((i : Int) + 1) = ((i + 1 : Nat) : Int) from w64_id (by omega) (by omega)]
        have hb := nxt_bounds hl ht hx hlast ⟨ha0, ha⟩
        have hm := (hl.each (o.getD i 0).toNat (by omega)).most
        rw [ih (i + 1) _ _ _ (by omega) (by omega) (by simp [hout]) hx.2 hb.2.1 (by omega)]
        cases timesL l t (o.drop (i + 1)) (o.getD i 0) (nxt l t last (o.getD i 0) at_) with
        | none => rfl
        | some r => simp
    · rw [cond_neg (decide_eq_false (by omega)), List.drop_eq_nil_of_le (by omega)]
      simp [timesL]

attribute [local irreducible] sequence_both.F sequence_permutation.F

theorem times_of (m : Nat) (hm : 400 ≤ m) {l : List Arr} {o : List Int} {t : Tab} (hb : sequence_both.F (m + 5) l t = some 0) {q : Nat} (hl : ArrOk q l) (ht : TabOk t) (ho : IsPerm o l.length) :
    sequence_Times.F (m + 5) l o t = some (match timesL l t o (-1) 0 with | some r => (r, 0) | none => ([], 8)) := by
  unfold sequence_Times.F
  rw [hb]
  simp only [Option.bind_some]
  rw [cond_neg (c := (0 : Int) != 0) (by rfl)]
  obtain ⟨b, h3, h4⟩ := perm_eq (m + 5) (by omega) o l.length hl.len
  rw [h3, h4.2 ho]
  simp only [Option.bind_some]
  rw [cond_neg (c := !true) (by rfl)]
  have := times_loop (m + 5) hl ht o ho (m + 5) 0 (-1) 0 [] (by omega) (by have := hl.len; have := ho.1; omega) rfl (by omega) (by omega) (by omega)
  rw [show ((0 : Nat) : Int) = 0 from rfl, List.drop_zero] at this
  rw [this]
  cases timesL l t o (-1) 0 <;> simp

theorem times_eq (m : Nat) (hm : 400 ≤ m) (l : List Arr) (o : List Int) (t : Tab) :
    (∃ e, e ≠ 0 ∧ sequence_Times.F (m + 5) l o t = some ([], e)) ∨
    (ArrOk (m + 5) l ∧ TabOk t ∧ IsPerm o l.length ∧ sequence_both.F (m + 5) l t = some 0 ∧ ∃ r, timesL l t o (-1) 0 = some r ∧ sequence_Times.F (m + 5) l o t = some (r, 0)) := by
  unfold sequence_Times.F
  obtain ⟨e, h1, h2⟩ := both_eq m (by omega) l t
  rw [h1]
  simp only [Option.bind_some]
  by_cases he : e = 0
  · subst he
    obtain ⟨hl, ht⟩ := h2 rfl
    rw [cond_neg (c := (0 : Int) != 0) (by rfl)]
    obtain ⟨b, h3, h4⟩ := perm_eq (m + 5) (by omega) o l.length hl.len
    rw [h3]
    simp only [Option.bind_some]
    cases b with
    | false => exact .inl ⟨3, by decide, rfl⟩
    | true =>
      have ho := h4.1 rfl
      rw [cond_neg (c := !true) (by rfl)]
      have := times_loop (m + 5) hl ht o ho (m + 5) 0 (-1) 0 [] (by omega) (by have := hl.len; have := ho.1; omega) rfl (by omega) (by omega) (by omega)
      rw [show ((0 : Nat) : Int) = 0 from rfl, List.drop_zero] at this
      rw [this]
      cases hr : timesL l t o (-1) 0 with
      | none => exact .inl ⟨8, by decide, rfl⟩
      | some r => exact .inr ⟨hl, ht, ho, trivial, r, rfl, by simp⟩
  · rw [cond_pos (c := e != 0) (by simpa using he)]
    exact .inl ⟨e, he, rfl⟩

end Go.Proofs.Ytlaejfnmhfkdpaa.RT
