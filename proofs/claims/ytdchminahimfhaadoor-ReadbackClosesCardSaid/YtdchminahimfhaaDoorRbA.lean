/- What is proved here: what the checks, the search and the changes of open clearances come to. They ask nothing. -/
import Derived.Test.YtdchminahimfhaaDoorRbT
import Derived.Test.YtdchminahimfhaaDoorPlA
import Derived.Test.YtdchminahimfhaaDoorNameA
namespace Go.Proofs.YtdchminahimfhaaDoor.RT
open Go Go.R

attribute [local irreducible] chart_Name.F

theorem oname_total (k : Nat) (hk : 10 ≤ k) (s : ByteArray) : ∃ b, owner_Name.F k s = some b := by
  obtain ⟨b, hb⟩ := cname_total k hk s
  refine ⟨b, ?_⟩
  unfold owner_Name.F sector_Name.F
  rw [hb]
  rfl

attribute [local irreducible] owner_Name.F

theorem ba_inj {a b : ByteArray} (h : a.toList = b.toList) : a = b := by
  rw [ByteArray.toList_eq, ByteArray.toList_eq] at h
  exact ByteArray.ext (Array.toList_inj.1 h)
theorem ba_dec (a b : ByteArray) : (a.toList == b.toList) = decide (a = b) := by
  by_cases h : a = b
  · subst h; simp
  · rw [decide_eq_false h]
    simpa using fun e => h (ba_inj e)
theorem bb_dec (a b : ByteArray) : (a == b) = decide (a = b) := by
  obtain ⟨x⟩ := a
  obtain ⟨y⟩ := b
  by_cases h : x = y
  · subst h
    rw [decide_eq_true rfl]
    exact beq_self_eq_true x
  · rw [decide_eq_false (fun e => h (by cases e; rfl))]
    exact (beq_false_of_ne h : (x == y) = false)

theorem kind_loop (k : Nat) (s : ByteArray) : ∀ n i : Nat, i ≤ 7 → 7 - i < n → ∃ v, phrase_kind.l0 k s n i = some v := by
  intro n
  induction n with
  | zero => intro i _ h; omega
  | succ n ih =>
    intro i hi hn
    rw [phrase_kind.l0_succ]
    unfold phrase_kind.l0b
    by_cases hlt : i < 7
    · rw [decide_eq_true (p := (i : Int) < 7) (by omega), decide_eq_true (p := 0 ≤ (i : Int)) (by omega), decide_eq_true (p := (i : Int) < ((7 : Nat) : Int)) (by omega), show w64 ((i : Int) + 1) = ((i + 1 : Nat) : Int) from w64_id (by omega) (by omega)]
      obtain ⟨v, hv⟩ := ih (i + 1) (by omega) (by omega)
      have hv' : (fun x => phrase_kind.l0 k s n x) ((i + 1 : Nat) : Int) = some v := hv
      rw [hv']
      simp only [Bool.and_self, cond_true, cond_some]
      exact ⟨_, rfl⟩
    · rw [decide_eq_false (p := (i : Int) < 7) (by omega)]
      exact ⟨-1, rfl⟩

theorem plain_total (k : Nat) (hk : 10 ≤ k) (s : ByteArray) : ∃ b, phrase_plain.F k s = some b := by
  unfold phrase_plain.F phrase_kind.F
  obtain ⟨b, hb⟩ := oname_total k hk s
  obtain ⟨v, hv⟩ := kind_loop k s k 0 (by omega) (by omega)
  rw [show ((0 : Nat) : Int) = 0 from rfl] at hv
  rw [hb, hv]
  cases b <;> exact ⟨_, rfl⟩

attribute [local irreducible] phrase_plain.F

abbrev Cl := ByteArray × Int × Int × ByteArray
abbrev Ro := Cl × Int

theorem pcheck_total (k : Nat) (hk : 10 ≤ k) (c : Cl) : ∃ e, phrase_Check.F k c = some e := by
  unfold phrase_Check.F
  obtain ⟨b1, h1⟩ := plain_total k hk c.1
  obtain ⟨b2, h2⟩ := plain_total k hk c.2.2.2
  rw [h1, h2]
  simp only [Option.bind_some, cond_some]
  cases b1 with
  | false => exact ⟨_, rfl⟩
  | true =>
    simp only [Bool.not_true, cond_false]
    by_cases c1 : c.2.1 < 0
    · rw [decide_eq_true c1]; exact ⟨_, rfl⟩
    rw [decide_eq_false c1]
    by_cases c2 : c.2.1 > 6
    · rw [decide_eq_true c2]; exact ⟨_, rfl⟩
    rw [decide_eq_false c2]
    simp only [cond_false]
    by_cases c3 : c.2.1 ≥ 3
    · rw [decide_eq_true c3]
      simp only [cond_true]
      exact ⟨_, rfl⟩
    rw [decide_eq_false c3]
    simp only [cond_false]
    by_cases c4 : c.2.1 = 0
    · rw [show (c.2.1 == 0) = true from beq_iff_eq.2 c4]
      cases (!(c.2.2.2.toList == (⟨#[]⟩ : ByteArray).toList)) <;> cases decide (c.2.2.1 < 0) <;> cases decide (c.2.2.1 > 60000) <;> exact ⟨_, rfl⟩
    rw [show (c.2.1 == 0) = false from beq_false_of_ne c4]
    by_cases c5 : c.2.1 = 1
    · rw [show (c.2.1 == 1) = true from beq_iff_eq.2 c5]
      cases (!(c.2.2.2.toList == (⟨#[]⟩ : ByteArray).toList)) <;> cases decide (c.2.2.1 < 0) <;> cases decide (c.2.2.1 > 4095) <;> exact ⟨_, rfl⟩
    rw [show (c.2.1 == 1) = false from beq_false_of_ne c5, show (c.2.1 == 2) = true from beq_iff_eq.2 (by omega)]
    cases (!(c.2.2.2.toList == (⟨#[]⟩ : ByteArray).toList)) <;> cases decide (c.2.2.1 < 0) <;> cases decide (c.2.2.1 > 400) <;> exact ⟨_, rfl⟩

attribute [local irreducible] phrase_Check.F

def ro (l : List Ro) (j : Nat) : Ro := l.getD j ((ByteArray.empty, (0, (0, ByteArray.empty))), 0)
theorem ro_eq (l : List Ro) (j : Nat) : l.getD j ((ByteArray.empty, (0, (0, ByteArray.empty))), 0) = ro l j := rfl
theorem getD_mem {α : Type} {l : List α} {j : Nat} (d : α) (h : j < l.length) : l.getD j d ∈ l := by simp [List.getD, h]
theorem getD_get {α : Type} {l : List α} {j : Nat} (d : α) (h : j < l.length) : l.getD j d = l[j] := by simp [List.getD, h]
theorem ro_mem {l : List Ro} {j : Nat} (h : j < l.length) : ro l j ∈ l := getD_mem _ h
theorem ro_of {l : List Ro} {x : Ro} (h : x ∈ l) : ∃ j, j < l.length ∧ ro l j = x := by
  obtain ⟨j, hj, e⟩ := List.mem_iff_getElem.1 h
  exact ⟨j, hj, by unfold ro; rw [getD_get _ hj, e]⟩

/-- Of one flight and kind. -/
def Key (a b : Cl) : Prop := a.1 = b.1 ∧ a.2.1 = b.2.1
instance (a b : Cl) : Decidable (Key a b) := inferInstanceAs (Decidable (_ ∧ _))
theorem Key.symm {a b : Cl} (h : Key a b) : Key b a := ⟨h.1.symm, h.2.symm⟩

/-! ### Search -/

def fi (c : Cl) : List Ro → Nat
  | [] => 0
  | x :: r => if Key x.1 c then 0 else fi c r + 1

theorem fi_le (c : Cl) : ∀ s : List Ro, fi c s ≤ s.length
  | [] => Nat.le_refl _
  | x :: r => by
    simp only [fi]
    split
    · omega
    · have := fi_le c r; simp only [List.length_cons]; omega
theorem ro_cons (x : Ro) (r : List Ro) (j : Nat) : ro (x :: r) (j + 1) = ro r j := by simp [ro]
theorem fi_get (c : Cl) : ∀ {s : List Ro}, fi c s < s.length → Key (ro s (fi c s)).1 c
  | [], h => by simp [fi] at h
  | x :: r, h => by
    simp only [fi] at h ⊢
    split
    · rename_i e; exact e
    · rename_i e
      rw [if_neg e] at h
      rw [ro_cons]
      exact fi_get c (by simp only [List.length_cons] at h; omega)
theorem fi_first (c : Cl) : ∀ {s : List Ro} {j : Nat}, j < fi c s → ¬ Key (ro s j).1 c
  | [], j, h => by simp [fi] at h
  | x :: r, j, h => by
    simp only [fi] at h
    split at h
    · omega
    · rename_i e
      cases j with
      | zero => exact e
      | succ j => rw [ro_cons]; exact fi_first c (by omega)
theorem fi_none {c : Cl} {s : List Ro} (h : ∀ x ∈ s, ¬ Key x.1 c) : fi c s = s.length := by
  rcases Nat.lt_or_ge (fi c s) s.length with g | g
  · exact absurd (fi_get c g) (h _ (ro_mem g))
  · have := fi_le c s; omega
theorem fi_some {c : Cl} {s : List Ro} {j : Nat} (hj : j < s.length) (hk : Key (ro s j).1 c) (hs : ∀ i, i < j → ¬ Key (ro s i).1 c) : fi c s = j := by
  rcases Nat.lt_trichotomy (fi c s) j with g | g | g
  · exact absurd (fi_get c (by omega)) (hs _ g)
  · exact g
  · exact absurd hk (fi_first c g)

theorem find_loop (k : Nat) (s : List Ro) (hl : s.length ≤ 12) (c : Cl) : ∀ n i : Nat, i ≤ s.length → s.length - i < n →
    readback_find.l0 k s c n i = some (if fi c (s.drop i) < (s.drop i).length then ((i + fi c (s.drop i) : Nat) : Int) else -1) := by
  intro n
  induction n with
  | zero => intro i _ h; omega
  | succ n ih =>
    intro i hi hn
    rw [readback_find.l0_succ]
    unfold readback_find.l0b
    by_cases hlt : i < s.length
    · have hd := drop_cons hlt (((ByteArray.empty, (0, (0, ByteArray.empty))), 0) : Ro)
      rw [ro_eq] at hd
      rw [decide_eq_true (p := (i : Int) < ((s.length : Nat) : Int)) (by omega), decide_eq_true (p := 0 ≤ (i : Int)) (by omega)]
      simp only [Bool.and_self, cond_true, getD_nat, ro_eq]
      rw [ba_dec, hd]
      have no : fi c (ro s i :: s.drop (i + 1)) = fi c (s.drop (i + 1)) + 1 → (readback_find.l0 k s c n (w64 ((i : Int) + 1))) = some (if fi c (ro s i :: s.drop (i + 1)) < (ro s i :: s.drop (i + 1)).length then ((i + fi c (ro s i :: s.drop (i + 1)) : Nat) : Int) else -1) := fun e => by
        rw [e, List.length_cons, show w64 ((i : Int) + 1) = ((i + 1 : Nat) : Int) from w64_id (by omega) (by omega), ih (i + 1) (by omega) (by omega)]
        by_cases g : fi c (s.drop (i + 1)) < (s.drop (i + 1)).length
        · rw [if_pos g, if_pos (by omega)]
          congr 2
          omega
        · rw [if_neg g, if_neg (by omega)]
      by_cases h1 : (ro s i).1.1 = c.1
      · rw [decide_eq_true h1]
        simp only [cond_true, Option.bind_some]
        by_cases h2 : (ro s i).1.2.1 = c.2.1
        · rw [show ((ro s i).1.2.1 == c.2.1) = true from beq_iff_eq.2 h2]
          have e : fi c (ro s i :: s.drop (i + 1)) = 0 := by simp only [fi]; rw [if_pos ⟨h1, h2⟩]
          rw [e, if_pos (by simp)]
          rfl
        · rw [show ((ro s i).1.2.1 == c.2.1) = false from beq_false_of_ne h2]
          exact no (by simp only [fi]; rw [if_neg (fun q => h2 q.2)])
      · rw [decide_eq_false h1]
        exact no (by simp only [fi]; rw [if_neg (fun q => h1 q.1)])
    · rw [decide_eq_false (p := (i : Int) < ((s.length : Nat) : Int)) (by omega), List.drop_eq_nil_of_le (by omega)]
      rfl

theorem find_eq (k : Nat) (hk : 100 ≤ k) (s : List Ro) (hl : s.length ≤ 12) (c : Cl) : readback_find.F k s c = some (if fi c s < s.length then (fi c s : Int) else -1) := by
  have := find_loop k s hl c k 0 (by omega) (by omega)
  unfold readback_find.F
  simpa using this

attribute [local irreducible] readback_find.F

/-! ### The check -/

structure RoIn (k : Nat) (x : Ro) : Prop where
  chk : phrase_Check.F k x.1 = some 0
  time : 0 ≤ x.2 ∧ x.2 ≤ 200000

theorem rcheck_loop (k : Nat) (hk : 100 ≤ k) (l : List Ro) (hl : l.length ≤ 12) : ∀ n i : Nat, i ≤ l.length → l.length - i < n →
    ∃ e, readback_Check.l0 k l n i = some e ∧ (e = 0 ↔ ∀ x, i ≤ x → x < l.length → RoIn k (ro l x) ∧ (0 < x → (ro l (x - 1)).2 ≤ (ro l x).2) ∧ ∀ j, j < x → ¬ Key (ro l j).1 (ro l x).1) := by
  intro n
  induction n with
  | zero => intro i _ h; omega
  | succ n ih =>
    intro i hi hn
    rw [readback_Check.l0_succ]
    unfold readback_Check.l0b
    by_cases hlt : i < l.length
    · rw [decide_eq_true (p := (i : Int) < ((l.length : Nat) : Int)) (by omega), decide_eq_true (p := 0 ≤ (i : Int)) (by omega)]
      simp only [Bool.and_self, cond_true, getD_nat, ro_eq]
      rw [show ((ro l i).1.1, ((ro l i).1.2.1, (ro l i).1.2.2)) = (ro l i).1 from rfl]
      obtain ⟨e, he⟩ := pcheck_total k (by omega) (ro l i).1
      rw [he]
      simp only [Option.bind_some]
      by_cases z : e ≠ 0
      · rw [cond_pos (c := e != 0) (by simpa using z)]
        exact ⟨e, rfl, ⟨fun h => absurd h z, fun h => by have := (h i (by omega) hlt).1.chk; rw [he] at this; exact absurd (Option.some.inj this) z⟩⟩
      replace z := Decidable.not_not.1 z
      subst z
      rw [cond_neg (c := (0 : Int) != 0) (by rfl)]
      by_cases c1 : (ro l i).2 < 0
      · rw [decide_eq_true c1]
        exact ⟨12, rfl, ⟨fun h => absurd h (by decide), fun h => by have := (h i (by omega) hlt).1.time.1; omega⟩⟩
      rw [decide_eq_false c1]
      by_cases c2 : (ro l i).2 > 200000
      · rw [decide_eq_true c2]
        exact ⟨12, rfl, ⟨fun h => absurd h (by decide), fun h => by have := (h i (by omega) hlt).1.time.2; omega⟩⟩
      rw [decide_eq_false c2]
      simp only [cond_false]
      have hX : (bif decide ((i : Int) > 0) then bif decide (0 ≤ w64 ((i : Int) - 1)) && decide (w64 ((i : Int) - 1) < ((l.length : Nat) : Int)) then some (Sum.inl (decide ((ro l i).2 < (ro l (w64 ((i : Int) - 1)).toNat).2))) else none else some (Sum.inl false) : Option (Bool ⊕ Int)) = some (Sum.inl (decide (0 < i ∧ (ro l i).2 < (ro l (i - 1)).2))) := by
        by_cases hz : i = 0
        · subst hz
          rw [decide_eq_false (p := 0 < 0 ∧ (ro l 0).2 < (ro l (0 - 1)).2) (by omega)]
          rfl
        · rw [decide_eq_true (p := (i : Int) > 0) (by omega), w64_id (n := (i : Int) - 1) (by omega) (by omega), inIdx (n := l.length) (by omega) (by omega), show ((i : Int) - 1).toNat = i - 1 by omega]
          simp only [cond_true]
          congr 3
          exact propext ⟨fun h => ⟨by omega, h⟩, fun h => h.2⟩
      rw [hX]
      simp only [Option.bind_some]
      by_cases c3 : 0 < i ∧ (ro l i).2 < (ro l (i - 1)).2
      · rw [decide_eq_true c3]
        exact ⟨12, rfl, ⟨fun h => absurd h (by decide), fun h => by have := (h i (by omega) hlt).2.1 c3.1; omega⟩⟩
      rw [decide_eq_false c3, decide_eq_true (p := (i : Int) ≤ ((l.length : Nat) : Int)) (by omega)]
      simp only [cond_false]
      rw [Int.toNat_natCast, find_eq k hk (l.take i) (by simp; omega)]
      simp only [Option.bind_some]
      have hll : (l.take i).length = i := by simp; omega
      have hro : ∀ j, j < i → ro (l.take i) j = ro l j := fun j hj => by
        unfold ro
        rw [List.getD_eq_getElem?_getD, List.getElem?_take, if_pos hj, ← List.getD_eq_getElem?_getD]
      rw [hll]
      by_cases c4 : fi (ro l i).1 (l.take i) < i
      · rw [if_pos c4, decide_eq_true (p := ((fi (ro l i).1 (l.take i) : Nat) : Int) ≥ 0) (by omega)]
        refine ⟨7, rfl, ⟨fun h => absurd h (by decide), fun h => ?_⟩⟩
        have h1 := fi_get (ro l i).1 (s := l.take i) (by omega)
        rw [hro _ c4] at h1
        exact absurd h1 ((h i (by omega) hlt).2.2 _ c4)
      · rw [if_neg c4, decide_eq_false (p := (-1 : Int) ≥ 0) (by omega), show w64 ((i : Int) + 1) = ((i + 1 : Nat) : Int) from w64_id (by omega) (by omega)]
        obtain ⟨e, h1, h2⟩ := ih (i + 1) (by omega) (by omega)
        refine ⟨e, h1, h2.trans ⟨fun h x hx hx' => ?_, fun h x hx => h x (by omega)⟩⟩
        by_cases q : x = i
        · subst q
          refine ⟨⟨he, by omega, by omega⟩, fun h0 => ?_, fun j hj => ?_⟩
          · have : ¬ (ro l x).2 < (ro l (x - 1)).2 := fun g => c3 ⟨h0, g⟩
            omega
          · have := fi_first (ro l x).1 (s := l.take x) (j := j) (by omega)
            rwa [hro _ hj] at this
        · exact h x (by omega) hx'
    · rw [decide_eq_false (p := (i : Int) < ((l.length : Nat) : Int)) (by omega)]
      exact ⟨0, rfl, ⟨fun _ x hx hx' => by omega, fun _ => rfl⟩⟩

structure RbOk (k : Nat) (l : List Ro) : Prop where
  len : l.length ≤ 12
  each : ∀ x ∈ l, RoIn k x
  ord : l.Pairwise fun a b => a.2 ≤ b.2
  apart : l.Pairwise fun a b => ¬ Key a.1 b.1

theorem rcheck_eq (k : Nat) (hk : 100 ≤ k) (l : List Ro) : ∃ e, readback_Check.F k l = some e ∧ (e = 0 ↔ RbOk k l) := by
  unfold readback_Check.F
  by_cases hl : l.length ≤ 12
  · rw [cond_neg (decide_eq_false (by omega))]
    obtain ⟨e, h1, h2⟩ := rcheck_loop k hk l hl k 0 (by omega) (by omega)
    refine ⟨e, h1, h2.trans ⟨fun h => ⟨hl, fun x hx => ?_, ?_, ?_⟩, fun h x _ hx => ⟨h.each _ (ro_mem hx), fun h0 => ?_, fun j hj => ?_⟩⟩⟩
    · obtain ⟨j, hj, e⟩ := ro_of hx
      rw [← e]
      exact (h j (by omega) hj).1
    · have mono : ∀ j, j < l.length → ∀ i, i < j → (ro l i).2 ≤ (ro l j).2 := by
        intro j
        induction j with
        | zero => intro _ i hi; omega
        | succ j ih =>
          intro hj i hi
          have h1 := (h (j + 1) (by omega) hj).2.1 (by omega)
          rw [Nat.add_sub_cancel] at h1
          by_cases e : i = j
          · subst e; exact h1
          · have := ih (by omega) i (by omega)
            omega
      rw [List.pairwise_iff_getElem]
      intro i j hi hj hij
      have := mono j hj i hij
      unfold ro at this
      rwa [getD_get _ hj, getD_get _ hi] at this
    · rw [List.pairwise_iff_getElem]
      intro i j hi hj hij
      have := (h j (by omega) hj).2.2 i hij
      unfold ro at this
      rwa [getD_get _ hj, getD_get _ hi] at this
    · have := List.pairwise_iff_getElem.1 h.ord (x - 1) x (by omega) hx (by omega)
      unfold ro
      rwa [getD_get _ hx, getD_get _ (show x - 1 < l.length by omega)]
    · have := List.pairwise_iff_getElem.1 h.apart j x (by omega) hx hj
      unfold ro
      rwa [getD_get _ hx, getD_get _ (show j < l.length by omega)]
  · rw [cond_pos (decide_eq_true (by omega))]
    exact ⟨2, rfl, ⟨fun h => absurd h (by decide), fun h => absurd h.len hl⟩⟩

theorem rcheck_ok (k : Nat) (hk : 100 ≤ k) (l : List Ro) (h : RbOk k l) : readback_Check.F k l = some 0 := by
  obtain ⟨e, h1, h2⟩ := rcheck_eq k hk l
  rw [h1, h2.2 h]

attribute [local irreducible] readback_Check.F

theorem RbOk.sub {k : Nat} {l l' : List Ro} (h : RbOk k l) (hs : l'.Sublist l) : RbOk k l' :=
  ⟨Nat.le_trans hs.length_le h.len, fun x hx => h.each x (hs.subset hx), h.ord.sublist hs, h.apart.sublist hs⟩

/-- No open clearance is of a later time. -/
def Early (l : List Ro) (t : Int) : Prop := 0 ≤ t ∧ t ≤ 200000 ∧ ∀ x ∈ l, x.2 ≤ t

theorem early_eq (k : Nat) {l : List Ro} (h : RbOk k l) (t : Int) : ∃ e, readback_early.F k l t = some e ∧ (e = 0 ↔ Early l t) := by
  have hlen := h.len
  unfold readback_early.F
  by_cases c1 : t < 0
  · rw [decide_eq_true c1]
    exact ⟨12, rfl, ⟨fun h => absurd h (by decide), fun h => by have := h.1; omega⟩⟩
  rw [decide_eq_false c1]
  by_cases c2 : t > 200000
  · rw [decide_eq_true c2]
    exact ⟨12, rfl, ⟨fun h => absurd h (by decide), fun h => by have := h.2.1; omega⟩⟩
  rw [decide_eq_false c2]
  simp only [cond_false, Option.bind_some]
  by_cases hz : l = []
  · subst hz
    exact ⟨0, rfl, ⟨fun _ => ⟨by omega, by omega, fun x hx => by cases hx⟩, fun _ => rfl⟩⟩
  · have hpos : 0 < l.length := List.length_pos_iff.2 hz
    rw [decide_eq_true (p := ((l.length : Nat) : Int) > 0) (by omega), w64_id (n := ((l.length : Nat) : Int) - 1) (by omega) (by omega), inIdx (n := l.length) (i := ((l.length : Nat) : Int) - 1) (by omega) (by omega), show (((l.length : Nat) : Int) - 1).toNat = l.length - 1 by omega, ro_eq]
    simp only [cond_true, Option.bind_some]
    have hlast : ∀ x ∈ l, x.2 ≤ (ro l (l.length - 1)).2 := fun x hx => by
      obtain ⟨j, hj, e⟩ := ro_of hx
      rw [← e]
      by_cases q : j = l.length - 1
      · rw [q]; exact Int.le_refl _
      · have := List.pairwise_iff_getElem.1 h.ord j (l.length - 1) hj (by omega) (by omega)
        unfold ro
        rwa [getD_get _ hj, getD_get _ (show l.length - 1 < l.length by omega)]
    by_cases c3 : t < (ro l (l.length - 1)).2
    · rw [decide_eq_true c3]
      exact ⟨12, rfl, ⟨fun h => absurd h (by decide), fun h => by have := h.2.2 _ (ro_mem (show l.length - 1 < l.length by omega)); omega⟩⟩
    · rw [decide_eq_false c3]
      exact ⟨0, rfl, ⟨fun _ => ⟨by omega, by omega, fun x hx => by have := hlast x hx; omega⟩, fun _ => rfl⟩⟩

attribute [local irreducible] readback_early.F

theorem rclone (k : Nat) (l : List Ro) (h : l.length ≤ 12) : slices_Clone_api_ReadbackOpen.F k l = some l := by
  unfold slices_Clone_api_ReadbackOpen.F
  rw [cond_pos (Nat.ble_eq_true_of_le (by omega)), List.nil_append]

theorem delete_ro (k : Nat) (l : List Ro) (hl : l.length ≤ 12) (j : Nat) (hj : j < l.length) : slices_Delete_api_ReadbackOpen.F k l j (w64 ((j : Int) + 1)) = some (l.take j ++ l.drop (j + 1)) := by
  unfold slices_Delete_api_ReadbackOpen.F
  have e1 : (l.drop (j + 1)).length = l.length - (j + 1) := List.length_drop
  have e2 : (l.take j).length = j := by rw [List.length_take]; omega
  rw [show w64 ((j : Int) + 1) = ((j + 1 : Nat) : Int) from w64_id (by omega) (by omega)]
  simp only [Int.toNat_natCast]
  rw [decide_eq_true (p := 0 ≤ (j : Int)) (by omega), decide_eq_true (p := (j : Int) ≤ ((j + 1 : Nat) : Int)) (by omega), decide_eq_true (p := ((j + 1 : Nat) : Int) ≤ ((l.length : Nat) : Int)) (by omega), decide_eq_true (p := ((l.length : Nat) : Int) ≤ ((l.length : Nat) : Int)) (by omega), decide_eq_true (p := (j : Int) ≤ ((l.length : Nat) : Int)) (by omega), decide_eq_true (p := 0 ≤ ((j + 1 : Nat) : Int)) (by omega), beq_false_of_ne (show (j : Int) ≠ ((j + 1 : Nat) : Int) by omega), Nat.ble_eq_true_of_le (show j + (l.drop (j + 1)).length ≤ l.length by omega)]
  simp only [Bool.and_self, cond_true, cond_false]
  rw [cond_pos (c := _ && _)]
  · congr 1
    rw [List.append_assoc, List.take_append_of_le_length (by simp; omega), List.take_take]
    rw [show min (j + (l.drop (j + 1)).length) (j + (l.drop (j + 1)).length - 0) = j + (l.drop (j + 1)).length by omega]
    rw [List.take_append_of_le_length (by rw [List.length_append, e2]; omega)]
    exact List.take_of_length_le (by rw [List.length_append, e2]; omega)
  · simp
    omega

theorem cl_dec (a b : Cl) : ((a.1 == b.1) && ((a.2.1 == b.2.1) && ((a.2.2.1 == b.2.2.1) && (a.2.2.2 == b.2.2.2)))) = decide (a = b) := by
  obtain ⟨a1, a2, a3, a4⟩ := a
  obtain ⟨b1, b2, b3, b4⟩ := b
  dsimp only
  rw [bb_dec, bb_dec]
  by_cases h : ((a1, (a2, (a3, a4))) : Cl) = (b1, (b2, (b3, b4)))
  · rw [decide_eq_true h]
    cases h
    simp
  · rw [decide_eq_false h]
    simp only [Prod.mk.injEq, not_and] at h
    by_cases e1 : a1 = b1
    · by_cases e2 : a2 = b2
      · by_cases e3 : a3 = b3
        · have := h e1 e2 e3
          simp [e1, e2, e3, this]
        · simp [e3]
      · simp [e2]
    · simp [e1]

attribute [local irreducible] slices_Clone_api_ReadbackOpen.F slices_Delete_api_ReadbackOpen.F

/-- What is left where an open clearance of that flight and kind is taken out. -/
def without (c : Cl) (l : List Ro) : List Ro := if fi c l < l.length then l.take (fi c l) ++ l.drop (fi c l + 1) else l

theorem split_ro (l : List Ro) (j : Nat) (hj : j < l.length) : l = l.take j ++ ro l j :: l.drop (j + 1) := by
  conv => lhs; rw [← List.take_append_drop j l, drop_cons hj (((ByteArray.empty, (0, (0, ByteArray.empty))), 0) : Ro), ro_eq]

theorem without_sub (c : Cl) (l : List Ro) : (without c l).Sublist l := by
  unfold without
  split
  · rename_i h
    conv => rhs; rw [split_ro l _ h]
    exact List.Sublist.append_left (List.sublist_cons_self _ _) _
  · exact List.Sublist.refl _

theorem without_key {k : Nat} {c : Cl} {l : List Ro} (h : RbOk k l) : ∀ x ∈ without c l, ¬ Key x.1 c := by
  unfold without
  by_cases g : fi c l < l.length
  · rw [if_pos g]
    intro x hx hk
    have hkey := fi_get c g
    have hap := h.apart
    rw [split_ro l _ g] at hap
    obtain ⟨_, h2, h3⟩ := List.pairwise_append.1 hap
    rcases List.mem_append.1 hx with hx | hx
    · exact h3 x hx _ (List.mem_cons_self ..) ⟨hk.1.trans hkey.1.symm, hk.2.trans hkey.2.symm⟩
    · exact (List.pairwise_cons.1 h2).1 x hx ⟨hkey.1.trans hk.1.symm, hkey.2.trans hk.2.symm⟩
  · rw [if_neg g]
    intro x hx hk
    obtain ⟨j, hj, e⟩ := ro_of hx
    have := fi_first c (s := l) (j := j) (by omega)
    rw [e] at this
    exact this hk

theorem say_cases (k : Nat) (hk : 100 ≤ k) (l : List Ro) (c : Cl) (t : Int) : (∃ e, e ≠ 0 ∧ readback_Say.F k l c t = some ([], e)) ∨
    (RbOk k l ∧ phrase_Check.F k c = some 0 ∧ Early l t ∧ (without c l).length < 12 ∧ readback_Say.F k l c t = some (without c l ++ [(c, t)], 0)) := by
  unfold readback_Say.F
  obtain ⟨e1, h1, g1⟩ := rcheck_eq k hk l
  rw [h1]
  simp only [Option.bind_some]
  by_cases z1 : e1 ≠ 0
  · rw [cond_pos (c := e1 != 0) (by simpa using z1)]
    exact .inl ⟨e1, z1, rfl⟩
  replace z1 := Decidable.not_not.1 z1
  subst z1
  have hl := g1.1 rfl
  have hlen := hl.len
  rw [cond_neg (c := (0 : Int) != 0) (by rfl)]
  obtain ⟨e2, h2⟩ := pcheck_total k (by omega) c
  rw [h2]
  simp only [Option.bind_some]
  by_cases z2 : e2 ≠ 0
  · rw [cond_pos (c := e2 != 0) (by simpa using z2)]
    exact .inl ⟨e2, z2, rfl⟩
  replace z2 := Decidable.not_not.1 z2
  subst z2
  rw [cond_neg (c := (0 : Int) != 0) (by rfl)]
  obtain ⟨e3, h3, g3⟩ := early_eq k hl t
  rw [h3]
  simp only [Option.bind_some]
  by_cases z3 : e3 ≠ 0
  · rw [cond_pos (c := e3 != 0) (by simpa using z3)]
    exact .inl ⟨e3, z3, rfl⟩
  replace z3 := Decidable.not_not.1 z3
  subst z3
  rw [cond_neg (c := (0 : Int) != 0) (by rfl), rclone k l hlen, find_eq k hk l hlen]
  simp only [Option.bind_some]
  unfold without
  by_cases g : fi c l < l.length
  · rw [if_pos g, decide_eq_true (p := ((fi c l : Nat) : Int) ≥ 0) (by omega), delete_ro k l hlen _ g]
    simp only [cond_true, Option.bind_some]
    rw [if_pos g]
    have hw : (l.take (fi c l) ++ l.drop (fi c l + 1)).length ≤ 12 := by simp; omega
    by_cases z4 : (l.take (fi c l) ++ l.drop (fi c l + 1)).length = 12
    · rw [cond_pos (c := _ == (12 : Int)) (by rw [z4]; rfl)]
      exact .inl ⟨9, by decide, rfl⟩
    · rw [cond_neg (c := _ == (12 : Int)) (beq_false_of_ne (by omega)), cond_pos (Nat.ble_eq_true_of_le (by omega))]
      exact .inr ⟨hl, trivial, g3.1 rfl, by omega, rfl⟩
  · rw [if_neg g, decide_eq_false (p := (-1 : Int) ≥ 0) (by omega)]
    simp only [cond_false]
    rw [if_neg g]
    by_cases z4 : l.length = 12
    · rw [cond_pos (c := _ == (12 : Int)) (by rw [z4]; rfl)]
      exact .inl ⟨9, by decide, rfl⟩
    · rw [cond_neg (c := _ == (12 : Int)) (beq_false_of_ne (by omega)), cond_pos (Nat.ble_eq_true_of_le (by omega))]
      exact .inr ⟨hl, trivial, g3.1 rfl, by omega, rfl⟩

/-- What a readback comes to. -/
theorem hear_eq (k : Nat) (hk : 100 ≤ k) (l : List Ro) (c : Cl) (t : Int) (hl : RbOk k l) (hc : phrase_Check.F k c = some 0) (ht : Early l t) : readback_Hear.F k l c t = some (
    if fi c l < l.length then if t - (ro l (fi c l)).2 > 40 then ([], 21) else if (ro l (fi c l)).1 = c then (l.take (fi c l) ++ l.drop (fi c l + 1), 0) else ([], 17) else ([], 8)) := by
  unfold readback_Hear.F
  have hlen := hl.len
  obtain ⟨e3, h3, g3⟩ := early_eq k hl t
  rw [rcheck_ok k hk l hl, hc, h3, g3.2 ht]
  simp only [Option.bind_some]
  rw [cond_neg (c := (0 : Int) != 0) (by rfl), cond_neg (c := (0 : Int) != 0) (by rfl), cond_neg (c := (0 : Int) != 0) (by rfl), find_eq k hk l hlen]
  simp only [Option.bind_some]
  by_cases g : fi c l < l.length
  · rw [if_pos g, if_pos g, decide_eq_false (p := ((fi c l : Nat) : Int) < 0) (by omega), inIdx (n := l.length) (i := ((fi c l : Nat) : Int)) (by omega) (by omega)]
    simp only [cond_false, cond_true, getD_nat, ro_eq]
    have h1 := (hl.each _ (ro_mem g)).time
    have h2 := ht
    unfold Early at h2
    rw [w64_id (n := t - (ro l (fi c l)).2) (by omega) (by omega), cl_dec]
    by_cases c1 : t - (ro l (fi c l)).2 > 40
    · rw [decide_eq_true c1, if_pos c1]
      rfl
    · rw [decide_eq_false c1, if_neg c1]
      simp only [cond_false]
      by_cases c2 : (ro l (fi c l)).1 = c
      · rw [decide_eq_true c2, if_pos c2, rclone k l hlen]
        simp only [Bool.not_true, cond_false, Option.bind_some]
        rw [delete_ro k l hlen _ g]
        rfl
      · rw [decide_eq_false c2, if_neg c2]
        rfl
  · rw [if_neg g, if_neg g]
    rfl

end Go.Proofs.YtdchminahimfhaaDoor.RT
