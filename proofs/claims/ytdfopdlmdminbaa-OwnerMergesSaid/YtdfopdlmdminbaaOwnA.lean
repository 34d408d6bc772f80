/- What is proved here: plain lemmas about who is responsible for flights: the check, the search. They ask nothing. -/
import Derived.Test.YtdfopdlmdminbaaOmT
import Derived.Test.YtdfopdlmdminbaaPlA
import Derived.Test.YtdfopdlmdminbaaStrA
import Derived.Test.YtdfopdlmdminbaaNameA
namespace Go.Proofs.Ytdfopdlmdminbaa.RT
open Go Go.R

attribute [local irreducible] chart_Name.F

theorem ba_inj {a b : ByteArray} (h : a.toList = b.toList) : a = b := by
  rw [ByteArray.toList_eq, ByteArray.toList_eq] at h
  exact ByteArray.ext (Array.toList_inj.1 h)

theorem ba_beq (a : ByteArray) : (a == a) = true := by
  cases a with | mk d => exact beq_self_eq_true d

theorem bytes_eq (a b : ByteArray) : (a.toList == b.toList) = decide (a = b) := by
  by_cases h : a = b
  · subst h; simp
  · rw [decide_eq_false h]
    simpa using fun e => h (ba_inj e)

theorem comp_scmp : ∀ a b : List UInt8, Lib.compareBytes a b = if Op.bytesLess a b = true then -1 else if Op.bytesLess b a = true then 1 else 0
  | [], [] => rfl
  | [], _ :: _ => rfl
  | _ :: _, [] => rfl
  | x :: a, y :: b => by
    simp only [Lib.compareBytes, Op.bytesLess, Bool.or_eq_true, decide_eq_true_eq, Bool.and_eq_true, beq_iff_eq]
    by_cases h : x < y
    · rw [if_pos h, if_pos (.inl h)]
    · rw [if_neg h]
      by_cases g : y < x
      · rw [if_pos g, if_neg (fun q => by rcases q with q | ⟨q, _⟩; exact h q; subst q; exact h g), if_pos (.inl g)]
      · rw [if_neg g]
        have e : x = y := UInt8.le_antisymm (UInt8.not_lt.1 g) (UInt8.not_lt.1 h)
        subst e
        have := comp_scmp a b
        simp only [h, false_or, true_and]
        exact this

theorem compare_eq (k : Nat) (a b : ByteArray) : strings_Compare.F k a b = some (scmp a b) := by
  unfold strings_Compare.F scmp
  rw [comp_scmp, ByteArray.toList_eq, ByteArray.toList_eq]

theorem oname_total (k : Nat) (hk : 10 ≤ k) (s : ByteArray) : ∃ b, owner_Name.F k s = some b := by
  obtain ⟨b, hb⟩ := cname_total k hk s
  refine ⟨b, ?_⟩
  unfold owner_Name.F sector_Name.F
  rw [hb]
  rfl

theorem oname_empty (k : Nat) : owner_Name.F k ⟨#[]⟩ = some false := by
  unfold owner_Name.F sector_Name.F
  unfold chart_Name.F
  rfl

attribute [local irreducible] owner_Name.F strings_Compare.F

/-- An entry: a flight, who is responsible, to whom it is offered. -/
abbrev Oe := ByteArray × ByteArray × ByteArray
def oe (l : List Oe) (j : Nat) : Oe := l.getD j (ByteArray.empty, (ByteArray.empty, ByteArray.empty))
theorem oe_eq (l : List Oe) (j : Nat) : l.getD j (ByteArray.empty, (ByteArray.empty, ByteArray.empty)) = oe l j := rfl

/-- The entry at place j is in order. -/
def OeOk (k : Nat) (l : List Oe) (j : Nat) : Prop :=
  owner_Name.F k (oe l j).1 = some true ∧ owner_Name.F k (oe l j).2.1 = some true ∧ ((oe l j).2.2 ≠ ⟨#[]⟩ → owner_Name.F k (oe l j).2.2 = some true) ∧ (oe l j).2.2 ≠ (oe l j).2.1 ∧ (0 < j → scmp (oe l (j - 1)).1 (oe l j).1 < 0)

def OwOk (k : Nat) (l : List Oe) : Prop := l.length ≤ 24 ∧ ∀ j, j < l.length → OeOk k l j

theorem le_scmp (a b : ByteArray) : (Op.bytesLess a.toList b.toList || a.toList == b.toList) = decide (¬ scmp b a < 0) := by
  by_cases g : scmp b a < 0
  · have h := scmp_lt.1 g
    have h1 := bl_asymm h
    have h2 : ¬ a.toList = b.toList := fun e => by rw [e, bl_irrefl] at h; cases h
    rw [h1, show (a.toList == b.toList) = false by simpa using h2, decide_eq_false (fun q => q g)]
    rfl
  · have h : Op.bytesLess b.toList a.toList = false := by
      cases h : Op.bytesLess b.toList a.toList with
      | false => rfl
      | true => exact absurd (scmp_lt.2 h) g
    rw [decide_eq_true g]
    cases h1 : Op.bytesLess a.toList b.toList with
    | true => rfl
    | false => rw [bl_tri _ _ h1 h]; simp

theorem ocheck_loop (k : Nat) (hk : 100 ≤ k) (l : List Oe) (hl : l.length ≤ 24) : ∀ n i : Nat, i ≤ l.length → l.length - i < n → (∀ j, j < i → OeOk k l j) →
    (owner_Check.l0 k l n i = some 0 ∧ ∀ j, j < l.length → OeOk k l j) ∨ ((∃ e, e ≠ 0 ∧ owner_Check.l0 k l n i = some e) ∧ ∃ j, j < l.length ∧ ¬ OeOk k l j) := by
  intro n
  induction n with
  | zero => intro i _ h; omega
  | succ n ih =>
    intro i hi hm hj
    rw [owner_Check.l0_succ]
    unfold owner_Check.l0b
    by_cases hlt : i < l.length
    · rw [decide_eq_true (p := (i : Int) < ((l.length : Nat) : Int)) (by omega), decide_eq_true (p := 0 ≤ (i : Int)) (by omega)]
      simp only [Bool.and_self, cond_true, getD_nat, oe_eq]
      obtain ⟨b1, h1⟩ := oname_total k (by omega) (oe l i).1
      obtain ⟨b2, h2⟩ := oname_total k (by omega) (oe l i).2.1
      obtain ⟨b3, h3⟩ := oname_total k (by omega) (oe l i).2.2
      rw [h1, h2, h3]
      cases b1 with
      | false => exact .inr ⟨⟨3, by omega, rfl⟩, i, hlt, fun h => by have := h.1; rw [h1] at this; cases this⟩
      | true =>
        cases b2 with
        | false => exact .inr ⟨⟨3, by omega, rfl⟩, i, hlt, fun h => by have := h.2.1; rw [h2] at this; cases this⟩
        | true =>
          simp only [Option.bind_some, Bool.not_true, cond_false]
          rw [bytes_eq, bytes_eq]
          have rest : ((oe l i).2.2 ≠ ⟨#[]⟩ → owner_Name.F k (oe l i).2.2 = some true) → ((bif decide ((oe l i).2.2 = (oe l i).2.1) then some 11 else (bif (decide ((i : Int) > 0)) then bif (decide (0 ≤ w64 ((i : Int) - 1)) && decide (w64 ((i : Int) - 1) < ((l.length : Nat) : Int))) then some (Sum.inl (Op.bytesLess (oe l i).1.toList (l.getD (w64 ((i : Int) - 1)).toNat (ByteArray.empty, (ByteArray.empty, ByteArray.empty))).1.toList || (oe l i).1.toList == (l.getD (w64 ((i : Int) - 1)).toNat (ByteArray.empty, (ByteArray.empty, ByteArray.empty))).1.toList)) else none else some (Sum.inl false)).bind fun y => match y with | Sum.inl x9 => bif x9 then some 7 else owner_Check.l0 k l n (w64 ((i : Int) + 1)) | Sum.inr y10 => some y10) = some 0 ∧ ∀ j, j < l.length → OeOk k l j) ∨
              ((∃ e, e ≠ 0 ∧ (bif decide ((oe l i).2.2 = (oe l i).2.1) then some 11 else (bif (decide ((i : Int) > 0)) then bif (decide (0 ≤ w64 ((i : Int) - 1)) && decide (w64 ((i : Int) - 1) < ((l.length : Nat) : Int))) then some (Sum.inl (Op.bytesLess (oe l i).1.toList (l.getD (w64 ((i : Int) - 1)).toNat (ByteArray.empty, (ByteArray.empty, ByteArray.empty))).1.toList || (oe l i).1.toList == (l.getD (w64 ((i : Int) - 1)).toNat (ByteArray.empty, (ByteArray.empty, ByteArray.empty))).1.toList)) else none else some (Sum.inl false)).bind fun y => match y with | Sum.inl x9 => bif x9 then some 7 else owner_Check.l0 k l n (w64 ((i : Int) + 1)) | Sum.inr y10 => some y10) = some e) ∧ ∃ j, j < l.length ∧ ¬ OeOk k l j) := by
            intro hof
            by_cases c2 : (oe l i).2.2 = (oe l i).2.1
            · rw [decide_eq_true c2]; exact .inr ⟨⟨11, by omega, rfl⟩, i, hlt, fun h => h.2.2.2.1 c2⟩
            rw [decide_eq_false c2, w64_id (n := (i : Int) + 1) (by omega) (by omega)]
            simp only [cond_false]
            have next : (0 < i → scmp (oe l (i - 1)).1 (oe l i).1 < 0) → _ := fun hs => ih (i + 1) (by omega) (by omega) (fun j hj' => by
              rcases Nat.lt_or_ge j i with g | g
              · exact hj j g
              · rw [show j = i by omega]; exact ⟨h1, h2, hof, c2, hs⟩)
            by_cases h0 : 0 < i
            · rw [decide_eq_true (p := (i : Int) > 0) (by omega), w64_id (n := (i : Int) - 1) (by omega) (by omega), decide_eq_true (p := 0 ≤ (i : Int) - 1) (by omega), decide_eq_true (p := (i : Int) - 1 < ((l.length : Nat) : Int)) (by omega), show ((i : Int) - 1).toNat = i - 1 by omega, oe_eq, le_scmp]
              simp only [Bool.and_self, cond_true, Option.bind_some]
              by_cases c3 : scmp (oe l (i - 1)).1 (oe l i).1 < 0
              · rw [decide_eq_false (p := ¬ scmp (oe l (i - 1)).1 (oe l i).1 < 0) (fun h => h c3)]
                exact next (fun _ => c3)
              · rw [decide_eq_true c3]
                exact .inr ⟨⟨7, by omega, rfl⟩, i, hlt, fun h => c3 (h.2.2.2.2 h0)⟩
            · rw [decide_eq_false (p := (i : Int) > 0) (by omega)]
              exact next (fun h => absurd h h0)
          by_cases c1 : (oe l i).2.2 = ⟨#[]⟩
          · rw [decide_eq_true c1]
            exact rest (fun h => absurd c1 h)
          · rw [decide_eq_false c1]
            cases b3 with
            | false => exact .inr ⟨⟨3, by omega, rfl⟩, i, hlt, fun h => by have := h.2.2.1 c1; rw [h3] at this; cases this⟩
            | true => exact rest (fun _ => h3)
    · rw [decide_eq_false (p := (i : Int) < ((l.length : Nat) : Int)) (by omega)]
      exact .inl ⟨rfl, fun j hj' => hj j (by omega)⟩

theorem ocheck_cases (k : Nat) (hk : 100 ≤ k) (l : List Oe) : (owner_Check.F k l = some 0 ∧ OwOk k l) ∨ ((∃ e, e ≠ 0 ∧ owner_Check.F k l = some e) ∧ ¬ OwOk k l) := by
  unfold owner_Check.F
  by_cases h : 24 < l.length
  · rw [decide_eq_true (p := ((l.length : Nat) : Int) > 24) (by omega)]; exact .inr ⟨⟨2, by omega, rfl⟩, fun h => by have := h.1; omega⟩
  rw [decide_eq_false (p := ((l.length : Nat) : Int) > 24) (by omega)]
  rcases ocheck_loop k hk l (by omega) k 0 (by omega) (by omega) (fun j hj => by omega) with ⟨h1, h2⟩ | ⟨h1, j, h2, h3⟩
  · exact .inl ⟨h1, by omega, h2⟩
  · exact .inr ⟨h1, fun h => h3 (h.2 j h2)⟩

theorem ocheck_ok (k : Nat) (hk : 100 ≤ k) (l : List Oe) (h : OwOk k l) : owner_Check.F k l = some 0 := by
  rcases ocheck_cases k hk l with ⟨g, _⟩ | ⟨_, g⟩
  · exact g
  · exact absurd h g

/-- The flights' names ascend. -/
theorem ow_sorted {k : Nat} {l : List Oe} (h : OwOk k l) : ∀ {i j : Nat}, i < j → j < l.length → scmp (oe l i).1 (oe l j).1 < 0 := by
  intro i j hij
  induction j with
  | zero => omega
  | succ j ih =>
    intro hj
    have h1 := (h.2 (j + 1) hj).2.2.2.2 (by omega)
    rw [Nat.add_sub_cancel] at h1
    rcases Nat.lt_or_ge i j with g | g
    · exact scmp_trans (ih g (by omega)) h1
    · rw [show i = j by omega]; exact h1

theorem mid_eq (lo hi : Nat) (h : lo < hi) (h2 : hi ≤ 24) : w64 (Int.fdiv (IntKind.u64.wrap (w64 ((lo : Int) + hi))) (2 ^ min (1 : Int).toNat (IntKind.u64).bits)) = ((lo + hi) / 2 : Nat) := by
  rw [w64_id (n := (lo : Int) + hi) (by omega) (by omega)]
  have e1 : IntKind.u64.wrap ((lo : Int) + hi) = (lo : Int) + hi := by simp [IntKind.wrap, IntKind.bits, IntKind.signed]; omega
  rw [e1]
  have e2 : (2 : Int) ^ min (1 : Int).toNat (IntKind.u64).bits = 2 := rfl
  rw [e2]
  have e3 : Int.fdiv ((lo : Int) + hi) 2 = ((lo + hi) / 2 : Nat) := by
    rw [Int.fdiv_eq_ediv_of_nonneg _ (by omega)]; omega
  rw [e3]
  exact w64_id (by omega) (by omega)

theorem find_loop (k : Nat) (l : List Oe) (hl : l.length ≤ 24) (hs : ∀ {i j : Nat}, i < j → j < l.length → scmp (oe l i).1 (oe l j).1 < 0) (c : ByteArray) : ∀ n lo hi : Nat, lo ≤ hi → hi ≤ l.length → hi - lo < n → (∀ j, j < lo → scmp (oe l j).1 c < 0) → (∀ j, hi ≤ j → j < l.length → ¬ scmp (oe l j).1 c < 0) →
    ∃ i : Nat, owner_find.l0 k l c n (lo, hi) = some (Sum.inl (i : Int)) ∧ i ≤ l.length ∧ (∀ j, j < i → scmp (oe l j).1 c < 0) ∧ ∀ j, i ≤ j → j < l.length → ¬ scmp (oe l j).1 c < 0 := by
  intro n
  induction n with
  | zero => intro lo hi _ _ h; omega
  | succ n ih =>
    intro lo hi h1 h2 hm ha hb
    rw [owner_find.l0_succ]
    unfold owner_find.l0b
    dsimp only
    by_cases hlt : lo < hi
    · rw [decide_eq_true (p := (lo : Int) < (hi : Int)) (by omega), mid_eq lo hi hlt (by omega), decide_eq_true (p := 0 ≤ (((lo + hi) / 2 : Nat) : Int)) (by omega), decide_eq_true (p := (((lo + hi) / 2 : Nat) : Int) < ((l.length : Nat) : Int)) (by omega)]
      simp only [Bool.and_self, cond_true, getD_nat, oe_eq]
      unfold owner_find_1.F
      rw [compare_eq]
      simp only [Option.bind_some]
      have hmid : (lo + hi) / 2 < hi := by omega
      have hmid2 : lo ≤ (lo + hi) / 2 := by omega
      by_cases c1 : scmp (oe l ((lo + hi) / 2)).1 c < 0
      · rw [decide_eq_true c1, w64_id (n := (((lo + hi) / 2 : Nat) : Int) + 1) (by omega) (by omega)]
        refine ih ((lo + hi) / 2 + 1) hi (by omega) h2 (by omega) (fun j hj => ?_) hb
        rcases Nat.lt_or_ge j ((lo + hi) / 2) with g | g
        · exact scmp_trans (hs g (by omega)) c1
        · rw [show j = (lo + hi) / 2 by omega]; exact c1
      · rw [decide_eq_false c1]
        refine ih lo ((lo + hi) / 2) (by omega) (by omega) (by omega) ha (fun j hj hj2 => ?_)
        rcases Nat.lt_or_ge ((lo + hi) / 2) j with g | g
        · intro h; exact c1 (scmp_trans (hs g hj2) h)
        · rw [show j = (lo + hi) / 2 by omega]; exact c1
    · rw [decide_eq_false (p := (lo : Int) < (hi : Int)) (by omega)]
      have : hi = lo := by omega
      subst this
      exact ⟨hi, rfl, h2, ha, hb⟩

theorem find_eq (k : Nat) (hk : 100 ≤ k) (l : List Oe) (h : OwOk k l) (c : ByteArray) : ∃ (i : Nat) (b : Bool), owner_find.F k l c = some ((i : Int), b) ∧ i ≤ l.length ∧ (b = true → i < l.length ∧ (oe l i).1 = c) ∧ ((∃ j, j < l.length ∧ (oe l j).1 = c) → b = true) := by
  unfold owner_find.F
  have hl := h.1
  obtain ⟨i, h1, h2, h3, h4⟩ := find_loop k l hl (ow_sorted h) c k 0 l.length (by omega) (by omega) (by omega) (fun j hj => by omega) (fun j hj hj2 => by omega)
  rw [show ((0 : Nat) : Int) = 0 from rfl] at h1
  rw [h1]
  simp only [Option.bind_some]
  have huniq : ∀ j, j < l.length → (oe l j).1 = c → j = i := fun j hj hc => by
    have z : scmp (oe l j).1 c = 0 := scmp_zero.2 (by rw [hc])
    rcases Nat.lt_or_ge j i with g | g
    · have := h3 j g; omega
    · rcases Nat.lt_or_ge i j with g2 | g2
      · have := ow_sorted h g2 hj
        rw [hc] at this
        exact absurd this (h4 i (Nat.le_refl _) (by omega))
      · omega
  by_cases hlt : i < l.length
  · rw [decide_eq_true (p := (i : Int) < ((l.length : Nat) : Int)) (by omega), decide_eq_true (p := 0 ≤ (i : Int)) (by omega)]
    simp only [Bool.and_self, cond_true, getD_nat, oe_eq]
    unfold owner_find_1.F
    rw [compare_eq]
    simp only [Option.bind_some]
    refine ⟨i, _, rfl, h2, fun hb => ⟨hlt, ba_inj (scmp_zero.1 (by simpa using hb))⟩, fun ⟨j, hj, hc⟩ => ?_⟩
    have := huniq j hj hc
    subst this
    simpa using scmp_zero.2 (by rw [hc])
  · rw [decide_eq_false (p := (i : Int) < ((l.length : Nat) : Int)) (by omega)]
    refine ⟨i, false, rfl, h2, fun hb => (by cases hb), fun ⟨j, hj, hc⟩ => ?_⟩
    have := huniq j hj hc
    omega

attribute [local irreducible] owner_Check.F owner_find.F

/-- Where a flight stands. -/
theorem at_ok (k : Nat) (hk : 100 ≤ k) (l : List Oe) (h : OwOk k l) (c : ByteArray) (j : Nat) (hj : j < l.length) (hc : (oe l j).1 = c) : owner_at.F k l c = some ((j : Int), 0) := by
  unfold owner_at.F
  obtain ⟨i, b, h1, h2, h3, h4⟩ := find_eq k hk l h c
  have hb := h4 ⟨j, hj, hc⟩
  obtain ⟨g1, g2⟩ := h3 hb
  have e : i = j := by
    rcases Nat.lt_trichotomy i j with g | g | g
    · have := ow_sorted h g hj; rw [g2, hc] at this; have z : scmp c c = 0 := scmp_zero.2 rfl; omega
    · exact g
    · have := ow_sorted h g g1; rw [g2, hc] at this; have z : scmp c c = 0 := scmp_zero.2 rfl; omega
  subst e
  rw [ocheck_ok k hk l h, h1, hb]
  rfl

theorem at_cases (k : Nat) (hk : 100 ≤ k) (l : List Oe) (c : ByteArray) : (∃ e, e ≠ 0 ∧ owner_at.F k l c = some (0, e)) ∨ OwOk k l ∧ ∃ j, j < l.length ∧ (oe l j).1 = c ∧ owner_at.F k l c = some ((j : Int), 0) := by
  unfold owner_at.F
  rcases ocheck_cases k hk l with ⟨g, h⟩ | ⟨⟨e, he, g⟩, _⟩
  · obtain ⟨i, b, h1, h2, h3, h4⟩ := find_eq k hk l h c
    rw [g, h1]
    cases b with
    | false => exact .inl ⟨8, by omega, rfl⟩
    | true => exact .inr ⟨h, i, (h3 rfl).1, (h3 rfl).2, rfl⟩
  · rw [g]
    simp only [Option.bind_some]
    rw [cond_pos (c := e != 0) (by simpa using he)]
    exact .inl ⟨e, he, rfl⟩

theorem oclone (k : Nat) (l : List Oe) (h : l.length ≤ 24) : slices_Clone_api_OwnerEntry.F k l = some l := by
  unfold slices_Clone_api_OwnerEntry.F
  rw [cond_pos (Nat.ble_eq_true_of_le (by omega)), List.nil_append]

theorem oe_set (l : List Oe) (i : Nat) (hi : i < l.length) (x : Oe) (j : Nat) : oe (l.set i x) j = if i = j then x else oe l j := by
  unfold oe
  rw [List.getD_eq_getElem?_getD, List.getElem?_set, List.getD_eq_getElem?_getD]
  by_cases h : i = j
  · rw [if_pos h, if_pos h, if_pos hi]; rfl
  · rw [if_neg h, if_neg h]

theorem oe_self (l : List Oe) (i : Nat) (hi : i < l.length) : l.set i (oe l i) = l := by
  apply List.ext_getElem?
  intro j
  rw [List.getElem?_set]
  by_cases h : i = j
  · subst h; rw [if_pos rfl, if_pos hi]; unfold oe; simp [List.getD, hi]
  · rw [if_neg h]

theorem changed_eq (k : Nat) (l : List Oe) (h : l.length ≤ 24) (i : Nat) (hi : i < l.length) (x : Oe) : owner_changed.F k l (i : Int) x = some (l.set i x) := by
  unfold owner_changed.F
  rw [oclone k l h]
  simp only [Option.bind_some]
  rw [inIdx (i := (i : Int)) (n := l.length) (by omega) (by omega), Int.toNat_natCast]
  rfl

/-- One entry is put into the place of another one of the same flight. -/
theorem ow_set {k : Nat} {l : List Oe} (h : OwOk k l) {i : Nat} (hi : i < l.length) {x : Oe} (h1 : x.1 = (oe l i).1) (h2 : owner_Name.F k x.2.1 = some true) (h3 : x.2.2 ≠ ⟨#[]⟩ → owner_Name.F k x.2.2 = some true) (h4 : x.2.2 ≠ x.2.1) : OwOk k (l.set i x) := by
  refine ⟨by rw [List.length_set]; exact h.1, fun j hj => ?_⟩
  rw [List.length_set] at hj
  have hcall : ∀ q, (oe (l.set i x) q).1 = (oe l q).1 := fun q => by
    rw [oe_set l i hi]
    by_cases g : i = q
    · subst g; rw [if_pos rfl]; exact h1
    · rw [if_neg g]
  have ho := h.2 j hj
  refine ⟨by rw [hcall]; exact ho.1, ?_, ?_, ?_, by rw [hcall, hcall]; exact ho.2.2.2.2⟩
  all_goals
    rw [oe_set l i hi]
    by_cases g : i = j
    · rw [if_pos g]; assumption
    · rw [if_neg g]; first | exact ho.2.1 | exact ho.2.2.1 | exact ho.2.2.2.1

attribute [local irreducible] owner_at.F owner_changed.F

theorem of_ok (k : Nat) (hk : 100 ≤ k) (l : List Oe) (h : OwOk k l) (c : ByteArray) (j : Nat) (hj : j < l.length) (hc : (oe l j).1 = c) : owner_Of.F k l c = some ((oe l j).2.1, 0) := by
  unfold owner_Of.F
  rw [at_ok k hk l h c j hj hc]
  simp only [Option.bind_some]
  rw [cond_neg (c := (0 : Int) != 0) (by rfl), inIdx (i := (j : Int)) (n := l.length) (by omega) (by omega), getD_nat]
  rfl

theorem oequal_loop (k : Nat) (a : List Oe) (hl : a.length ≤ 24) : ∀ n i : Nat, i ≤ a.length → a.length - i < n → slices_Equal_api_OwnerEntry.l0 k a a n i = some true := by
  intro n
  induction n with
  | zero => intro i _ h; omega
  | succ n ih =>
    intro i hi hm
    rw [slices_Equal_api_OwnerEntry.l0_succ]
    unfold slices_Equal_api_OwnerEntry.l0b
    by_cases hlt : i < a.length
    · rw [decide_eq_true (p := (i : Int) < ((a.length : Nat) : Int)) (by omega), decide_eq_true (p := 0 ≤ (i : Int)) (by omega)]
      simp only [Bool.and_self, cond_true]
      rw [cond_neg (by simp [ba_beq]), w64_id (n := (i : Int) + 1) (by omega) (by omega)]
      exact ih (i + 1) (by omega) (by omega)
    · rw [decide_eq_false (p := (i : Int) < ((a.length : Nat) : Int)) (by omega)]
      rfl

theorem oequal_refl (k : Nat) (hk : 100 ≤ k) (a : List Oe) (hl : a.length ≤ 24) : slices_Equal_api_OwnerEntry.F k a a = some true := by
  unfold slices_Equal_api_OwnerEntry.F
  rw [cond_neg (by simp)]
  exact oequal_loop k a hl k 0 (by omega) (by omega)

theorem ofact (m : Nat) : skywaykeep3_ownerFact.F (m + 40) = some true := by kernel_rfl

end Go.Proofs.Ytdfopdlmdminbaa.RT
