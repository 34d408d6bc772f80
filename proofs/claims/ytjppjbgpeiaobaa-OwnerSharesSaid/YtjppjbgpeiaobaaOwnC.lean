/- What is proved here: the plain law OwnerShares. It asks nothing. -/
import Derived.Test.YtjppjbgpeiaobaaOsT
import Derived.Test.YtjppjbgpeiaobaaPlA
import Derived.Test.YtjppjbgpeiaobaaOwnA
namespace Go.Proofs.Ytjppjbgpeiaobaa.RT
open Go Go.R

attribute [local irreducible] owner_Name.F owner_Check.F owner_find.F owner_at.F owner_Of.F skywaykeep3_ownerFact.F

/-- The flights of one that is responsible. -/
def fls (b : ByteArray) (l : List Oe) : List ByteArray := (l.filter fun e => decide (e.2.1 = b)).map (·.1)

theorem fls_length (b : ByteArray) (l : List Oe) : (fls b l).length = l.countP fun e => decide (e.2.1 = b) := by
  unfold fls; rw [List.length_map, List.countP_eq_length_filter]

theorem fls_cons (b : ByteArray) (e : Oe) (l : List Oe) : fls b (e :: l) = if e.2.1 = b then e.1 :: fls b l else fls b l := by
  unfold fls
  by_cases h : e.2.1 = b
  · rw [if_pos h, List.filter_cons_of_pos (by simpa using h), List.map_cons]
  · rw [if_neg h, List.filter_cons_of_neg (by simpa using h)]

theorem flights_loop (k : Nat) (l : List Oe) (hl : l.length ≤ 24) (b : ByteArray) : ∀ (n i : Nat) (a : List ByteArray), i ≤ l.length → l.length - i < n → a.length ≤ i → owner_Flights.l0 k l b n (i, a) = some (a ++ fls b (l.drop i), 0) := by
  intro n
  induction n with
  | zero => intro i _ _ h; omega
  | succ n ih =>
    intro i a hi hm ha
    rw [owner_Flights.l0_succ]
    unfold owner_Flights.l0b
    dsimp only
    by_cases hlt : i < l.length
    · rw [decide_eq_true (p := (i : Int) < ((l.length : Nat) : Int)) (by omega), decide_eq_true (p := 0 ≤ (i : Int)) (by omega)]
      simp only [Bool.and_self, cond_true, getD_nat, oe_eq]
      rw [bytes_eq, w64_id (n := (i : Int) + 1) (by omega) (by omega), drop_cons hlt (ByteArray.empty, (ByteArray.empty, ByteArray.empty)), fls_cons, oe_eq]
      by_cases h : (oe l i).2.1 = b
      · rw [decide_eq_true h, if_pos h, cond_pos rfl, cond_pos (Nat.ble_eq_true_of_le (by omega))]
        have := ih (i + 1) (a ++ [(oe l i).1]) (by omega) (by omega) (by simp; omega)
        rw [List.append_assoc, List.singleton_append] at this
        exact this
      · rw [decide_eq_false h, if_neg h]
        exact ih (i + 1) a (by omega) (by omega) (by omega)
    · rw [decide_eq_false (p := (i : Int) < ((l.length : Nat) : Int)) (by omega), List.drop_eq_nil_of_le (by omega)]
      simp [fls]

theorem flights_eq (k : Nat) (hk : 100 ≤ k) (l : List Oe) (h : OwOk k l) (b : ByteArray) : owner_Flights.F k l b = some (fls b l, 0) := by
  unfold owner_Flights.F
  have hl := h.1
  rw [ocheck_ok k hk l h]
  have := flights_loop k l hl b k 0 [] (by omega) (by omega) (by simp)
  rw [show ((0 : Nat) : Int) = 0 from rfl, List.drop_zero, List.nil_append] at this
  exact this

theorem indexs_loop (k : Nat) (l : List ByteArray) (hl : l.length ≤ 100) (s : ByteArray) : ∀ n i : Nat, i ≤ l.length → l.length - i < n → ∃ v, slices_Index_string.l0 k l s n i = some v ∧ (v ≥ 0 ↔ s ∈ l.drop i) := by
  intro n
  induction n with
  | zero => intro i _ h; omega
  | succ n ih =>
    intro i hi hm
    rw [slices_Index_string.l0_succ]
    unfold slices_Index_string.l0b
    by_cases hlt : i < l.length
    · rw [decide_eq_true (p := (i : Int) < ((l.length : Nat) : Int)) (by omega), decide_eq_true (p := 0 ≤ (i : Int)) (by omega)]
      simp only [Bool.and_self, cond_true, getD_nat]
      rw [bytes_eq, w64_id (n := (i : Int) + 1) (by omega) (by omega), drop_cons hlt ByteArray.empty]
      by_cases h : s = l.getD i ByteArray.empty
      · rw [decide_eq_true h]
        exact ⟨i, rfl, by constructor; intro _; rw [← h]; simp; intro _; omega⟩
      · rw [decide_eq_false h]
        obtain ⟨v, h1, h2⟩ := ih (i + 1) (by omega) (by omega)
        exact ⟨v, h1, by rw [h2, List.mem_cons]; exact ⟨.inr, fun q => q.resolve_left h⟩⟩
    · rw [decide_eq_false (p := (i : Int) < ((l.length : Nat) : Int)) (by omega), List.drop_eq_nil_of_le (by omega)]
      exact ⟨-1, rfl, by simp⟩

theorem contains_eq (k : Nat) (hk : 200 ≤ k) (l : List ByteArray) (hl : l.length ≤ 100) (s : ByteArray) : ∃ b, slices_Contains_string.F k l s = some b ∧ (b = true ↔ s ∈ l) := by
  unfold slices_Contains_string.F slices_Index_string.F
  obtain ⟨v, h1, h2⟩ := indexs_loop k l hl s k 0 (by omega) (by omega)
  rw [show ((0 : Nat) : Int) = 0 from rfl] at h1
  rw [List.drop_zero] at h2
  rw [h1]
  exact ⟨_, rfl, by rw [decide_eq_true_iff]; exact h2⟩

attribute [local irreducible] owner_Flights.F slices_Contains_string.F

theorem countP_split {α : Type} (p q r : α → Bool) (h : ∀ x, p x = (q x || r x)) (hd : ∀ x, ¬ (q x = true ∧ r x = true)) (l : List α) : l.countP p = l.countP q + l.countP r := by
  induction l with
  | nil => rfl
  | cons x l ih =>
    rw [List.countP_cons, List.countP_cons, List.countP_cons, ih, h x]
    have := hd x
    cases hq : q x <;> cases hr : r x <;> simp_all <;> omega

/-- Is one of these responsible. -/
def among (d : List ByteArray) (e : Oe) : Bool := d.any fun s => decide (s = e.2.1)
theorem among_iff (d : List ByteArray) (e : Oe) : among d e = true ↔ e.2.1 ∈ d := by
  unfold among
  rw [List.any_eq_true]
  constructor
  · rintro ⟨s, h1, h2⟩; rw [← of_decide_eq_true h2]; exact h1
  · intro h; exact ⟨_, h, by simp⟩

theorem shares_loop (k : Nat) (hk : 200 ≤ k) (l : List Oe) (h : OwOk k l) : ∀ (n i : Nat) (d : List ByteArray), i ≤ l.length → l.length - i < n → d.length ≤ i → (∀ j, j < i → (oe l j).2.1 ∈ d) →
    skywaykeep3_OwnerShares.l0 k l n (((l.countP (among d) : Nat), i), d) = some true := by
  intro n
  induction n with
  | zero => intro i _ _ h; omega
  | succ n ih =>
    intro i d hi hm hdl hd
    have hl := h.1
    rw [skywaykeep3_OwnerShares.l0_succ]
    unfold skywaykeep3_OwnerShares.l0b
    dsimp only
    by_cases hlt : i < l.length
    · rw [decide_eq_true (p := (i : Int) < ((l.length : Nat) : Int)) (by omega), decide_eq_true (p := 0 ≤ (i : Int)) (by omega)]
      simp only [Bool.and_self, cond_true, getD_nat, oe_eq]
      rw [of_ok k (by omega) l h (oe l i).1 i hlt rfl]
      simp only [Option.bind_some]
      rw [cond_neg (c := (0 : Int) != 0) (by rfl), bytes_eq, decide_eq_true rfl, w64_id (n := (i : Int) + 1) (by omega) (by omega)]
      simp only [Option.bind_some, Bool.not_true, cond_false]
      obtain ⟨b, h1, h2⟩ := contains_eq k hk d (by omega) (oe l i).2.1
      rw [h1]
      simp only [Option.bind_some]
      cases b with
      | true =>
        exact ih (i + 1) d (by omega) (by omega) (by omega) (fun j hj => by
          rcases Nat.lt_or_ge j i with g | g
          · exact hd j g
          · rw [show j = i by omega]; exact h2.1 rfl)
      | false =>
        have hnot : (oe l i).2.1 ∉ d := fun q => by have := h2.2 q; cases this
        rw [cond_neg (c := false) rfl, cond_pos (Nat.ble_eq_true_of_le (by omega)), flights_eq k (by omega) l h]
        simp only [Option.bind_some]
        have hfl : (fls (oe l i).2.1 l).length ≤ 24 := by rw [fls_length]; exact Nat.le_trans List.countP_le_length hl
        obtain ⟨b2, g1, g2⟩ := contains_eq k hk (fls (oe l i).2.1 l) (by omega) (oe l i).1
        have hin : (oe l i).1 ∈ fls (oe l i).2.1 l := by
          unfold fls
          refine List.mem_map.2 ⟨oe l i, List.mem_filter.2 ⟨?_, by simp⟩, rfl⟩
          have : oe l i = l[i] := by unfold oe; simp [List.getD, hlt]
          rw [this]; exact List.getElem_mem hlt
        rw [cond_neg (c := (0 : Int) != 0) (by rfl), g1, g2.2 hin]
        simp only [Option.bind_some, Bool.not_true, cond_false]
        have hsum : (l.countP (among (d ++ [(oe l i).2.1]))) = (l.countP (among d)) + (fls (oe l i).2.1 l).length := by
          rw [fls_length]
          refine countP_split _ _ _ (fun x => ?_) (fun x hx => ?_) l
          · rw [Bool.eq_iff_iff, Bool.or_eq_true, among_iff, among_iff]; simp
          · rw [among_iff, decide_eq_true_eq] at hx
            rw [hx.2] at hx
            exact hnot hx.1
        have hle : (l.countP (among (d ++ [(oe l i).2.1]))) ≤ l.length := List.countP_le_length
        rw [w64_id (by omega) (by omega), ← Int.natCast_add, ← hsum]
        exact ih (i + 1) (d ++ [(oe l i).2.1]) (by omega) (by omega) (by simp; omega) (fun j hj => by
          rcases Nat.lt_or_ge j i with g | g
          · exact List.mem_append_left _ (hd j g)
          · rw [show j = i by omega]; simp)
    · rw [decide_eq_false (p := (i : Int) < ((l.length : Nat) : Int)) (by omega)]
      have hall : (l.countP (among d)) = l.length := List.countP_eq_length.2 fun x hx => by
        obtain ⟨j, hj, rfl⟩ := List.getElem_of_mem hx
        have := hd j (by omega)
        have e : oe l j = l[j] := by unfold oe; simp [List.getD, hj]
        rw [e] at this
        exact (among_iff _ _).2 this
      rw [hall]
      simp

attribute [local irreducible] skywaykeep3_OwnerShares.l0

theorem OwnerShares_plain (k : Nat) (hk : 200 ≤ k) (hf : skywaykeep3_ownerFact.F k = some true) (l : List Oe) : skywaykeep3_OwnerShares.F k l = some true := by
  unfold skywaykeep3_OwnerShares.F
  rw [hf]
  simp only [Option.bind_some, Bool.not_true, cond_false]
  rcases ocheck_cases k (by omega) l with ⟨g, h⟩ | ⟨⟨e, he, g⟩, _⟩
  · rw [g]
    simp only [Option.bind_some]
    rw [cond_neg (c := (0 : Int) != 0) (by rfl)]
    have hl := h.1
    have := shares_loop k hk l h k 0 [] (by omega) (by omega) (by simp) (fun j hj => by omega)
    have e : (l.countP (among [])) = 0 := List.countP_eq_zero.2 (by simp [among])
    rw [e] at this
    exact this
  · rw [g]
    simp only [Option.bind_some]
    rw [cond_pos (c := e != 0) (by simpa using he)]

attribute [local irreducible] skywaykeep3_OwnerShares.F
theorem shares_cal (k : Nat) (x : DatPs (skywaykeep3_OwnerShares.C 0).ats) : (skywaykeep3_OwnerShares.C k).F x = skywaykeep3_OwnerShares.F k x := rfl
theorem OwnerShares_law (x : DatPs (skywaykeep3_OwnerShares.C 0).ats) (_ : FitPs (skywaykeep3_OwnerShares.C 0).ats x) : ∃ k, (skywaykeep3_OwnerShares.C k).F x = some true :=
  ⟨300 + 40, (shares_cal _ x).trans (OwnerShares_plain (300 + 40) (by omega) (ofact 300) x)⟩

end Go.Proofs.Ytjppjbgpeiaobaa.RT
