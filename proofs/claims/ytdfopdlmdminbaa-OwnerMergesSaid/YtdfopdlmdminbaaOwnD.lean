/- What is proved here: the plain law OwnerMerges. It asks nothing. -/
import Derived.Test.YtdfopdlmdminbaaOmT
import Derived.Sort.Walk0
import Derived.Test.YtdfopdlmdminbaaPlA
import Derived.Test.YtdfopdlmdminbaaStrA
import Derived.Test.YtdfopdlmdminbaaNameA
import Derived.Test.YtdfopdlmdminbaaOwnA
import Derived.Test.YtdfopdlmdminbaaOwnF
namespace Go.Proofs.Ytdfopdlmdminbaa.RT
open Go Go.R

attribute [local irreducible] owner_Check.F owner_Name.F owner_Flights.F

/-! ### Moving -/

/-- What becomes of an entry. -/
def mvE (a b : ByteArray) (e : Oe) : Oe :=
  let o := if e.2.1 = a then b else e.2.1
  let f := if e.2.2 = a then b else e.2.2
  (e.1, (o, if f = o then ⟨#[]⟩ else f))

theorem set_at (y : List Oe) (i : Nat) (hi : i < y.length) (x : Oe) : oe (y.set i x) i = x := by rw [oe_set y i hi, if_pos rfl]

theorem move_step (k : Nat) (a b : ByteArray) (r y : List Oe) (i : Nat) (hi : i < r.length) (hr : r.length ≤ 24) (hy : y.length = r.length) (self : (Int × List Oe) → Option (List Oe × Int)) :
    owner_Move.l0b k a b r self ((i : Int), y) = self (((i + 1 : Nat) : Int), y.set i (mvE a b (oe y i))) := by
  unfold owner_Move.l0b
  dsimp only
  have hy' : i < y.length := by omega
  rw [decide_eq_true (p := (i : Int) < ((r.length : Nat) : Int)) (by omega), decide_eq_true (p := 0 ≤ (i : Int)) (by omega), decide_eq_true (p := (i : Int) < ((y.length : Nat) : Int)) (by omega), show w64 ((i : Int) + 1) = ((i + 1 : Nat) : Int) from w64_id (by omega) (by omega)]
  simp only [Bool.and_self, cond_true, Int.toNat_natCast, oe_eq, bytes_eq, Option.bind_some, set_at y i hy', List.set_set]
  have hself : y.set i (oe y i) = y := oe_self y i hy'
  unfold mvE
  dsimp only
  by_cases h1 : (oe y i).2.1 = a
  · rw [decide_eq_true h1, if_pos h1]
    simp only [cond_true]
    by_cases h2 : (oe y i).2.2 = a
    · rw [decide_eq_true h2, if_pos h2]
      simp
    · rw [decide_eq_false h2, if_neg h2]
      simp only [cond_false]
      by_cases h3 : (oe y i).2.2 = b
      · rw [decide_eq_true h3, if_pos h3]
        rfl
      · rw [decide_eq_false h3, if_neg h3]
        rfl
  · rw [decide_eq_false h1, if_neg h1]
    simp only [cond_false]
    by_cases h2 : (oe y i).2.2 = a
    · rw [decide_eq_true h2, if_pos h2]
      simp only [cond_true]
      by_cases h3 : b = (oe y i).2.1
      · rw [decide_eq_true h3, if_pos h3]
        rfl
      · rw [decide_eq_false h3, if_neg h3]
        rfl
    · rw [decide_eq_false h2, if_neg h2]
      simp only [cond_false]
      by_cases h3 : (oe y i).2.2 = (oe y i).2.1
      · rw [decide_eq_true h3, if_pos h3]
        rfl
      · rw [decide_eq_false h3, if_neg h3]
        simp only [cond_false]
        rw [show ((oe y i).1, ((oe y i).2.1, (oe y i).2.2)) = oe y i from rfl, hself]

theorem move_loop (k : Nat) (a b : ByteArray) (r : List Oe) (hr : r.length ≤ 24) : ∀ n i : Nat, i ≤ r.length → r.length - i < n →
    owner_Move.l0 k a b r n ((i : Int), (r.take i).map (mvE a b) ++ r.drop i) = some (r.map (mvE a b), 0) := by
  intro n
  induction n with
  | zero => intro i _ h; omega
  | succ n ih =>
    intro i hi hn
    rw [owner_Move.l0_succ]
    by_cases hlt : i < r.length
    · have htl : ((r.take i).map (mvE a b)).length = i := by simp; omega
      have hd := drop_cons hlt ((ByteArray.empty, (ByteArray.empty, ByteArray.empty)) : Oe)
      rw [oe_eq] at hd
      have hat : oe ((r.take i).map (mvE a b) ++ r.drop i) i = oe r i := by
        unfold oe
        rw [List.getD_eq_getElem?_getD, List.getElem?_append_right (by omega), htl, Nat.sub_self, hd]
        rfl
      rw [move_step k a b r _ i hlt hr (by simp; omega), hat]
      have hset : ((r.take i).map (mvE a b) ++ r.drop i).set i (mvE a b (oe r i)) = (r.take (i + 1)).map (mvE a b) ++ r.drop (i + 1) := by
        rw [List.set_append_right _ _ (by omega), htl, Nat.sub_self, hd]
        have : r.take (i + 1) = r.take i ++ [oe r i] := by
          rw [List.take_add_one]
          unfold oe
          simp [List.getD, hlt]
        rw [this]
        simp
      rw [hset]
      exact ih (i + 1) (by omega) (by omega)
    · unfold owner_Move.l0b
      dsimp only
      rw [decide_eq_false (p := (i : Int) < ((r.length : Nat) : Int)) (by omega), List.drop_eq_nil_of_le (by omega), List.take_of_length_le (by omega), List.append_nil]
      rfl

theorem move_cases (k : Nat) (hk : 100 ≤ k) (l : List Oe) (a b : ByteArray) : (∃ r : List Oe × Int, owner_Move.F k l a b = some r ∧ r.2 ≠ 0) ∨ (OwOk k l ∧ owner_Name.F k a = some true ∧ owner_Name.F k b = some true ∧ owner_Move.F k l a b = some (l.map (mvE a b), 0)) := by
  unfold owner_Move.F
  rcases ocheck_cases k hk l with ⟨h1, h⟩ | ⟨⟨e, he, h1⟩, _⟩
  · rw [h1]
    simp only [Option.bind_some]
    rw [cond_neg (c := (0 : Int) != 0) (by rfl)]
    obtain ⟨b1, n1⟩ := oname_total k (by omega) a
    obtain ⟨b2, n2⟩ := oname_total k (by omega) b
    cases b1 with
    | false => rw [n1]; exact .inl ⟨([], 3), rfl, by decide⟩
    | true =>
      cases b2 with
      | false => rw [n1, n2]; exact .inl ⟨([], 3), rfl, by decide⟩
      | true =>
        refine .inr ⟨h, n1, n2, ?_⟩
        rw [n1, n2]
        simp only [Option.bind_some, Bool.not_true, cond_false]
        rw [oclone k l h.1]
        simp only [Option.bind_some]
        have hl := h.1
        have := move_loop k a b l h.1 k 0 (by omega) (by omega)
        rw [show ((0 : Nat) : Int) = 0 from rfl, List.take_zero, List.map_nil, List.nil_append, List.drop_zero] at this
        exact this
  · rw [h1]
    simp only [Option.bind_some]
    rw [cond_pos (c := e != 0) (by simpa using he)]
    exact .inl ⟨([], e), rfl, he⟩

theorem oe_map (f : Oe → Oe) (l : List Oe) (j : Nat) (hj : j < l.length) : oe (l.map f) j = f (oe l j) := by
  unfold oe
  simp [List.getD, hj]

theorem name_ne {k : Nat} {s : ByteArray} (h : owner_Name.F k s = some true) : s ≠ ⟨#[]⟩ := fun e => by
  rw [e, oname_empty] at h
  cases h

theorem mv_ok {k : Nat} {l : List Oe} (h : OwOk k l) {a b : ByteArray} (hb : owner_Name.F k b = some true) : OwOk k (l.map (mvE a b)) := by
  refine ⟨by rw [List.length_map]; exact h.1, fun j hj => ?_⟩
  rw [List.length_map] at hj
  obtain ⟨h1, h2, h3, h4, h5⟩ := h.2 j hj
  unfold OeOk
  rw [oe_map _ _ _ hj]
  have ho : owner_Name.F k (mvE a b (oe l j)).2.1 = some true := by
    unfold mvE
    dsimp only
    split
    · exact hb
    · exact h2
  have hf : (mvE a b (oe l j)).2.2 = if (if (oe l j).2.2 = a then b else (oe l j).2.2) = (mvE a b (oe l j)).2.1 then ⟨#[]⟩ else (if (oe l j).2.2 = a then b else (oe l j).2.2) := rfl
  have hg : (if (oe l j).2.2 = a then b else (oe l j).2.2) ≠ ⟨#[]⟩ → owner_Name.F k (if (oe l j).2.2 = a then b else (oe l j).2.2) = some true := fun hne => by
    by_cases c : (oe l j).2.2 = a
    · rw [if_pos c]; exact hb
    · rw [if_neg c] at hne ⊢; exact h3 hne
  refine ⟨h1, ho, ?_, ?_, fun h0 => ?_⟩
  · rw [hf]
    generalize (if (oe l j).2.2 = a then b else (oe l j).2.2) = f at *
    intro hne
    by_cases c : f = (mvE a b (oe l j)).2.1
    · rw [if_pos c] at hne; exact absurd rfl hne
    · rw [if_neg c] at hne ⊢; exact hg hne
  · rw [hf]
    generalize (if (oe l j).2.2 = a then b else (oe l j).2.2) = f at *
    intro e
    by_cases c : f = (mvE a b (oe l j)).2.1
    · rw [if_pos c] at e; exact name_ne ho e.symm
    · rw [if_neg c] at e; exact c e
  · rw [oe_map _ _ _ (by omega)]
    exact h5 h0

/-! ### The order of texts -/

def ble (x y : List UInt8) : Bool := decide (x ≤ y)
theorem ble_eq (x y : List UInt8) : ble x y = !Op.bytesLess y x := by
  unfold ble
  rw [bytesLess_eq]
  by_cases h : y < x
  · rw [decide_eq_true h, decide_eq_false (p := x ≤ y) (fun q => q h)]; rfl
  · rw [decide_eq_false h, decide_eq_true (p := x ≤ y) h]; rfl

theorem ble_trans (a b c : List UInt8) (h1 : ble a b = true) (h2 : ble b c = true) : ble a c = true := by
  rw [ble_eq, Bool.not_eq_true'] at *
  cases h : Op.bytesLess c a with
  | false => rfl
  | true =>
    cases g : Op.bytesLess a b with
    | true => rw [bl_trans _ _ _ h g] at h2; cases h2
    | false =>
      have := bl_tri _ _ g h1
      rw [this] at h
      rw [h] at h2
      cases h2

theorem ble_total (a b : List UInt8) : (ble a b || ble b a) = true := by
  rw [ble_eq, ble_eq]
  cases h : Op.bytesLess b a with
  | false => rfl
  | true => rw [bl_asymm h]; rfl

theorem strSort_eq {xs ys : List ByteArray} (hp : ys.Perm xs) (hs : ys.Pairwise fun a b => scmp a b < 0) : strSort xs = ys := by
  have e : (xs.map (·.toList)).mergeSort (fun x y => decide (x ≤ y)) = ys.map (·.toList) := by
    refine List.Perm.eq_of_pairwise (le := fun x y => ble x y = true) (fun a b _ _ h1 h2 => ?_) (List.pairwise_mergeSort ble_trans ble_total _) ?_ ((List.mergeSort_perm _ _).trans (hp.map _).symm)
    · rw [ble_eq, Bool.not_eq_true'] at h1 h2
      exact bl_tri _ _ h2 h1
    · refine List.pairwise_map.2 (hs.imp fun {a b} h => ?_)
      rw [ble_eq, bl_asymm (scmp_lt.1 h)]
      rfl
  unfold strSort
  rw [e, List.map_map]
  refine (List.map_congr_left fun x _ => ?_).trans (List.map_id _)
  exact str_back x

/-! ### Concatenation and comparison of texts -/

theorem concat_eq (m : Nat) (x y : List ByteArray) (hx : x.length ≤ 24) (hy : y.length ≤ 24) : slices_Concat_string.F (m + 5) [x, y] = some (x ++ y) := by
  unfold slices_Concat_string.F
  have h1 : slices_Concat_string.l0 (m + 5) [x, y] (m + 5) (0, 0) = some (Sum.inl ((x.length + y.length : Nat) : Int)) := by
    rw [slices_Concat_string.l0_succ]
    unfold slices_Concat_string.l0b
    simp only [List.getD_cons_zero, Int.toNat_zero, List.length_cons, List.length_nil]
    rw [w64_id (n := (0 : Int) + ((x.length : Nat) : Int)) (by omega) (by omega), decide_eq_false (p := (0 : Int) + ((x.length : Nat) : Int) < 0) (by omega)]
    show slices_Concat_string.l0 (m + 5) [x, y] ((m + 3) + 1) ((0 : Int) + ((x.length : Nat) : Int), 1) = _
    rw [slices_Concat_string.l0_succ]
    unfold slices_Concat_string.l0b
    simp only [List.length_cons, List.length_nil]
    rw [show ([x, y] : List (List ByteArray)).getD ((0 : Int) + ((x.length : Nat) : Int), (1 : Int)).2.toNat [] = y from rfl]
    rw [w64_id (n := (0 : Int) + ((x.length : Nat) : Int) + ((y.length : Nat) : Int)) (by omega) (by omega), decide_eq_false (p := (0 : Int) + ((x.length : Nat) : Int) + ((y.length : Nat) : Int) < 0) (by omega)]
    show slices_Concat_string.l0 (m + 5) [x, y] ((m + 2) + 1) ((0 : Int) + ((x.length : Nat) : Int) + ((y.length : Nat) : Int), 2) = _
    rw [slices_Concat_string.l0_succ]
    unfold slices_Concat_string.l0b
    show some (Sum.inl _) = _
    congr 2
    omega
  have h2 : slices_Concat_string.l1 (m + 5) [x, y] (m + 5) (0, []) = some (x ++ y) := by
    rw [slices_Concat_string.l1_succ]
    unfold slices_Concat_string.l1b
    rw [show ([x, y] : List (List ByteArray)).getD ((0 : Int), ([] : List ByteArray)).1.toNat [] = x from rfl]
    rw [Nat.ble_eq_true_of_le (show (([] : List ByteArray).length + x.length) * 16 ≤ 140737488355328 by simp; omega)]
    show slices_Concat_string.l1 (m + 5) [x, y] ((m + 3) + 1) (1, [] ++ x) = _
    rw [slices_Concat_string.l1_succ]
    unfold slices_Concat_string.l1b
    rw [show ([x, y] : List (List ByteArray)).getD ((1 : Int), [] ++ x).1.toNat [] = y from rfl]
    dsimp only
    rw [Nat.ble_eq_true_of_le (show (([] ++ x : List ByteArray).length + y.length) * 16 ≤ 140737488355328 by simp; omega)]
    show slices_Concat_string.l1 (m + 5) [x, y] ((m + 2) + 1) (2, [] ++ x ++ y) = _
    rw [slices_Concat_string.l1_succ]
    unfold slices_Concat_string.l1b
    rfl
  rw [h1]
  simp only [Option.bind_some]
  rw [decide_eq_false (p := ((x.length + y.length : Nat) : Int) < 0) (by omega), w64_id (n := ((x.length + y.length : Nat) : Int) - 0) (by omega) (by omega)]
  simp only [cond_false]
  by_cases hz : x.length + y.length = 0
  · rw [decide_eq_false (p := ((x.length + y.length : Nat) : Int) - 0 > 0) (by omega)]
    simp only [cond_false, Option.bind_some]
    exact h2
  · rw [decide_eq_true (p := ((x.length + y.length : Nat) : Int) - 0 > 0) (by omega), decide_eq_true (p := 1 ≤ ((x.length + y.length : Nat) : Int) - 0) (by omega), decide_eq_true (p := (((x.length + y.length : Nat) : Int) - 0) * (16 : Int) ≤ 140737488355328) (by omega), decide_eq_true (p := (0 : Int) ≤ (((List.replicate (((x.length + y.length : Nat) : Int) - 0).toNat ByteArray.empty).length : Nat) : Int)) (by omega)]
    show (some (List.take 0 _)).bind _ = _
    simp only [List.take_zero, Option.bind_some]
    exact h2

theorem sequal_loop (k : Nat) (l : List ByteArray) (hl : l.length ≤ 48) : ∀ n i : Nat, i ≤ l.length → l.length - i < n → slices_Equal_string.l0 k l l n i = some true := by
  intro n
  induction n with
  | zero => intro i _ h; omega
  | succ n ih =>
    intro i hi hn
    rw [slices_Equal_string.l0_succ]
    unfold slices_Equal_string.l0b
    by_cases hlt : i < l.length
    · rw [decide_eq_true (p := (i : Int) < ((l.length : Nat) : Int)) (by omega), decide_eq_true (p := 0 ≤ (i : Int)) (by omega)]
      simp only [Bool.and_self, cond_true, beq_self_eq_true, Bool.not_true, cond_false]
      rw [show w64 ((i : Int) + 1) = ((i + 1 : Nat) : Int) from w64_id (by omega) (by omega)]
      exact ih (i + 1) (by omega) (by omega)
    · rw [decide_eq_false (p := (i : Int) < ((l.length : Nat) : Int)) (by omega)]
      rfl

theorem sequal_refl (k : Nat) (hk : 100 ≤ k) (l : List ByteArray) (hl : l.length ≤ 48) : slices_Equal_string.F k l l = some true := by
  unfold slices_Equal_string.F
  rw [cond_neg (c := ((l.length : Nat) : Int) != ((l.length : Nat) : Int)) (by simp)]
  exact sequal_loop k l hl k 0 (by omega) (by omega)

/-! ### Both together -/

theorem fls_le (b : ByteArray) (l : List Oe) : (fls b l).length ≤ l.length := by
  unfold fls
  rw [List.length_map]
  exact List.length_filter_le _ _

theorem fls_sorted {k : Nat} {l : List Oe} (h : OwOk k l) (b : ByteArray) : (fls b l).Pairwise fun x y => scmp x y < 0 := by
  have hl : l.Pairwise fun x y => scmp x.1 y.1 < 0 := by
    rw [List.pairwise_iff_getElem]
    intro i j hi hj hij
    have := ow_sorted h hij hj
    unfold oe at this
    simpa [List.getD, hi, hj] using this
  unfold fls
  exact List.pairwise_map.2 (hl.filter _)

theorem fls_mv (a b : ByteArray) (hab : a ≠ b) : ∀ l : List Oe, (fls b (l.map (mvE a b))).Perm (fls a l ++ fls b l) ∧ fls a (l.map (mvE a b)) = []
  | [] => ⟨by simp [fls], by simp [fls]⟩
  | e :: l => by
    obtain ⟨ih, ih2⟩ := fls_mv a b hab l
    rw [List.map_cons, fls_cons, fls_cons, fls_cons, fls_cons]
    have ho : (mvE a b e).2.1 = if e.2.1 = a then b else e.2.1 := rfl
    have hc : (mvE a b e).1 = e.1 := rfl
    rw [ho, hc]
    by_cases h1 : e.2.1 = a
    · rw [if_pos h1, if_pos rfl, if_pos h1, if_neg (fun q => hab (h1.symm.trans q)), if_neg (Ne.symm hab)]
      exact ⟨by rw [List.cons_append]; exact ih.cons _, ih2⟩
    · rw [if_neg h1, if_neg h1]
      by_cases h2 : e.2.1 = b
      · rw [if_pos h2, if_pos h2, if_neg h1]
        exact ⟨(ih.cons _).trans List.perm_middle.symm, ih2⟩
      · rw [if_neg h2, if_neg h2, if_neg h1]
        exact ⟨ih, ih2⟩

theorem mv_same {k : Nat} {l : List Oe} (h : OwOk k l) (a : ByteArray) : l.map (mvE a a) = l := by
  refine List.ext_getElem (by simp) fun j h1 h2 => ?_
  have := h.2 j h2
  unfold OeOk at this
  have e : oe l j = l[j] := by unfold oe; simp [List.getD, h2]
  rw [e] at this
  rw [List.getElem_map]
  generalize l[j] = x at *
  obtain ⟨c, o, f⟩ := x
  unfold mvE
  dsimp only at this ⊢
  have e1 : (if o = a then a else o) = o := by split <;> simp_all
  have e2 : (if f = a then a else f) = f := by split <;> simp_all
  rw [e1, e2, if_neg this.2.2.2.1]

attribute [local irreducible] owner_Move.F slices_Concat_string.F slices_Equal_string.F slices_Equal_api_OwnerEntry.F

theorem OwnerMerges_plain (m : Nat) (hf : skywaykeep3_ownerFact.F (m + 340) = some true) (l : List Oe) (a b : ByteArray) : skywaykeep3_OwnerMerges.F (m + 340) l a b = some true := by
  unfold skywaykeep3_OwnerMerges.F
  rw [hf]
  simp only [Option.bind_some, Bool.not_true, cond_false]
  rcases move_cases (m + 340) (by omega) l a b with ⟨r, hr, he⟩ | ⟨h, na, nb, hr⟩
  · rw [hr]
    simp only [Option.bind_some]
    rw [cond_pos (c := r.2 != 0) (by simpa using he)]
  rw [hr]
  simp only [Option.bind_some]
  have hm := mv_ok (a := a) h nb
  have hl := h.1
  have h1 := fls_le a l
  have h2 := fls_le b l
  have h3 := fls_le b (l.map (mvE a b))
  rw [List.length_map] at h3
  rw [cond_neg (c := (0 : Int) != 0) (by rfl), flights_eq (m + 340) (by omega) l h a, flights_eq (m + 340) (by omega) l h b, flights_eq (m + 340) (by omega) _ hm b, flights_eq (m + 340) (by omega) _ hm a, ocheck_ok (m + 340) (by omega) _ hm]
  simp only [Option.bind_some]
  rw [show ((0 : Int) != 0) = false from rfl, bytes_eq]
  simp only [cond_false, Option.bind_some]
  by_cases hab : a = b
  · subst hab
    rw [decide_eq_true rfl, mv_same h, sequal_refl (m + 340) (by omega) _ (by omega), oequal_refl (m + 340) (by omega) l hl]
    rfl
  · rw [decide_eq_false hab]
    simp only [cond_false]
    obtain ⟨p1, p2⟩ := fls_mv a b hab l
    rw [show m + 340 = (m + 335) + 5 from rfl, concat_eq (m + 335) _ _ (by omega) (by omega)]
    simp only [Option.bind_some]
    unfold strSortO
    rw [show Nat.blt (fls a l ++ fls b l).length 4611686018427387904 = true by
      rw [List.length_append]
      exact Nat.ble_eq_true_of_le (by omega), strSort_eq p1 (fls_sorted hm b)]
    simp only [cond_true, Option.bind_some]
    rw [sequal_refl ((m + 335) + 5) (by omega) _ (by omega), p2]
    rfl

attribute [local irreducible] skywaykeep3_OwnerMerges.F
theorem merges_cal (k : Nat) (x : DatPs (skywaykeep3_OwnerMerges.C 0).ats) : (skywaykeep3_OwnerMerges.C k).F x = skywaykeep3_OwnerMerges.F k x.1 x.2.1 x.2.2 := rfl
theorem OwnerMerges_law (x : DatPs (skywaykeep3_OwnerMerges.C 0).ats) (_ : FitPs (skywaykeep3_OwnerMerges.C 0).ats x) : ∃ k, (skywaykeep3_OwnerMerges.C k).F x = some true :=
  ⟨0 + 340, (merges_cal _ x).trans (OwnerMerges_plain 0 (ofact 300) x.1 x.2.1 x.2.2)⟩

end Go.Proofs.Ytdfopdlmdminbaa.RT
