/- What is proved here: what the search for the best order comes to: a plain recursion. It asks nothing. -/
import Derived.Test.YtlaejfnmhfkdpaaSqT
import Derived.Test.YtlaejfnmhfkdpaaSeqA
namespace Go.Proofs.Ytlaejfnmhfkdpaa.RT
open Go Go.R

attribute [local irreducible] cmp_Compare_int.F cmp_Or_int.F sequence_next.F

/-! ### Lists compared -/

def lcmp : List Int → List Int → Int
  | [], [] => 0
  | [], _ :: _ => -1
  | _ :: _, [] => 1
  | a :: r, b :: s => if icmp a b = 0 then lcmp r s else icmp a b

theorem compare_loop (k : Nat) (a b : List Int) (ha : a.length ≤ 256) : ∀ n i : Nat, i ≤ a.length → i ≤ b.length → a.length - i < n →
    slices_Compare_int.l0 k a b n i = some (if (a.drop i).length ≤ (b.drop i).length ∧ a.drop i = (b.drop i).take (a.drop i).length then Sum.inl () else Sum.inr (lcmp (a.drop i) (b.drop i))) := by
  intro n
  induction n with
  | zero => intro i _ _ h; omega
  | succ n ih =>
    intro i hi hb hn
    rw [slices_Compare_int.l0_succ]
    unfold slices_Compare_int.l0b
    by_cases hlt : i < a.length
    · rw [cond_pos (decide_eq_true (by omega)), cond_pos (inIdx (by omega) (by omega)), drop_cons hlt 0, getD_nat]
      by_cases hlb : i < b.length
      · rw [cond_neg (decide_eq_false (by omega)), cond_pos (inIdx (by omega) (by omega)), getD_nat, drop_cons hlb 0, cmpi_eq]
        simp only [Option.bind_some, lcmp, List.length_cons, List.take_succ_cons, List.cons.injEq]
        by_cases hc : icmp (a.getD i 0) (b.getD i 0) = 0
        · rw [cond_neg (by simpa using hc), if_pos hc, show w64 ((i : Int) + 1) = ((i + 1 : Nat) : Int) from w64_id (by omega) (by omega), ih (i + 1) (by omega) (by omega) (by omega)]
          have := icmp_zero.1 hc
          simp only [this, true_and, Nat.add_le_add_iff_right]
        · rw [cond_pos (by simpa using hc), if_neg hc, if_neg (fun h => hc (icmp_zero.2 h.2.1))]
          rfl
      · have hbn : b.drop i = [] := List.drop_eq_nil_of_le (by omega)
        rw [cond_pos (decide_eq_true (by omega)), hbn]
        simp [lcmp]
    · have han : a.drop i = [] := List.drop_eq_nil_of_le (by omega)
      rw [cond_neg (decide_eq_false (by omega)), han]
      simp

theorem lcmp_pre : ∀ a b : List Int, a.length ≤ b.length → a = b.take a.length → lcmp a b = if a.length < b.length then -1 else 0
  | [], [], _, _ => by simp [lcmp]
  | [], _ :: _, _, _ => by simp [lcmp]
  | _ :: _, [], h, _ => by simp at h
  | a :: r, b :: s, h, e => by
    simp only [List.length_cons, List.take_succ_cons, List.cons.injEq] at h e
    rw [lcmp, if_pos (icmp_zero.2 e.1), lcmp_pre r s (by omega) e.2]
    simp

theorem compare_eq (k : Nat) (hk : 300 ≤ k) (a b : List Int) (ha : a.length ≤ 256) : slices_Compare_int.F k a b = some (lcmp a b) := by
  unfold slices_Compare_int.F
  have := compare_loop k a b ha k 0 (by omega) (by omega) (by omega)
  rw [show ((0 : Nat) : Int) = 0 from rfl, List.drop_zero, List.drop_zero] at this
  rw [this]
  simp only [Option.bind_some]
  by_cases h : a.length ≤ b.length ∧ a = b.take a.length
  · rw [if_pos h]
    simp only
    rw [lcmp_pre a b h.1 h.2]
    by_cases g : a.length < b.length
    · rw [cond_pos (decide_eq_true (by omega)), if_pos g]
    · rw [cond_neg (decide_eq_false (by omega)), if_neg g]
  · rw [if_neg h]

attribute [local irreducible] slices_Compare_int.F

theorem cloneI (k : Nat) (l : List Int) (h : l.length ≤ 256) : slices_Clone_int.F k l = some l := by
  unfold slices_Clone_int.F
  rw [cond_pos (Nat.ble_eq_true_of_le (by omega)), List.nil_append]

attribute [local irreducible] slices_Clone_int.F

/-! ### The search -/

/-- What was found: whether; the order; its last landing; the sum of delays. -/
abbrev SS := Bool × List Int × Int × Int

def betterS (s : SS) (o : List Int) (at_ dl : Int) : Bool :=
  if s.1 = false ∨ at_ ≠ s.2.2.1 then (!s.1 || decide (at_ < s.2.2.1)) else decide ((if icmp dl s.2.2.2 = 0 then lcmp o s.2.1 else icmp dl s.2.2.2) < 0)

def roundS (l : List Arr) (t : Tab) (pl : List Int) (sh : Int) (rec : List Int → Int → Int → Int → SS → SS) (o : List Int) (last at_ dl : Int) (s : SS) (k : Nat) : SS :=
  if (k : Int) ∈ o ∨ sh < mx ((o.length : Int) - pl.getD k 0) (pl.getD k 0 - (o.length : Int)) then s
  else if (ar l k).2.2.2 < nxt l t last k at_ ∨ (s.1 = true ∧ s.2.2.1 < nxt l t last k at_) then s
  else rec (o ++ [(k : Int)]) k (nxt l t last k at_) (dl + nxt l t last k at_ - (ar l k).2.2.1) s

def stepS (l : List Arr) (t : Tab) (pl : List Int) (sh : Int) : Nat → List Int → Int → Int → Int → SS → SS
  | 0, o, _, at_, dl, s => if betterS s o at_ dl = true then (true, o, at_, dl) else s
  | d + 1, o, last, at_, dl, s => (List.range l.length).foldl (fun s k => roundS l t pl sh (stepS l t pl sh d) o last at_ dl s k) s

theorem stepS_len (l : List Arr) (t : Tab) (pl : List Int) (sh : Int) : ∀ (d : Nat) (o : List Int) (last at_ dl : Int) (s : SS), o.length + d ≤ 8 → s.2.1.length ≤ 8 → (stepS l t pl sh d o last at_ dl s).2.1.length ≤ 8 := by
  intro d
  induction d with
  | zero =>
    intro o last at_ dl s h hs
    unfold stepS
    split
    · exact h
    · exact hs
  | succ d ih =>
    intro o last at_ dl s h hs
    unfold stepS
    generalize List.range l.length = ks
    induction ks generalizing s with
    | nil => exact hs
    | cons k ks ihk =>
      rw [List.foldl_cons]
      refine ihk _ ?_
      unfold roundS
      split
      · exact hs
      · split
        · exact hs
        · exact ih _ _ _ _ _ (by simp; omega) hs

theorem better_eq (k : Nat) (hk : 300 ≤ k) (s : SS) (o : List Int) (at_ dl : Int) (ho : o.length ≤ 8) :
    ((bif (!s.1) then some true else some (at_ != s.2.2.1)).bind fun b1 => bif b1 then (bif (!s.1) then some true else some (decide (at_ < s.2.2.1))).bind fun b2 => some b2 else (cmp_Compare_int.F k dl s.2.2.2).bind fun r3 => (slices_Compare_int.F k o s.2.1).bind fun r4 => (cmp_Or_int.F k [r3, r4]).bind fun r5 => some (decide (r5 < 0))) = some (betterS s o at_ dl) := by
  unfold betterS
  obtain ⟨m, rfl⟩ : ∃ m, k = m + 5 := ⟨k - 5, by omega⟩
  cases h : s.1 with
  | false => simp
  | true =>
    by_cases g : at_ = s.2.2.1
    · rw [if_neg (by simpa using g), cmpi_eq, compare_eq _ hk _ _ (by omega)]
      simp only [g, bne_self_eq_false, Bool.not_true, cond_false, Option.bind_some]
      rw [or2_eq]
      rfl
    · rw [if_pos (.inr g)]
      have : (at_ != s.2.2.1) = true := by simpa using g
      simp [this]

def mkX (l : List Arr) (t : Tab) (pl : List Int) (sh : Int) (o : List Int) (U : List Bool) (s : SS) (i : Int) : (Int × (List (ByteArray × Int × Int × Int)) × Int × Int × Int × Int × Int × Int × Int × Int × Int × Int × Int × Int × Int × Int × Int × Int × (List Int) × Int × Bool × Int × Int) × (List Int) × (List Bool) × List Int :=
  ((i, l, t.1.1, t.1.2.1, t.1.2.2.1, t.1.2.2.2, t.2.1.1, t.2.1.2.1, t.2.1.2.2.1, t.2.1.2.2.2, t.2.2.1.1, t.2.2.1.2.1, t.2.2.1.2.2.1, t.2.2.1.2.2.2, t.2.2.2.1, t.2.2.2.2.1, t.2.2.2.2.2.1, t.2.2.2.2.2.2, pl, sh, s.1, s.2.2.1, s.2.2.2), o, U, s.2.1)

abbrev Out := ((List Arr) × Tab × (List Int) × Int × (List Int) × (List Bool) × Bool × (List Int) × Int × Int) × Unit
abbrev VT := (List Arr) → Tab → (List Int) → Int → List Int → List Bool → Bool → List Int → Int → Int → Int → Int → Int → Option Out

theorem l0b_eq (k : Nat) (l : List Arr) (last at_ dl : Int) (V : VT) (self : ((Int × (List (ByteArray × Int × Int × Int)) × Int × Int × Int × Int × Int × Int × Int × Int × Int × Int × Int × Int × Int × Int × Int × Int × (List Int) × Int × Bool × Int × Int) × (List Int) × (List Bool) × List Int) → Option Out) (t : Tab) (pl : List Int) (sh : Int) (o : List Int) (U : List Bool) (s : SS) (i : Int) :
    sequence_search_step.l0b k l last at_ dl V self (mkX l t pl sh o U s i) =
      bif (decide (i < ((l.length : Nat) : Int))) then (bif (decide (0 ≤ i) && decide (i < ((U.length : Nat) : Int))) then bif (U.getD i.toNat false) then some (Sum.inl true) else bif (decide (0 ≤ i) && decide (i < ((pl.length : Nat) : Int))) then bif (decide (0 ≤ i) && decide (i < ((pl.length : Nat) : Int))) then some (Sum.inl (decide ((mx (w64 (((o.length : Nat) : Int) - (pl.getD i.toNat 0))) (w64 ((pl.getD i.toNat 0) - ((o.length : Nat) : Int)))) > sh))) else none else none else none).bind fun (y : Bool ⊕ Out) => match y with
        | Sum.inl b => bif b then self (mkX l t pl sh o U s (w64 (i + 1))) else (sequence_next.F k l t last i at_).bind fun x => bif (decide (0 ≤ i) && decide (i < ((l.length : Nat) : Int))) then (bif (decide (x > (((l.getD i.toNat (ByteArray.empty, (0, (0, 0)))).2).2).2)) then some true else (bif s.1 then some (decide (x > s.2.2.1)) else some false).bind fun b => some b).bind fun c => bif c then self (mkX l t pl sh o U s (w64 (i + 1)))
          else bif (decide (0 ≤ i) && decide (i < ((U.length : Nat) : Int))) then bif (Nat.ble ((o.length + 1) * 8) 140737488355328) then bif (decide (0 ≤ i) && decide (i < ((l.length : Nat) : Int))) then (V l t pl sh (o ++ [i]) (U.set i.toNat true) s.1 s.2.1 s.2.2.1 s.2.2.2 i x (w64 ((w64 (dl + x)) - ((((l.getD i.toNat (ByteArray.empty, (0, (0, 0)))).2).2).1)))).bind fun r =>
            bif (decide (0 ≤ ((o.length : Nat) : Int)) && decide (((o.length : Nat) : Int) ≤ ((r.1.2.2.2.2.1.length : Nat) : Int))) then bif (decide (0 ≤ i) && decide (i < ((r.1.2.2.2.2.2.1.length : Nat) : Int))) then self (mkX r.1.1 r.1.2.1 r.1.2.2.1 r.1.2.2.2.1 (r.1.2.2.2.2.1.take (((o.length : Nat) : Int).toNat)) (r.1.2.2.2.2.2.1.set i.toNat false) r.1.2.2.2.2.2.2 (w64 (i + 1))) else none else none else none else none else none else none
        | Sum.inr y => some y
      else some ((l, t, pl, sh, o, U, s), ()) := by kernel_rfl

/-- Which are in use. -/
def UsOk (U : List Bool) (o : List Int) (n : Nat) : Prop := U.length = n ∧ ∀ k, k < n → U.getD k false = decide ((k : Int) ∈ o)
def PlOk (pl : List Int) (n : Nat) : Prop := pl.length = n ∧ ∀ k, k < n → 0 ≤ pl.getD k 0 ∧ pl.getD k 0 ≤ 8

theorem UsOk.set {U : List Bool} {o : List Int} {n k : Nat} (h : UsOk U o n) (hk : k < n) : UsOk (U.set k true) (o ++ [(k : Int)]) n := by
  refine ⟨by rw [List.length_set]; exact h.1, fun j hj => ?_⟩
  rw [List.getD_eq_getElem?_getD, List.getElem?_set]
  by_cases e : k = j
  · subst e
    rw [if_pos rfl, if_pos (by rw [h.1]; exact hk)]
    simp
  · rw [if_neg e, ← List.getD_eq_getElem?_getD, h.2 j hj]
    have : (j : Int) ≠ k := by omega
    simp [this]

theorem set_back {U : List Bool} {k : Nat} (h : k < U.length) (hf : U.getD k false = false) : (U.set k true).set k false = U := by
  apply List.ext_getElem?
  intro j
  rw [List.set_set, List.getElem?_set]
  split
  · rename_i e
    subst e
    rw [List.getD_eq_getElem?_getD, List.getElem?_eq_getElem h] at hf
    rw [List.getElem?_eq_getElem h]
    simpa [h] using hf.symm
  · rfl

theorem step_loop (k : Nat) (_hk : 300 ≤ k) {q : Nat} {l : List Arr} {t : Tab} (hl : ArrOk q l) (ht : TabOk t) {pl : List Int} (hpl : PlOk pl l.length) (sh : Int) (V : VT) (d : Nat) (o : List Int) (U : List Bool) (hod : o.length + (d + 1) = l.length) (hU : UsOk U o l.length) {last at_ dl : Int} (hlast : last < l.length) (ha : 0 ≤ at_ ∧ at_ ≤ 200000) (hdl : 0 ≤ dl ∧ dl ≤ 300000 * o.length)
    (hV : ∀ (j : Nat) (x dl' : Int) (s : SS), j < l.length → UsOk (U.set j true) (o ++ [(j : Int)]) l.length → 0 ≤ x → x ≤ 200000 → 0 ≤ dl' → dl' ≤ 300000 * ((o.length + 1 : Nat) : Int) → s.2.1.length ≤ 8 → V l t pl sh (o ++ [(j : Int)]) (U.set j true) s.1 s.2.1 s.2.2.1 s.2.2.2 j x dl' = some ((l, t, pl, sh, o ++ [(j : Int)], U.set j true, stepS l t pl sh d (o ++ [(j : Int)]) j x dl' s), ())) :
    ∀ (n i : Nat) (s : SS), i ≤ l.length → l.length - i < n → s.2.1.length ≤ 8 →
      sequence_search_step.l0 k l last at_ dl V n (mkX l t pl sh o U s i) = some ((l, t, pl, sh, o, U, (List.range' i (l.length - i)).foldl (fun s k => roundS l t pl sh (stepS l t pl sh d) o last at_ dl s k) s), ()) := by
  intro n
  have hl8 := hl.len
  induction n with
  | zero => intro i _ _ h; omega
  | succ n ih =>
    intro i s hi hn hs
    rw [sequence_search_step.l0_succ, l0b_eq]
    by_cases hlt : i < l.length
    · have hp := hpl.2 i hlt
      have hin : ((i : Int) : Int).toNat = i := Int.toNat_natCast i
      have iI : (decide (0 ≤ (i : Int)) && decide ((i : Int) < ((l.length : Nat) : Int))) = true := inIdx (by omega) (by omega)
      have iU : (decide (0 ≤ (i : Int)) && decide ((i : Int) < ((U.length : Nat) : Int))) = true := inIdx (by omega) (by rw [hU.1]; omega)
      have iP : (decide (0 ≤ (i : Int)) && decide ((i : Int) < ((pl.length : Nat) : Int))) = true := inIdx (by omega) (by rw [hpl.1]; omega)
      have hw : w64 ((i : Int) + 1) = ((i + 1 : Nat) : Int) := w64_id (by omega) (by omega)
      have hrange : List.range' i (l.length - i) = i :: List.range' (i + 1) (l.length - (i + 1)) := by
        rw [show l.length - i = (l.length - (i + 1)) + 1 by omega, List.range'_succ]
      rw [hrange, List.foldl_cons, cond_pos (decide_eq_true (by omega)), cond_pos iU, hin, hU.2 i hlt, hw]
      have e1 : (bif decide ((i : Int) ∈ o) then some (Sum.inl true) else bif (decide (0 ≤ (i : Int)) && decide ((i : Int) < ((pl.length : Nat) : Int))) then bif (decide (0 ≤ (i : Int)) && decide ((i : Int) < ((pl.length : Nat) : Int))) then some (Sum.inl (decide ((mx (w64 (((o.length : Nat) : Int) - (pl.getD i 0))) (w64 ((pl.getD i 0) - ((o.length : Nat) : Int)))) > sh))) else none else none : Option (Bool ⊕ Out)) =
          some (Sum.inl (decide ((i : Int) ∈ o ∨ sh < mx ((o.length : Int) - pl.getD i 0) (pl.getD i 0 - (o.length : Int))))) := by
        rw [cond_pos iP, cond_pos iP, w64_id (by omega) (by omega), w64_id (by omega) (by omega)]
        by_cases c : (i : Int) ∈ o
        · rw [cond_pos (decide_eq_true c), decide_eq_true (p := (i : Int) ∈ o ∨ _) (.inl c)]
        · rw [cond_neg (decide_eq_false c)]
          congr 2
          simp only [c, false_or, gt_iff_lt]
      rw [e1]
      simp only [Option.bind_some]
      unfold roundS
      by_cases c1 : (i : Int) ∈ o ∨ sh < mx ((o.length : Int) - pl.getD i 0) (pl.getD i 0 - (o.length : Int))
      · rw [cond_pos (decide_eq_true c1), if_pos c1]
        exact ih (i + 1) s (by omega) (by omega) hs
      · rw [cond_neg (decide_eq_false c1), if_neg c1, next_eq k hl ht ⟨by omega, by omega⟩ hlast ⟨ha.1, by omega⟩]
        simp only [Option.bind_some]
        rw [cond_pos iI, ar_eq]
        have e2 : (bif (decide (nxt l t last (i : Int) at_ > (ar l i).2.2.2)) then some true else (bif s.1 then some (decide (nxt l t last (i : Int) at_ > s.2.2.1)) else some false).bind fun b => some b) =
            some (decide ((ar l i).2.2.2 < nxt l t last i at_ ∨ (s.1 = true ∧ s.2.2.1 < nxt l t last i at_))) := by
          by_cases c : (ar l i).2.2.2 < nxt l t last i at_
          · rw [cond_pos (decide_eq_true c), decide_eq_true (p := _ ∨ _) (.inl c)]
          · rw [cond_neg (decide_eq_false c)]
            cases h : s.1 with
            | false => simp [c]
            | true => simp [c]
        rw [e2]
        simp only [Option.bind_some]
        by_cases c2 : (ar l i).2.2.2 < nxt l t last i at_ ∨ (s.1 = true ∧ s.2.2.1 < nxt l t last i at_)
        · rw [cond_pos (decide_eq_true c2), if_pos c2]
          exact ih (i + 1) s (by omega) (by omega) hs
        · have hb := nxt_bounds hl ht (x := (i : Int)) (i := last) (at_ := at_) ⟨by omega, by omega⟩ hlast ha
          rw [hin] at hb
          have hm := (hl.each i hlt).most
          have h0 := (hl.each i hlt).from0
          have c3 : nxt l t last i at_ ≤ (ar l i).2.2.2 := by
            exact Int.not_lt.1 fun h => c2 (.inl h)
          rw [cond_neg (decide_eq_false c2), if_neg c2, cond_pos iU, cond_pos (Nat.ble_eq_true_of_le (by omega)), cond_pos iI, w64_id (n := dl + _) (by omega) (by omega), w64_id (by omega) (by omega),
            hV i _ _ s hlt (hU.set hlt) hb.2.1 (by omega) (by omega) (by omega) hs]
          simp only [Option.bind_some]
          rw [cond_pos (inIdx2 (by simp)), cond_pos (inIdx (by omega) (by rw [List.length_set, hU.1]; omega)), Int.toNat_natCast, List.take_left', set_back (by rw [hU.1]; exact hlt) (by rw [hU.2 i hlt]; exact decide_eq_false fun c => c1 (.inl c))]
          · exact ih (i + 1) _ (by omega) (by omega) (stepS_len l t pl sh d _ _ _ _ _ (by simp; omega) hs)
          · rfl
    · rw [cond_neg (decide_eq_false (by omega)), show l.length - i = 0 by omega]
      rfl
where
  inIdx2 {a b : Nat} (h : a ≤ b) : (decide (0 ≤ (a : Int)) && decide ((a : Int) ≤ ((b : Nat) : Int))) = true := by
    rw [decide_eq_true (p := 0 ≤ (a : Int)) (by omega), decide_eq_true (p := (a : Int) ≤ ((b : Nat) : Int)) (by omega)]; rfl

theorem step_eq (K : Nat) (hK : 300 ≤ K) {q : Nat} {l : List Arr} {t : Tab} (hl : ArrOk q l) (ht : TabOk t) {pl : List Int} (hpl : PlOk pl l.length) (sh : Int) : ∀ (d : Nat) (o : List Int) (U : List Bool) (last at_ dl : Int) (s : SS), o.length + d = l.length → UsOk U o l.length → last < l.length → 0 ≤ at_ → at_ ≤ 200000 → 0 ≤ dl → dl ≤ 300000 * o.length → s.2.1.length ≤ 8 →
    sequence_search_step.F (K + d + 1) l t pl sh o U s.1 s.2.1 s.2.2.1 s.2.2.2 last at_ dl = some ((l, t, pl, sh, o, U, stepS l t pl sh d o last at_ dl s), ()) := by
  intro d
  induction d with
  | zero =>
    intro o U last at_ dl s hod hU hlast ha0 ha hd0 hd hs
    have hl8 := hl.len
    show sequence_search_step.G K (sequence_search_step.F K) l t pl sh o U s.1 s.2.1 s.2.2.1 s.2.2.2 last at_ dl = _
    unfold sequence_search_step.G
    rw [cond_pos (c := ((o.length : Nat) : Int) == ((l.length : Nat) : Int)) (by simp; omega), better_eq K hK s o at_ dl (by omega)]
    simp only [Option.bind_some]
    unfold stepS
    cases betterS s o at_ dl with
    | true =>
      rw [cond_true, cloneI K o (by omega), if_pos rfl]
      rfl
    | false => rfl
  | succ d ih =>
    intro o U last at_ dl s hod hU hlast ha0 ha hd0 hd hs
    show sequence_search_step.G (K + d + 1) (sequence_search_step.F (K + d + 1)) l t pl sh o U s.1 s.2.1 s.2.2.1 s.2.2.2 last at_ dl = _
    unfold sequence_search_step.G
    rw [cond_neg (c := ((o.length : Nat) : Int) == ((l.length : Nat) : Int)) (by simp; omega)]
    have hl8 := hl.len
    have := step_loop (K + d + 1) (by omega) hl ht hpl sh (sequence_search_step.F (K + d + 1)) d o U hod hU (last := last) (at_ := at_) (dl := dl) hlast ⟨ha0, ha⟩ ⟨hd0, hd⟩
      (fun j x dl' s' hj hU' hx0 hx hd0' hd' hs' => ih _ _ _ _ _ s' (by simp; omega) hU' (by omega) hx0 hx hd0' (by simpa using hd') hs') (K + d + 1) 0 s (by omega) (by omega) hs
    rw [Nat.sub_zero, ← List.range_eq_range'] at this
    unfold stepS
    exact this

end Go.Proofs.Ytlaejfnmhfkdpaa.RT
