/- What is proved here: what the natural order and the best order of arrivals come to. They ask nothing. -/
import Derived.Test.YtlaejfnmhfkdpaaSqT
import Derived.Test.YtlaejfnmhfkdpaaSeqD
import Derived.Test.YtlaejfnmhfkdpaaStrB
namespace Go.Proofs.Ytlaejfnmhfkdpaa.RT
open Go Go.R

attribute [local irreducible] cmp_Compare_int.F cmp_Compare_string.F cmp_Or_int.F sequence_next.F sequence_both.F sequence_search_step.F sequence_Times.F

/-! ### The natural order -/

def natL (n : Nat) : List Int := (List.range n).map fun (j : Nat) => (j : Int)

theorem mem_natL {n : Nat} {x : Int} : x ∈ natL n ↔ 0 ≤ x ∧ x < n := by
  unfold natL
  rw [List.mem_map]
  constructor
  · rintro ⟨j, hj, rfl⟩
    have := List.mem_range.1 hj
    omega
  · intro h
    exact ⟨x.toNat, List.mem_range.2 (by omega), by omega⟩

theorem natL_nodup (n : Nat) : (natL n).Nodup := by
  unfold natL List.Nodup
  rw [List.pairwise_map]
  exact (List.nodup_range (n := n)).imp fun h e => h (by omega)

theorem natL_len (n : Nat) : (natL n).length = n := by simp [natL]

theorem natural_loop (k : Nat) (l : List Arr) (hl : l.length ≤ 8) : ∀ n i : Nat, i ≤ l.length → l.length - i < n → sequence_natural.l0 k l n ((i : Int), natL i) = some (Sum.inl (natL l.length)) := by
  intro n
  induction n with
  | zero => intro i _ h; omega
  | succ n ih =>
    intro i hi hn
    rw [sequence_natural.l0_succ]
    unfold sequence_natural.l0b
    dsimp only
    by_cases hlt : i < l.length
    · rw [cond_pos (decide_eq_true (by omega)), cond_pos (Nat.ble_eq_true_of_le (by rw [natL_len]; omega)), show w64 ((i : Int) + 1) = ((i + 1 : Nat) : Int) from w64_id (by omega) (by omega)]
      have e : natL i ++ [(i : Int)] = natL (i + 1) := by simp [natL, List.range_succ]
      rw [e]
      exact ih (i + 1) (by omega) (by omega)
    · rw [cond_neg (decide_eq_false (by omega)), show i = l.length by omega]

def acmp (l : List Arr) (a b : Int) : Int := iscmp (ar l a.toNat).2.2.1 (ar l a.toNat).1 (ar l b.toNat).2.2.1 (ar l b.toNat).1

theorem acmp_ok (l : List Arr) : CmpOk (acmp l) := iscmp_ok (fun a : Int => (ar l a.toNat).2.2.1) (fun a : Int => (ar l a.toNat).1)

theorem natural_1_eq (m : Nat) {l : List Arr} {a b : Int} (ha : 0 ≤ a ∧ a < l.length) (hb : 0 ≤ b ∧ b < l.length) : sequence_natural_1.F (m + 5) a b l = some (acmp l a b) := by
  unfold sequence_natural_1.F
  rw [cond_pos (inIdx ha.1 ha.2), cond_pos (inIdx hb.1 hb.2), cmpi_eq, ar_eq, ar_eq]
  simp only [Option.bind_some]
  rw [cond_pos (inIdx ha.1 ha.2), cond_pos (inIdx hb.1 hb.2), cmps_eq]
  simp only [Option.bind_some]
  rw [or2_eq]
  rfl

attribute [local irreducible] sequence_natural_1.F

def NatOk (l : List Arr) (N : List Int) : Prop := N.Perm (natL l.length) ∧ N.Pairwise fun a b => acmp l a b < 0

theorem nat_apart {q : Nat} {l : List Arr} (hl : ArrOk q l) : (natL l.length).Pairwise fun a b => acmp l a b ≠ 0 := by
  refine (natL_nodup l.length).imp_of_mem fun {a b} ha hb hab h => ?_
  have ha := mem_natL.1 ha
  have hb := mem_natL.1 hb
  have e := ba_inj (iscmp_zero h)
  rcases Nat.lt_trichotomy a.toNat b.toNat with g | g | g
  · exact hl.apart b.toNat a.toNat (by omega) g e
  · exact hab (by omega)
  · exact hl.apart a.toNat b.toNat (by omega) g e.symm

theorem nat_sorted (m : Nat) {q : Nat} {l : List Arr} (hl : ArrOk q l) {N : List Int} (h : NatOk l N) : SortedBy (fun a b => sequence_natural_1.F (m + 5) a b l) (natL l.length) N :=
  ⟨by rw [natL_len]; have := hl.len; omega, acmp l, acmp_ok l, fun x hx y hy => natural_1_eq m (mem_natL.1 hx) (mem_natL.1 hy), nat_apart hl, h.1, h.2⟩

theorem nat_exists (m : Nat) {q : Nat} {l : List Arr} (hl : ArrOk q l) : ∃ N, NatOk l N := by
  obtain ⟨N, h⟩ := sorted_exists (cmp := fun a b => sequence_natural_1.F (m + 5) a b l) (acmp_ok l) (show (natL l.length).length < 4611686018427387904 by rw [natL_len]; have := hl.len; omega) (fun x hx y hy => natural_1_eq m (mem_natL.1 hx) (mem_natL.1 hy)) (nat_apart hl)
  obtain ⟨_, cf, _, h2, _, h4, h5⟩ := h
  refine ⟨N, h4, h5.imp_of_mem fun {a b} ha hb hab => ?_⟩
  have e : sequence_natural_1.F (m + 5) a b l = some (cf a b) := h2 a (h4.mem_iff.1 ha) b (h4.mem_iff.1 hb)
  rw [natural_1_eq m (mem_natL.1 (h4.mem_iff.1 ha)) (mem_natL.1 (h4.mem_iff.1 hb))] at e
  rw [Option.some.inj e]
  exact hab

theorem natural_eq (m : Nat) (hm : 20 ≤ m) {q : Nat} {l : List Arr} (hl : ArrOk q l) {N : List Int} (h : NatOk l N) : sequence_natural.F (m + 5) l = some N := by
  unfold sequence_natural.F
  have := natural_loop (m + 5) l hl.len (m + 5) 0 (by omega) (by have := hl.len; omega)
  rw [show ((0 : Nat) : Int) = 0 from rfl, show natL 0 = [] from rfl] at this
  rw [this]
  simp only [Option.bind_some]
  rw [sortO_eq (nat_sorted m hl h)]
  rfl

theorem NatOk.perm {l : List Arr} {N : List Int} (h : NatOk l N) : IsPerm N l.length :=
  ⟨by rw [h.1.length_eq, natL_len], fun x hx => mem_natL.1 (h.1.mem_iff.1 hx), h.1.nodup_iff.2 (natL_nodup _)⟩

theorem NatOk.late {b : Int} {l l' : List Arr} (h : Later b l l') {N : List Int} (hN : NatOk l N) : NatOk l' N := by
  refine ⟨by rw [h.1]; exact hN.1, hN.2.imp_of_mem fun {x y} hx hy hxy => ?_⟩
  have hx := hN.perm.2.1 x hx
  have hy := hN.perm.2.1 y hy
  unfold acmp at hxy ⊢
  rw [h.2 x.toNat (by omega), h.2 y.toNat (by omega)]
  dsimp only
  rw [iscmp_lt] at hxy ⊢
  omega

attribute [local irreducible] sequence_natural.F

/-! ### Places -/

def plOf (N : List Int) (n : Nat) : List Int := (List.range' 0 N.length).foldl (fun pl p => pl.set (N.getD p 0).toNat (p : Int)) (List.replicate n 0)

theorem pl_fold {n : Nat} (N : List Int) (hN : IsPerm N n) : ∀ (c i : Nat) (pl : List Int), i + c = n → pl.length = n → (∀ p, p < i → pl.getD (N.getD p 0).toNat 0 = (p : Int)) → (∀ x, x < n → 0 ≤ pl.getD x 0 ∧ pl.getD x 0 ≤ n) →
    ((List.range' i c).foldl (fun pl p => pl.set (N.getD p 0).toNat (p : Int)) pl).length = n ∧ (∀ p, p < n → ((List.range' i c).foldl (fun pl p => pl.set (N.getD p 0).toNat (p : Int)) pl).getD (N.getD p 0).toNat 0 = (p : Int)) ∧
      ∀ x, x < n → 0 ≤ ((List.range' i c).foldl (fun pl p => pl.set (N.getD p 0).toNat (p : Int)) pl).getD x 0 ∧ ((List.range' i c).foldl (fun pl p => pl.set (N.getD p 0).toNat (p : Int)) pl).getD x 0 ≤ n := by
  intro c
  induction c with
  | zero => intro i pl hi hlen hp hb; exact ⟨hlen, fun p hp' => hp p (by omega), hb⟩
  | succ c ih =>
    intro i pl hi hlen hp hb
    rw [List.range'_succ, List.foldl_cons]
    have hx := hN.2.1 _ (getD_mem 0 (show i < N.length by rw [hN.1]; omega))
    refine ih (i + 1) _ (by omega) (by rw [List.length_set]; exact hlen) (fun p hp' => ?_) (fun x hx' => ?_)
    · rw [List.getD_eq_getElem?_getD, List.getElem?_set]
      by_cases e : p = i
      · subst e
        rw [if_pos rfl, if_pos (by omega)]
        simp
      · have hpN := hN.2.1 _ (getD_mem 0 (show p < N.length by rw [hN.1]; omega))
        have hne : (N.getD i 0).toNat ≠ (N.getD p 0).toNat := fun h => by
          have h' : N.getD i 0 = N.getD p 0 := by omega
          have hi' : i < N.length := by rw [hN.1]; omega
          have hp'' : p < N.length := by rw [hN.1]; omega
          rw [getD_get _ hi', getD_get _ hp''] at h'
          exact List.pairwise_iff_getElem.1 hN.2.2 p i hp'' hi' (by omega) h'.symm
        rw [if_neg hne, ← List.getD_eq_getElem?_getD]
        exact hp p (by omega)
    · rw [List.getD_eq_getElem?_getD, List.getElem?_set]
      split
      · split
        · simp; omega
        · simp
      · rw [← List.getD_eq_getElem?_getD]; exact hb x hx'

theorem plOf_ok {n : Nat} {N : List Int} (hN : IsPerm N n) (hn : n ≤ 8) : PlOk (plOf N n) n ∧ ∀ p, p < n → (plOf N n).getD (N.getD p 0).toNat 0 = (p : Int) := by
  obtain ⟨h1, h2, h3⟩ := pl_fold N hN N.length 0 (List.replicate n 0) (by rw [hN.1]; omega) (by simp) (fun p hp => by omega) (fun x hx => by rw [List.getD_eq_getElem?_getD, List.getElem?_replicate, if_pos hx]; simp)
  exact ⟨⟨h1, fun x hx => ⟨(h3 x hx).1, by have := (h3 x hx).2; show (plOf N n).getD x 0 ≤ 8; unfold plOf; omega⟩⟩, h2⟩

def mkB (l : List Arr) (t : Tab) (sh : Int) (U : List Bool) (i : Int) (pl : List Int) : (Int × (List (ByteArray × Int × Int × Int)) × Int × Int × Int × Int × Int × Int × Int × Int × Int × Int × Int × Int × Int × Int × Int × Int × Int × Bool × Int × Int) × (List Int) × (List Int) × (List Bool) × List Int :=
  ((i, l, t.1.1, t.1.2.1, t.1.2.2.1, t.1.2.2.2, t.2.1.1, t.2.1.2.1, t.2.1.2.2.1, t.2.1.2.2.2, t.2.2.1.1, t.2.2.1.2.1, t.2.2.1.2.2.1, t.2.2.1.2.2.2, t.2.2.2.1, t.2.2.2.2.1, t.2.2.2.2.2.1, t.2.2.2.2.2.2, sh, false, 0, 0), pl, [], U, [])

theorem bl0b_eq (k : Nat) (N : List Int) (self : _) (l : List Arr) (t : Tab) (sh : Int) (U : List Bool) (i : Int) (pl : List Int) : sequence_Best.l0b k N self (mkB l t sh U i pl) =
    bif (decide (i < ((N.length : Nat) : Int))) then bif (decide (0 ≤ i) && decide (i < ((N.length : Nat) : Int))) then bif (decide (0 ≤ (N.getD i.toNat 0)) && decide ((N.getD i.toNat 0) < ((pl.length : Nat) : Int))) then self (mkB l t sh U (w64 (i + 1)) (pl.set (N.getD i.toNat 0).toNat i)) else none else none else some (Sum.inl ((mkB l t sh U 0 pl).1.2, pl, [], U, [])) := by kernel_rfl

theorem places_loop (k : Nat) {n : Nat} (hn8 : n ≤ 8) {N : List Int} (hN : IsPerm N n) (l : List Arr) (t : Tab) (sh : Int) (U : List Bool) : ∀ (f i : Nat) (pl : List Int), i ≤ n → n - i < f → pl.length = n →
    sequence_Best.l0 k N f (mkB l t sh U i pl) = some (Sum.inl ((mkB l t sh U 0 []).1.2, (List.range' i (n - i)).foldl (fun pl p => pl.set (N.getD p 0).toNat (p : Int)) pl, [], U, [])) := by
  intro f
  induction f with
  | zero => intro i _ _ h; omega
  | succ f ih =>
    intro i pl hi hf hlen
    rw [sequence_Best.l0_succ, bl0b_eq, hN.1]
    by_cases hlt : i < n
    · have hx := hN.2.1 _ (getD_mem 0 (show i < N.length by rw [hN.1]; omega))
      rw [cond_pos (decide_eq_true (by omega)), cond_pos (inIdx (by omega) (by omega)), getD_nat, cond_pos (inIdx hx.1 (by rw [hlen]; exact hx.2)), show w64 ((i : Int) + 1) = ((i + 1 : Nat) : Int) from w64_id (by omega) (by omega), ih (i + 1) _ (by omega) (by omega) (by rw [List.length_set]; exact hlen),
        show n - i = (n - (i + 1)) + 1 by omega, List.range'_succ, List.foldl_cons]
    · rw [cond_neg (decide_eq_false (by omega)), show n - i = 0 by omega]
      rfl

/-! ### The best order -/

/-- What the search leaves. -/
def bestS (l : List Arr) (t : Tab) (N : List Int) (sh : Int) : SS := stepS l t (plOf N l.length) sh l.length [] (-1) 0 0 (false, [], 0, 0)

theorem best_eq (m : Nat) (hm : 700 ≤ m) (l : List Arr) (t : Tab) (sh : Int) :
    (∃ e, e ≠ 0 ∧ sequence_both.F (m + 5) l t = some e ∧ sequence_Best.F (m + 5) l t sh = some ([], [], e)) ∨
    (sequence_both.F (m + 5) l t = some 0 ∧ ArrOk (m + 5) l ∧ TabOk t ∧ (((sh < 0 ∨ 8 < sh) ∧ sequence_Best.F (m + 5) l t sh = some ([], [], 4)) ∨
      (0 ≤ sh ∧ sh ≤ 8 ∧ ∀ N, NatOk l N → sequence_Best.F (m + 5) l t sh = if (bestS l t N sh).1 = true then (sequence_Times.F (m + 5) l (bestS l t N sh).2.1 t).bind fun r => some ((bestS l t N sh).2.1, r.1, 0) else some ([], [], 8)))) := by
  unfold sequence_Best.F
  obtain ⟨e, h1, h2⟩ := both_eq m (by omega) l t
  rw [h1]
  simp only [Option.bind_some]
  by_cases he : e = 0
  · subst he
    obtain ⟨hl, ht⟩ := h2 rfl
    right
    refine ⟨rfl, hl, ht, ?_⟩
    rw [cond_neg (c := (0 : Int) != 0) (by rfl)]
    by_cases c1 : sh < 0
    · rw [decide_eq_true c1]
      exact .inl ⟨.inl c1, rfl⟩
    by_cases c2 : sh > 8
    · rw [decide_eq_false c1, decide_eq_true c2]
      exact .inl ⟨.inr c2, rfl⟩
    right
    refine ⟨by omega, by omega, fun N hN => ?_⟩
    have hl8 := hl.len
    rw [decide_eq_false c1, decide_eq_false c2]
    simp only [cond_false, Option.bind_some]
    rw [cond_pos (by rw [decide_eq_true (p := (0 : Int) ≤ ((l.length : Nat) : Int)) (by omega), decide_eq_true (p := ((l.length : Nat) : Int) ≤ ((l.length : Nat) : Int)) (by omega), decide_eq_true (by omega)]; rfl), cond_pos (by rw [decide_eq_true (p := (0 : Int) ≤ ((l.length : Nat) : Int)) (by omega), decide_eq_true (p := ((l.length : Nat) : Int) ≤ ((l.length : Nat) : Int)) (by omega), decide_eq_true (by omega)]; rfl),
      natural_eq m (by omega) hl hN, Int.toNat_natCast]
    simp only [Option.bind_some]
    have hp := places_loop (m + 5) hl8 hN.perm l t sh (List.replicate l.length false) (m + 5) 0 (List.replicate l.length 0) (by omega) (by omega) (by simp)
    have e1 : sequence_Best.l0 (m + 5) N (m + 5) ((0, l, t.1.1, t.1.2.1, t.1.2.2.1, t.1.2.2.2, t.2.1.1, t.2.1.2.1, t.2.1.2.2.1, t.2.1.2.2.2, t.2.2.1.1, t.2.2.1.2.1, t.2.2.1.2.2.1, t.2.2.1.2.2.2, t.2.2.2.1, t.2.2.2.2.1, t.2.2.2.2.2.1, t.2.2.2.2.2.2, sh, false, 0, 0), (List.replicate l.length (0 : Int)), [], (List.replicate l.length false), []) = _ := hp
    rw [e1]
    simp only [Option.bind_some]
    have hpl : (List.range' 0 (l.length - 0)).foldl (fun pl p => pl.set (N.getD p 0).toNat (p : Int)) (List.replicate l.length 0) = plOf N l.length := by unfold plOf; rw [hN.perm.1]; rfl
    rw [hpl]
    have hU : UsOk (List.replicate l.length false) [] l.length := ⟨by simp, fun j hj => by rw [List.getD_eq_getElem?_getD, List.getElem?_replicate, if_pos hj]; simp⟩
    have hs := step_eq (m + 5 - l.length - 1) (by omega) hl ht (plOf_ok hN.perm hl8).1 sh l.length [] (List.replicate l.length false) (-1) 0 0 (false, [], 0, 0) (by simp) hU (by omega) (by omega) (by omega) (by omega) (by simp) (by simp)
    rw [show m + 5 - l.length - 1 + l.length + 1 = m + 5 by omega] at hs
    have e2 : sequence_search_step.F (m + 5) l t (plOf N l.length) sh [] (List.replicate l.length false) false [] 0 0 (-1) 0 0 = some ((l, t, plOf N l.length, sh, [], List.replicate l.length false, bestS l t N sh), ()) := hs
    show (sequence_search_step.F (m + 5) l t (plOf N l.length) sh [] (List.replicate l.length false) false [] 0 0 (-1) 0 0).bind _ = _
    rw [e2]
    simp only [Option.bind_some]
    cases (bestS l t N sh).1 with
    | true => rfl
    | false => rfl
  · left
    exact ⟨e, he, rfl, by rw [cond_pos (c := e != 0) (by simpa using he)]⟩

theorem best_found {q : Nat} {l : List Arr} {t : Tab} (hl : ArrOk q l) (ht : TabOk t) (N : List Int) (sh : Int) : Found l t (plOf N l.length) sh (fun _ => True) [] (-1) 0 (false, [], 0, 0) (bestS l t N sh) :=
  step_found hl ht _ sh l.length [] (-1) 0 0 _ (by simp) (by omega) (by omega) (by omega)

/-- What is found is an order in time. -/
theorem best_some (m : Nat) (hm : 700 ≤ m) {l : List Arr} {t : Tab} (hb : sequence_both.F (m + 5) l t = some 0) (hl : ArrOk (m + 5) l) (ht : TabOk t) {N : List Int} {sh : Int} (h : (bestS l t N sh).1 = true) :
    ∃ out, compS l t (plOf N l.length) sh (bestS l t N sh).2.1 [] (-1) 0 = some (bestS l t N sh).2.2.1 ∧ IsPerm (bestS l t N sh).2.1 l.length ∧ timesL l t (bestS l t N sh).2.1 (-1) 0 = some out ∧ out.length = l.length ∧ out.getLastD 0 = (bestS l t N sh).2.2.1 ∧ sequence_Times.F (m + 5) l (bestS l t N sh).2.1 t = some (out, 0) := by
  rcases (best_found hl ht N sh).one h with ⟨h0, _⟩ | ⟨r, h1, h2⟩
  · cases h0
  rw [List.nil_append] at h2
  rw [h2]
  have hp := comp_perm r [] (-1) 0 _ (by simp) List.nodup_nil h1
  rw [List.nil_append] at hp
  obtain ⟨out, g1, g2, g3⟩ := comp_times r [] (-1) 0 _ h1
  refine ⟨out, h1, hp, g1, by rw [g2, hp.1], g3, ?_⟩
  rw [times_of m (by omega) hb hl ht hp, g1]

end Go.Proofs.Ytlaejfnmhfkdpaa.RT
