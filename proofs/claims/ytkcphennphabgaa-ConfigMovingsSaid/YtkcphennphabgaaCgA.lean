/- What is proved here: plain lemmas about positions and their sectors: what the check tells, the order of texts. They ask nothing. -/
import Derived.Test.YtkcphennphabgaaCfT
import Derived.Test.YtkcphennphabgaaPlA
import Derived.Test.YtkcphennphabgaaStrA
namespace Go.Proofs.Ytkcphennphabgaa.RT
open Go Go.R

/-! ### Texts -/

theorem ba_inj {a b : ByteArray} (h : a.toList = b.toList) : a = b := by
  rw [ByteArray.toList_eq, ByteArray.toList_eq] at h
  exact ByteArray.ext (Array.toList_inj.1 h)

theorem bytes_eq (a b : ByteArray) : (a.toList == b.toList) = decide (a = b) := by
  by_cases h : a = b
  · subst h; simp
  · rw [decide_eq_false h]
    simpa using fun e => h (ba_inj e)

theorem data_eq (a b : ByteArray) : (a.data.toList == b.data.toList) = decide (a = b) := by
  rw [← ByteArray.toList_eq, ← ByteArray.toList_eq, bytes_eq]

theorem ba_eq (a b : ByteArray) : (a == b) = decide (a = b) := by
  by_cases h : a = b
  · subst h
    rw [decide_eq_true rfl]
    cases a with | mk d => exact beq_self_eq_true d
  · rw [decide_eq_false h]
    cases a with | mk d =>
    cases b with | mk e =>
    have : ¬ d = e := fun q => h (by rw [q])
    show (d == e) = false
    exact beq_eq_false_iff_ne.2 this

theorem comp_scmp : ∀ a b : List UInt8, Lib.compareBytes a b = if Op.bytesLess a b = true then -1 else if Op.bytesLess b a = true then 1 else 0
  | [], [] => rfl
  | [], _ :: _ => rfl
  | _ :: _, [] => rfl
  | x :: a, y :: b => by
    simp only [Lib.compareBytes, Op.bytesLess, Bool.or_eq_true, decide_eq_true_eq, Bool.and_eq_true, beq_iff_eq]
    by_cases h : x < y
    · rw [if_pos h, if_pos (.inl h)]
    · rw [if_neg h]
      by_cases g : y < x
      · rw [if_pos g, if_neg (fun q => by rcases q with q | ⟨q, _⟩; exact h q; subst q; exact h g), if_pos (.inl g)]
      · rw [if_neg g]
        have e : x = y := UInt8.le_antisymm (UInt8.not_lt.1 g) (UInt8.not_lt.1 h)
        subst e
        have := comp_scmp a b
        simp only [h, false_or, true_and]
        exact this

theorem compare_eq (k : Nat) (a b : ByteArray) : strings_Compare.F k a b = some (scmp a b) := by
  unfold strings_Compare.F scmp
  rw [comp_scmp, ByteArray.toList_eq, ByteArray.toList_eq]

theorem scmp_irrefl {a b : ByteArray} (h : scmp a b < 0) : a ≠ b := fun e => by
  subst e
  have := scmp_lt.1 h
  rw [bl_irrefl] at this
  cases this
theorem scmp_pos {a b : ByteArray} (h : a ≠ b) (g : ¬ scmp a b < 0) : scmp b a < 0 := by
  have := scmp_neg a b
  have h0 : scmp a b ≠ 0 := fun e => h (ba_inj (scmp_zero.1 e))
  omega

theorem lt_B (a b : ByteArray) : ltB a b = decide (scmp a b < 0) := by
  unfold ltB
  by_cases h : scmp a b < 0
  · rw [decide_eq_true h, scmp_lt.1 h]
  · rw [decide_eq_false h]
    cases g : Op.bytesLess a.toList b.toList with
    | false => rfl
    | true => exact absurd (scmp_lt.2 g) h
theorem le_B (a b : ByteArray) : leB a b = decide (¬ scmp b a < 0) := by
  unfold leB
  by_cases g : scmp b a < 0
  · have h := scmp_lt.1 g
    have h1 := bl_asymm h
    have h2 : ¬ a.toList = b.toList := fun e => by rw [e, bl_irrefl] at h; cases h
    rw [h1, show (a.toList == b.toList) = false by simpa using h2, decide_eq_false (fun q => q g)]
    rfl
  · have h : Op.bytesLess b.toList a.toList = false := by
      cases h : Op.bytesLess b.toList a.toList with
      | false => rfl
      | true => exact absurd (scmp_lt.2 h) g
    rw [decide_eq_true g]
    cases h1 : Op.bytesLess a.toList b.toList with
    | true => rfl
    | false => rw [bl_tri _ _ h1 h]; simp

noncomputable instance memDec (s : ByteArray) (l : List ByteArray) : Decidable (s ∈ l) := Classical.propDecidable _
theorem mem_B (acc : List ByteArray) (s : ByteArray) : mem acc s = decide (s ∈ acc) := by
  unfold mem
  rw [Bool.eq_iff_iff, List.any_eq_true, decide_eq_true_iff]
  constructor
  · rintro ⟨x, hx, h⟩
    rw [data_eq, decide_eq_true_iff] at h
    rw [← h]; exact hx
  · intro h
    exact ⟨s, h, by rw [data_eq, decide_eq_true rfl]⟩

/-! ### Sorted texts -/

def ble (x y : List UInt8) : Bool := decide (x ≤ y)
theorem ble_eq (x y : List UInt8) : ble x y = !Op.bytesLess y x := by
  unfold ble
  rw [bytesLess_eq]
  by_cases h : y < x
  · rw [decide_eq_true h, decide_eq_false (p := x ≤ y) (fun q => q h)]; rfl
  · rw [decide_eq_false h, decide_eq_true (p := x ≤ y) h]; rfl

theorem ble_trans (a b c : List UInt8) (h1 : ble a b = true) (h2 : ble b c = true) : ble a c = true := by
  rw [ble_eq, Bool.not_eq_true'] at *
  cases h : Op.bytesLess c a with
  | false => rfl
  | true =>
    cases g : Op.bytesLess a b with
    | true => rw [bl_trans _ _ _ h g] at h2; cases h2
    | false =>
      have := bl_tri _ _ g h1
      rw [this] at h
      rw [h] at h2
      cases h2

theorem ble_total (a b : List UInt8) : (ble a b || ble b a) = true := by
  rw [ble_eq, ble_eq]
  cases h : Op.bytesLess b a with
  | false => rfl
  | true => rw [bl_asymm h]; rfl

theorem strSort_perm (xs : List ByteArray) : (strSort xs).Perm xs := by
  unfold strSort
  have h := (List.mergeSort_perm (xs.map (·.toList)) fun x y => decide (x ≤ y)).map (fun l => (⟨l.toArray⟩ : ByteArray))
  rw [List.map_map] at h
  have e : xs.map ((fun l => (⟨l.toArray⟩ : ByteArray)) ∘ (·.toList)) = xs := (List.map_congr_left fun x _ => str_back x).trans (List.map_id _)
  rw [e] at h
  exact h

theorem strSort_eq {xs ys : List ByteArray} (hp : ys.Perm xs) (hs : ys.Pairwise fun a b => scmp a b < 0) : strSort xs = ys := by
  have e : (xs.map (·.toList)).mergeSort (fun x y => decide (x ≤ y)) = ys.map (·.toList) := by
    refine List.Perm.eq_of_pairwise (le := fun x y => ble x y = true) (fun a b _ _ h1 h2 => ?_) (List.pairwise_mergeSort ble_trans ble_total _) ?_ ((List.mergeSort_perm _ _).trans (hp.map _).symm)
    · rw [ble_eq, Bool.not_eq_true'] at h1 h2
      exact bl_tri _ _ h2 h1
    · refine List.pairwise_map.2 (hs.imp fun {a b} h => ?_)
      rw [ble_eq, bl_asymm (scmp_lt.1 h)]
      rfl
  unfold strSort
  rw [e, List.map_map]
  refine (List.map_congr_left fun x _ => ?_).trans (List.map_id _)
  exact str_back x

theorem strSort_lt {xs : List ByteArray} (h : xs.Nodup) : (strSort xs).Pairwise fun a b => scmp a b < 0 := by
  have h1 : (strSort xs).Pairwise fun a b => ¬ scmp b a < 0 := by
    unfold strSort
    refine List.pairwise_map.2 ((List.pairwise_mergeSort ble_trans ble_total (xs.map (·.toList))).imp fun {a b} h g => ?_)
    have g2 := scmp_lt.1 g
    rw [show (⟨b.toArray⟩ : ByteArray).toList = b by rw [ByteArray.toList_eq], show (⟨a.toArray⟩ : ByteArray).toList = a by rw [ByteArray.toList_eq]] at g2
    rw [ble_eq, g2] at h
    cases h
  have h2 : (strSort xs).Pairwise (· ≠ ·) := (strSort_perm xs).nodup_iff.2 h
  exact (h1.and h2).imp fun {a b} h => scmp_pos (Ne.symm h.2) h.1

theorem strSort_congr {xs ys : List ByteArray} (h : xs.Nodup) (hp : xs.Perm ys) : strSort xs = strSort ys :=
  (strSort_eq ((strSort_perm xs).trans hp) (strSort_lt h)).symm

theorem lt_nodup {xs : List ByteArray} (h : xs.Pairwise fun a b => scmp a b < 0) : xs.Nodup := h.imp fun h => scmp_irrefl h

/-! ### What the check tells -/

/-- All sectors. -/
def flat (l : List Gp) : List ByteArray := l.flatMap (·.2)

/-- The positions are in order. -/
structure Gd (N : ByteArray → Bool) (l : List Gp) : Prop where
  pos : ∀ g ∈ l, N g.1 = true
  ord : l.Pairwise fun a b => scmp a.1 b.1 < 0
  ne : ∀ g ∈ l, g.2 ≠ []
  sec : ∀ g ∈ l, g.2.Pairwise fun a b => scmp a b < 0
  nms : ∀ g ∈ l, ∀ s ∈ g.2, N s = true
  nd : (flat l).Nodup
  tot : (flat l).length ≤ 12

def SecOk (N : ByteArray → Bool) (acc : List ByteArray) (pv : Option ByteArray) (xs : List ByteArray) : Prop :=
  (∀ s ∈ xs, N s = true ∧ s ∉ acc) ∧ xs.Pairwise (fun a b => scmp a b < 0) ∧ (∀ p, pv = some p → ∀ s ∈ xs, scmp p s < 0) ∧ (xs = [] ∨ acc.length + xs.length ≤ 12)

def pvB (f : ByteArray → Bool) (pv : Option ByteArray) : Bool := match pv with | some p => f p | none => false
theorem chkS_pv (N : ByteArray → Bool) (acc : List ByteArray) (pv : Option ByteArray) (s : ByteArray) (r : List ByteArray) : chkS N acc pv (s :: r) = bif !N s then .inl 3 else bif mem acc s || pvB (ltB s) pv then .inl 7 else bif Nat.ble 13 (acc.length + 1) then .inl 2 else chkS N (acc ++ [s]) (some s) r := by
  unfold pvB
  cases pv <;> rfl
theorem chkG_pv (N : ByteArray → Bool) (acc : List ByteArray) (pv : Option ByteArray) (p : Gp) (r : List Gp) : chkG N acc pv (p :: r) = bif !N p.1 then (3 : Int) else bif pvB (leB p.1) pv then 7 else bif p.2.isEmpty then 8 else chkK N p.1 r (chkS N acc none p.2) := by
  rw [chkG_cons]
  unfold pvB
  cases pv <;> rfl

theorem chkS_ok (N : ByteArray → Bool) : ∀ (xs acc : List ByteArray) (pv : Option ByteArray), (∀ p, pv = some p → p ∈ acc) → (SecOk N acc pv xs ↔ ∃ a, chkS N acc pv xs = .inr a)
  | [], acc, pv, _ => ⟨fun _ => ⟨acc, rfl⟩, fun _ => ⟨fun s h => (by cases h), List.Pairwise.nil, fun p _ s h => (by cases h), .inl rfl⟩⟩
  | s :: r, acc, pv, hpv => by
    rw [chkS_pv]
    have hcut : (acc ++ [s]).length = acc.length + 1 := by simp
    cases h1 : N s with
    | false =>
      simp only [Bool.not_false, cond_true]
      exact ⟨fun h => (by have := (h.1 s (by simp)).1; rw [h1] at this; cases this), fun ⟨a, h⟩ => (by cases h)⟩
    | true =>
      simp only [Bool.not_true, cond_false]
      rw [mem_B]
      by_cases h2 : s ∈ acc
      · rw [decide_eq_true h2, Bool.true_or, cond_true]
        exact ⟨fun h => absurd h2 (h.1 s (by simp)).2, fun ⟨a, h⟩ => by cases h⟩
      rw [decide_eq_false h2, Bool.false_or]
      have hpt : pvB (ltB s) pv = false ↔ ∀ p, pv = some p → scmp p s < 0 := by
        cases pv with
        | none => exact ⟨fun _ p h => (by cases h), fun _ => rfl⟩
        | some p =>
          have hp := hpv p rfl
          have hne : s ≠ p := fun e => h2 (e ▸ hp)
          rw [show pvB (ltB s) (some p) = ltB s p from rfl, lt_B, decide_eq_false_iff_not]
          constructor
          · intro h q hq
            cases hq
            exact scmp_pos hne h
          · intro h g
            have := h p rfl
            have := scmp_neg s p
            omega
      by_cases h3 : ∀ p, pv = some p → scmp p s < 0
      · rw [hpt.2 h3, cond_false]
        by_cases h4 : acc.length + 1 ≤ 12
        · rw [show Nat.ble 13 (acc.length + 1) = false by rw [← Bool.not_eq_true, Nat.ble_eq]; omega, cond_false]
          rw [← chkS_ok N r (acc ++ [s]) (some s) (fun p hp => by cases hp; simp)]
          constructor
          · rintro ⟨a1, a2, a3, a4⟩
            obtain ⟨a5, a6⟩ := List.pairwise_cons.1 a2
            refine ⟨fun t ht => ⟨(a1 t (by simp [ht])).1, fun hm => ?_⟩, a6, fun p hp t ht => (by cases hp; exact a5 t ht), ?_⟩
            · rcases List.mem_append.1 hm with hm | hm
              · exact (a1 t (by simp [ht])).2 hm
              · simp only [List.mem_singleton] at hm
                exact scmp_irrefl (a5 t ht) hm.symm
            · rcases a4 with a4 | a4
              · cases a4
              · right; rw [hcut]; simp only [List.length_cons] at a4; omega
          · rintro ⟨a1, a2, a3, a4⟩
            refine ⟨fun t ht => ?_, List.pairwise_cons.2 ⟨fun t ht => a3 s rfl t ht, a2⟩, fun p hp t ht => ?_, ?_⟩
            · rcases List.mem_cons.1 ht with rfl | ht
              · exact ⟨h1, h2⟩
              · exact ⟨(a1 t ht).1, fun hm => (a1 t ht).2 (List.mem_append_left _ hm)⟩
            · rcases List.mem_cons.1 ht with rfl | ht
              · exact h3 p hp
              · exact scmp_trans (h3 p hp) (a3 s rfl t ht)
            · right
              rcases a4 with rfl | a4
              · simpa using h4
              · rw [hcut] at a4; simp only [List.length_cons]; omega
        · rw [show Nat.ble 13 (acc.length + 1) = true from Nat.ble_eq_true_of_le (by omega), cond_true]
          refine ⟨fun h => ?_, fun ⟨a, h⟩ => by cases h⟩
          rcases h.2.2.2 with h | h
          · cases h
          · simp only [List.length_cons] at h; omega
      · have : pvB (ltB s) pv = true := by
          cases e : pvB (ltB s) pv with
          | true => rfl
          | false => exact absurd (hpt.1 e) h3
        rw [this, cond_true]
        exact ⟨fun h => absurd (fun p hp => h.2.2.1 p hp s (by simp)) h3, fun ⟨a, h⟩ => by cases h⟩

def GOk (N : ByteArray → Bool) (acc : List ByteArray) (pv : Option ByteArray) (l : List Gp) : Prop :=
  (∀ g ∈ l, N g.1 = true ∧ g.2 ≠ [] ∧ (∀ s ∈ g.2, N s = true) ∧ g.2.Pairwise fun a b => scmp a b < 0) ∧ (l.Pairwise fun a b => scmp a.1 b.1 < 0) ∧ (∀ p, pv = some p → ∀ g ∈ l, scmp p g.1 < 0) ∧ (∀ s ∈ flat l, s ∉ acc) ∧ (flat l).Nodup ∧ (l = [] ∨ acc.length + (flat l).length ≤ 12)

theorem flat_cons (g : Gp) (l : List Gp) : flat (g :: l) = g.2 ++ flat l := List.flatMap_cons

theorem chkG_ok (N : ByteArray → Bool) : ∀ (l : List Gp) (acc : List ByteArray) (pv : Option ByteArray), chkG N acc pv l = 0 ↔ GOk N acc pv l
  | [], acc, pv => by
    constructor
    · intro _
      exact ⟨fun g h => (by cases h), List.Pairwise.nil, fun p _ g h => (by cases h), fun s h => (by cases h), List.Pairwise.nil, .inl rfl⟩
    · intro _
      unfold chkG
      rfl
  | p :: r, acc, pv => by
    rw [chkG_pv]
    cases h1 : N p.1 with
    | false =>
      simp only [Bool.not_false, cond_true]
      exact ⟨fun h => absurd h (by decide), fun h => by have := (h.1 p (by simp)).1; rw [h1] at this; cases this⟩
    | true =>
      simp only [Bool.not_true, cond_false]
      have hpt : pvB (leB p.1) pv = false ↔ ∀ q, pv = some q → scmp q p.1 < 0 := by
        cases pv with
        | none => exact ⟨fun _ p h => (by cases h), fun _ => rfl⟩
        | some q =>
          rw [show pvB (leB p.1) (some q) = leB p.1 q from rfl, le_B, decide_eq_false_iff_not]
          constructor
          · intro h q' hq
            cases hq
            exact Decidable.not_not.1 h
          · intro h g
            exact g (h q rfl)
      by_cases h3 : ∀ q, pv = some q → scmp q p.1 < 0
      · rw [hpt.2 h3, cond_false]
        cases h4 : p.2.isEmpty with
        | true =>
          simp only [cond_true]
          exact ⟨fun h => absurd h (by decide), fun h => absurd (List.isEmpty_iff.1 h4) (h.1 p (by simp)).2.1⟩
        | false =>
          simp only [cond_false]
          have hne : p.2 ≠ [] := fun e => by rw [e] at h4; cases h4
          cases h5 : chkS N acc none p.2 with
          | inl e =>
            rw [chkK_inl]
            refine ⟨fun h => absurd h (chkS_inl N _ _ _ _ h5), fun h => ?_⟩
            exfalso
            have : SecOk N acc none p.2 := by
              refine ⟨fun s hs => ⟨(h.1 p (by simp)).2.2.1 s hs, h.2.2.2.1 s (by rw [flat_cons]; exact List.mem_append_left _ hs)⟩, (h.1 p (by simp)).2.2.2, fun p hp => by (cases hp), ?_⟩
              right
              rcases h.2.2.2.2.2 with h | h
              · cases h
              · rw [flat_cons, List.length_append] at h; omega
            obtain ⟨a, ha⟩ := (chkS_ok N p.2 acc none (fun p hp => by cases hp)).1 this
            rw [h5] at ha
            cases ha
          | inr a =>
            rw [chkK_inr, chkG_ok N r a (some p.1)]
            obtain ⟨ha, _⟩ := chkS_len N p.2 acc none a h5
            obtain ⟨s1, s2, _, s4⟩ := (chkS_ok N p.2 acc none (fun p hp => by cases hp)).2 ⟨a, h5⟩
            have s4 := s4.resolve_left hne
            subst ha
            constructor
            · rintro ⟨a1, a2, a3, a4, a5, a6⟩
              refine ⟨fun g hg => ?_, List.pairwise_cons.2 ⟨fun g hg => a3 p.1 rfl g hg, a2⟩, fun q hq g hg => ?_, fun s hs => ?_, ?_, ?_⟩
              · rcases List.mem_cons.1 hg with rfl | hg
                · exact ⟨h1, hne, fun s hs => (s1 s hs).1, s2⟩
                · exact a1 g hg
              · rcases List.mem_cons.1 hg with rfl | hg
                · exact h3 q hq
                · exact scmp_trans (h3 q hq) (a3 p.1 rfl g hg)
              · rw [flat_cons] at hs
                rcases List.mem_append.1 hs with hs | hs
                · exact (s1 s hs).2
                · exact fun hm => a4 s hs (List.mem_append_left _ hm)
              · rw [flat_cons]
                refine List.pairwise_append.2 ⟨lt_nodup s2, a5, fun x hx y hy e => ?_⟩
                subst e
                exact a4 x hy (List.mem_append_right _ hx)
              · right
                rw [flat_cons, List.length_append]
                rcases a6 with rfl | a6
                · simp only [flat, List.flatMap_nil, List.length_nil]; omega
                · rw [List.length_append] at a6; omega
            · rintro ⟨a1, a2, a3, a4, a5, a6⟩
              rw [flat_cons] at a5
              obtain ⟨b1, b2, b3⟩ := List.pairwise_append.1 a5
              obtain ⟨c1, c2⟩ := List.pairwise_cons.1 a2
              refine ⟨fun g hg => a1 g (by simp [hg]), c2, fun q hq g hg => (by cases hq; exact c1 g hg), fun s hs hm => ?_, b2, ?_⟩
              · rcases List.mem_append.1 hm with hm | hm
                · exact a4 s (by rw [flat_cons]; exact List.mem_append_right _ hs) hm
                · exact b3 s hm s hs rfl
              · right
                rcases a6 with h | h
                · cases h
                · rw [flat_cons, List.length_append] at h; rw [List.length_append]; omega
      · have : pvB (leB p.1) pv = true := by
          cases e : pvB (leB p.1) pv with
          | true => rfl
          | false => exact absurd (hpt.1 e) h3
        rw [this, cond_true]
        exact ⟨fun h => absurd h (by decide), fun h => absurd (fun q hq => h.2.2.1 q hq p (by simp)) h3⟩

theorem flat_len : ∀ {l : List Gp}, (∀ g ∈ l, g.2 ≠ []) → l.length ≤ (flat l).length
  | [], _ => Nat.zero_le _
  | g :: l, h => by
    have h1 := flat_len (l := l) fun g hg => h g (by simp [hg])
    have h2 := List.length_pos_iff.2 (h g (by simp))
    rw [flat_cons, List.length_append, List.length_cons]
    omega

theorem Gd.len {N : ByteArray → Bool} {l : List Gp} (h : Gd N l) : l.length ≤ 12 := Nat.le_trans (flat_len h.ne) h.tot

theorem chk_iff (N : ByteArray → Bool) (l : List Gp) : chk N l = 0 ↔ Gd N l := by
  unfold chk
  by_cases hl : l.length ≤ 12
  · rw [show Nat.ble 13 l.length = false by rw [← Bool.not_eq_true, Nat.ble_eq]; omega, cond_false, chkG_ok]
    constructor
    · rintro ⟨a1, a2, a3, a4, a5, a6⟩
      refine ⟨fun g hg => (a1 g hg).1, a2, fun g hg => (a1 g hg).2.1, fun g hg => (a1 g hg).2.2.2, fun g hg => (a1 g hg).2.2.1, a5, ?_⟩
      rcases a6 with rfl | a6
      · exact Nat.zero_le _
      · simpa using a6
    · intro h
      exact ⟨fun g hg => ⟨h.pos g hg, h.ne g hg, h.nms g hg, h.sec g hg⟩, h.ord, fun p hp => (by cases hp), fun s _ hm => (by cases hm), h.nd, .inr (by simpa using h.tot)⟩
  · rw [Nat.ble_eq_true_of_le (show 13 ≤ l.length by omega), cond_true]
    exact ⟨fun h => absurd h (by decide), fun h => absurd h.len hl⟩

end Go.Proofs.Ytkcphennphabgaa.RT
