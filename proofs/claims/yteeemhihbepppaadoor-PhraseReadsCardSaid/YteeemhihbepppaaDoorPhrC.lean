/- What is proved here: the texts of a clearance, and what is read out of a text. They ask nothing. -/
import Derived.Test.YteeemhihbepppaaDoorPhT
import Derived.Test.YteeemhihbepppaaDoorPlA
import Derived.Test.YteeemhihbepppaaDoorPhrB
namespace Go.Proofs.YteeemhihbepppaaDoor.RT
open Go Go.R

attribute [local irreducible] phrase_plain.F phrase_kind.F

def Sp : ByteArray := ⟨#[32]⟩

/-- A text that stands between blanks and is no word. -/
structure Good (k : Nat) (s : ByteArray) : Prop where
  small : s.size ≤ 8
  nosp : (32 : UInt8) ∉ s.data.toList
  kind : phrase_kind.F k s = some (-1)

/-- What the check of a clearance tells. -/
structure ClOk (k : Nat) (c : Cl) (i : Nat) : Prop where
  lt : i < 7
  kd : c.2.1 = (i : Int)
  call : Good k c.1
  rest : (3 ≤ i ∧ c.2.2.1 = 0 ∧ Good k c.2.2.2) ∨ (i < 3 ∧ c.2.2.2 = ByteArray.empty ∧ 0 ≤ c.2.2.1 ∧ c.2.2.1 ≤ 60000)

theorem good_of {k : Nat} (hk : 10 ≤ k) {s : ByteArray} (h : phrase_plain.F k s = some true) : Good k s :=
  let ⟨h1, h2, h3⟩ := plain_true hk h
  ⟨h1, h2, h3⟩

theorem empty_of {s : ByteArray} (h : (s.toList == (⟨#[]⟩ : ByteArray).toList) = true) : s = ByteArray.empty := by
  rw [ba_dec] at h
  exact of_decide_eq_true h

theorem ok_of_check {k : Nat} (hk : 10 ≤ k) {c : Cl} (h : phrase_Check.F k c = some 0) : ∃ i, ClOk k c i := by
  unfold phrase_Check.F at h
  obtain ⟨b1, h1⟩ := plain_total k hk c.1
  obtain ⟨b2, h2⟩ := plain_total k hk c.2.2.2
  rw [h1, h2] at h
  simp only [Option.bind_some, cond_some] at h
  cases b1 with
  | false => exact absurd h (by simp)
  | true =>
    simp only [Bool.not_true, cond_false] at h
    by_cases c1 : c.2.1 < 0
    · rw [decide_eq_true c1] at h; exact absurd h (by simp)
    rw [decide_eq_false c1] at h
    by_cases c2 : c.2.1 > 6
    · rw [decide_eq_true c2] at h; exact absurd h (by simp)
    rw [decide_eq_false c2] at h
    simp only [cond_false] at h
    refine ⟨c.2.1.toNat, by omega, by omega, good_of hk h1, ?_⟩
    by_cases c3 : c.2.1 ≥ 3
    · rw [decide_eq_true c3] at h
      simp only [cond_true] at h
      by_cases c4 : c.2.2.1 = 0
      · rw [show (c.2.2.1 != 0) = false by simp [c4]] at h
        cases b2 with
        | false => exact absurd h (by simp)
        | true => exact .inl ⟨by omega, c4, good_of hk h2⟩
      · rw [show (c.2.2.1 != 0) = true by simpa using c4] at h
        exact absurd h (by simp)
    rw [decide_eq_false c3] at h
    simp only [cond_false] at h
    cases he : (c.2.2.2.toList == (⟨#[]⟩ : ByteArray).toList) with
    | false => rw [he] at h; exact absurd h (by simp)
    | true =>
      rw [he] at h
      simp only [Bool.not_true, cond_false] at h
      by_cases c5 : c.2.2.1 < 0
      · rw [decide_eq_true c5] at h; exact absurd h (by simp)
      rw [decide_eq_false c5] at h
      simp only [cond_false] at h
      refine .inr ⟨by omega, empty_of he, by omega, ?_⟩
      by_cases c6 : c.2.1 = 0
      · rw [show (c.2.1 == 0) = true from beq_iff_eq.2 c6] at h
        by_cases m : c.2.2.1 > 60000
        · rw [decide_eq_true m] at h; exact absurd h (by simp)
        · omega
      rw [show (c.2.1 == 0) = false from beq_false_of_ne c6] at h
      by_cases c7 : c.2.1 = 1
      · rw [show (c.2.1 == 1) = true from beq_iff_eq.2 c7] at h
        by_cases m : c.2.2.1 > 4095
        · rw [decide_eq_true m] at h; exact absurd h (by simp)
        · omega
      rw [show (c.2.1 == 1) = false from beq_false_of_ne c7, show (c.2.1 == 2) = true from beq_iff_eq.2 (by omega)] at h
      by_cases m : c.2.2.1 > 400
      · rw [decide_eq_true m] at h; exact absurd h (by simp)
      · omega

attribute [local irreducible] phrase_Check.F

/-! ### Texts -/

/-- What stands behind the word. -/
noncomputable def val (c : Cl) : ByteArray := bif decide (3 ≤ c.2.1) then c.2.2.2 else numF c.2.2.1

theorem val_good {k : Nat} (hk : 10 ≤ k) {c : Cl} {i : Nat} (h : ClOk k c i) : Good k (val c) := by
  unfold val
  rcases h.rest with ⟨h3, _, hg⟩ | ⟨h3, _, h0, h1⟩
  · rw [decide_eq_true (p := (3 : Int) ≤ c.2.1) (by rw [h.kd]; omega)]
    exact hg
  · rw [decide_eq_false (p := (3 : Int) ≤ c.2.1) (by rw [h.kd]; omega)]
    obtain ⟨n1, n2, n3, _⟩ := num_ok h0 h1
    exact ⟨Nat.le_trans n1 (by omega), n2, kind_no k hk n3⟩

theorem wstep {w f : ByteArray} (hw : w.size ≤ 7) (hf : f.size ≤ 8) : (bif decide (w.size + (⟨#[32]⟩ : ByteArray).size ≤ 9223372036854775807) then bif decide ((w ++ (⟨#[32]⟩ : ByteArray)).size + f.size ≤ 9223372036854775807) then some ((w ++ (⟨#[32]⟩ : ByteArray)) ++ f) else none else none) = some ((w ++ Sp) ++ f) := by
  have e : (⟨#[32]⟩ : ByteArray).size = 1 := rfl
  rw [decide_eq_true (p := w.size + (⟨#[32]⟩ : ByteArray).size ≤ 9223372036854775807) (by omega), decide_eq_true (p := (w ++ (⟨#[32]⟩ : ByteArray)).size + f.size ≤ 9223372036854775807) (by rw [ByteArray.size_append]; omega)]
  rfl

theorem wstepN {w r : ByteArray} {o : Option ByteArray} (ho : o = some r) (hw : w.size ≤ 7) (hf : r.size ≤ 8) : (bif decide (w.size + (⟨#[32]⟩ : ByteArray).size ≤ 9223372036854775807) then o.bind fun f => bif decide ((w ++ (⟨#[32]⟩ : ByteArray)).size + f.size ≤ 9223372036854775807) then some ((w ++ (⟨#[32]⟩ : ByteArray)) ++ f) else none else none) = some ((w ++ Sp) ++ r) := by
  subst ho
  exact wstep hw hf

theorem body_eq {k : Nat} {c : Cl} {i : Nat} (h : ClOk k c i) : phrase_body.F k c = some ((wd i ++ Sp) ++ val c) := by
  have hw := (wd_sp h.lt).2.1
  obtain ⟨a, d, v, f⟩ := c
  have hd : d = (i : Int) := h.kd
  subst hd
  have hlt := h.lt
  unfold val
  rcases h.rest with ⟨h3, _, hg⟩ | ⟨h3, _, h0, h1⟩
  · rw [decide_eq_true (p := (3 : Int) ≤ (i : Int)) (by omega), cond_true]
    unfold phrase_body.F
    rw [decide_eq_true (p := (i : Int) ≥ 3) (by omega), cond_true]
    obtain rfl | rfl | rfl | rfl : i = 3 ∨ i = 4 ∨ i = 5 ∨ i = 6 := by omega
    · exact wstep (w := wd 3) hw hg.small
    · exact wstep (w := wd 4) hw hg.small
    · exact wstep (w := wd 5) hw hg.small
    · exact wstep (w := wd 6) hw hg.small
  · rw [decide_eq_false (p := (3 : Int) ≤ (i : Int)) (by omega), cond_false]
    unfold phrase_body.F
    rw [decide_eq_false (p := (i : Int) ≥ 3) (by omega), cond_false]
    obtain ⟨n1, _, _, n4, _⟩ := num_ok h0 h1
    have ho : strconv_Itoa_25.F k v = some (numF v) := n4
    obtain rfl | rfl | rfl : i = 0 ∨ i = 1 ∨ i = 2 := by omega
    · exact wstepN (w := wd 0) ho hw (Nat.le_trans n1 (by omega))
    · exact wstepN (w := wd 1) ho hw (Nat.le_trans n1 (by omega))
    · exact wstepN (w := wd 2) ho hw (Nat.le_trans n1 (by omega))

attribute [local irreducible] phrase_body.F

theorem print_eq {k : Nat} (hk : 10 ≤ k) {c : Cl} {i : Nat} (hc : phrase_Check.F k c = some 0) (h : ClOk k c i) : phrase_Print.F k c = some ((c.1 ++ Sp) ++ ((wd i ++ Sp) ++ val c), 0) := by
  have hv := (val_good hk h).small
  have hw := (wd_sp h.lt).2.1
  have ha := h.call.small
  have e : (⟨#[32]⟩ : ByteArray).size = 1 := rfl
  have e' : Sp.size = 1 := rfl
  unfold phrase_Print.F
  rw [hc, body_eq h]
  simp only [Option.bind_some]
  rw [cond_neg (c := (0 : Int) != 0) (by rfl), decide_eq_true (p := c.1.size + (⟨#[32]⟩ : ByteArray).size ≤ 9223372036854775807) (by omega), cond_true,
    decide_eq_true (p := (c.1 ++ (⟨#[32]⟩ : ByteArray)).size + ((wd i ++ Sp) ++ val c).size ≤ 9223372036854775807) (by simp only [ByteArray.size_append]; omega)]
  rfl

theorem back_eq {k : Nat} (hk : 10 ≤ k) {c : Cl} {i : Nat} (hc : phrase_Check.F k c = some 0) (h : ClOk k c i) : phrase_Back.F k c = some ((((wd i ++ Sp) ++ val c) ++ Sp) ++ c.1, 0) := by
  have hv := (val_good hk h).small
  have hw := (wd_sp h.lt).2.1
  have ha := h.call.small
  have e : (⟨#[32]⟩ : ByteArray).size = 1 := rfl
  have e' : Sp.size = 1 := rfl
  unfold phrase_Back.F
  rw [hc, body_eq h]
  simp only [Option.bind_some]
  rw [cond_neg (c := (0 : Int) != 0) (by rfl), decide_eq_true (p := ((wd i ++ Sp) ++ val c).size + (⟨#[32]⟩ : ByteArray).size ≤ 9223372036854775807) (by simp only [ByteArray.size_append]; omega), cond_true,
    decide_eq_true (p := (((wd i ++ Sp) ++ val c) ++ (⟨#[32]⟩ : ByteArray)).size + c.1.size ≤ 9223372036854775807) (by simp only [ByteArray.size_append]; omega)]
  rfl

/-! ### Reading -/

def z0 : Cl := (ByteArray.empty, (0, (0, ByteArray.empty)))

theorem read_no {k : Nat} {p q r : ByteArray} (h : phrase_kind.F k q = some (-1)) : phrase_read.F k p q r = some (z0, false) := by
  unfold phrase_read.F
  rw [h]
  rfl

theorem read_ok {k : Nat} (hk : 10 ≤ k) {c : Cl} {i : Nat} (h : ClOk k c i) : phrase_read.F k c.1 (wd i) (val c) = some (c, true) := by
  obtain ⟨a, d, v, f⟩ := c
  have hd : d = (i : Int) := h.kd
  subst hd
  have hlt := h.lt
  unfold phrase_read.F val
  rw [kind_wd k hk h.lt]
  simp only [Option.bind_some]
  rw [decide_eq_false (p := (i : Int) < 0) (by omega), cond_false]
  rcases h.rest with ⟨h3, hv, hg⟩ | ⟨h3, hf, h0, h1⟩
  · rw [decide_eq_true (p := (3 : Int) ≤ (i : Int)) (by omega)]
    have hv : v = 0 := hv
    subst hv
    rfl
  · rw [decide_eq_false (p := (3 : Int) ≤ (i : Int)) (by omega)]
    have hf : f = ByteArray.empty := hf
    subst hf
    obtain ⟨_, _, _, n4, n5⟩ := num_ok h0 h1
    have ho : strconv_Itoa_25.F k v = some (numF v) := n4
    have hat : strconv_Atoi_28.F k (numF v) = some (v, false) := n5
    simp only [cond_false]
    rw [hat]
    simp only [Option.bind_some, Bool.not_false, cond_true]
    rw [ho]
    simp

theorem read_cases {k : Nat} (hk : 10 ≤ k) (p q r : ByteArray) (hr : r.size ≤ 1000000) : ∃ c b, phrase_read.F k p q r = some (c, b) ∧
    (b = true → c.1 = p ∧ ∃ i : Nat, i < 7 ∧ c.2.1 = (i : Int) ∧ wd i = q ∧ ((3 ≤ i ∧ c.2.2.2 = r) ∨ (i < 3 ∧ numF c.2.2.1 = r))) := by
  obtain ⟨v, hv, hkv⟩ := kind_of k hk q
  rcases hkv with ⟨rfl, _⟩ | ⟨i, hi, rfl, hw⟩
  · exact ⟨z0, false, read_no hv, fun h => by cases h⟩
  · unfold phrase_read.F
    rw [hv]
    simp only [Option.bind_some]
    rw [decide_eq_false (p := (i : Int) < 0) (by omega), cond_false]
    by_cases h3 : 3 ≤ i
    · rw [decide_eq_true (p := (i : Int) ≥ 3) (by omega), cond_true]
      exact ⟨_, _, rfl, fun _ => ⟨rfl, i, hi, rfl, hw, .inl ⟨h3, rfl⟩⟩⟩
    · rw [decide_eq_false (p := (i : Int) ≥ 3) (by omega), cond_false]
      obtain ⟨n, b, ha, b0, b1⟩ := atoi_total hr
      have ha : strconv_Atoi_28.F k r = some (n, b) := ha
      rw [ha]
      simp only [Option.bind_some]
      cases b with
      | true => exact ⟨_, _, rfl, fun h => by cases h⟩
      | false =>
        have hi' : strconv_Itoa_25.F k n = some (numF n) := itoa_total b0 b1
        rw [hi']
        simp only [Bool.not_false, cond_true, Option.bind_some]
        refine ⟨_, _, rfl, fun h => ⟨rfl, i, hi, rfl, hw, .inr ⟨by omega, ?_⟩⟩⟩
        rw [ba_dec] at h
        exact of_decide_eq_true h

attribute [local irreducible] phrase_read.F

/-! ### Parse -/

/-- What is read out of three words. -/
noncomputable def parseW (k : Nat) (p q r : ByteArray) : Option (Cl × Bool × Int) :=
  (phrase_read.F k p q r).bind fun r2 => (bif (!r2.2) then (phrase_read.F k r p q).bind fun r3 => some (r3.2, true, r3.1) else some (r2.2, false, r2.1)).bind fun x =>
    bif (!x.1) then some (z0, false, 5) else (phrase_Check.F k x.2.2).bind fun r6 => bif (r6 != 0) then some (z0, false, r6) else some (x.2.2, x.2.1, 0)

theorem parse_of {k : Nat} {s p q r : ByteArray} (hs : s.size ≤ 120) (h : cutL 32 s.data.toList = [p.data.toList, q.data.toList, r.data.toList]) : phrase_Parse.F k s = parseW k p q r := by
  have hc : strings_Split.F k s (⟨#[32]⟩ : ByteArray) = some [p, q, r] := by
    show cutF s (⟨#[32]⟩ : ByteArray) = _
    unfold cutF
    show (bif Nat.ble s.size 1000000 then some ((cutL 32 s.data.toList).map fun p => (⟨p.toArray⟩ : ByteArray)) else none) = _
    rw [Nat.ble_eq_true_of_le (by omega), h]
    rfl
  unfold phrase_Parse.F parseW
  rw [decide_eq_false (p := (s.size : Int) > 120) (by omega), cond_false, hc]
  simp only [Option.bind_some]
  change ((phrase_read.F k p q r).bind _) = _
  cases h1 : phrase_read.F k p q r with
  | none => rfl
  | some r2 =>
    simp only [Option.bind_some]
    obtain ⟨c2, b2⟩ := r2
    cases b2 with
    | true => rfl
    | false =>
      change (((phrase_read.F k r p q).bind _).bind _) = _
      cases h2 : phrase_read.F k r p q with
      | none => rfl
      | some r3 => rfl

theorem parse_not {k : Nat} {s : ByteArray} (hs : s.size ≤ 120) (h : (cutL 32 s.data.toList).length ≠ 3) : phrase_Parse.F k s = some (z0, false, 5) := by
  have hc : strings_Split.F k s (⟨#[32]⟩ : ByteArray) = some ((cutL 32 s.data.toList).map fun p => (⟨p.toArray⟩ : ByteArray)) := by
    show cutF s (⟨#[32]⟩ : ByteArray) = _
    unfold cutF
    show (bif Nat.ble s.size 1000000 then some ((cutL 32 s.data.toList).map fun p => (⟨p.toArray⟩ : ByteArray)) else none) = _
    rw [Nat.ble_eq_true_of_le (by omega)]
    rfl
  unfold phrase_Parse.F
  rw [decide_eq_false (p := (s.size : Int) > 120) (by omega), cond_false, hc]
  simp only [Option.bind_some]
  rw [cond_pos (c := (((((cutL 32 s.data.toList).map fun p => (⟨p.toArray⟩ : ByteArray)).length : Nat) : Int) != 3))]
  · rfl
  · rw [List.length_map]
    simp
    omega

theorem parse_long {k : Nat} {s : ByteArray} (hs : 120 < s.size) : phrase_Parse.F k s = some (z0, false, 2) := by
  unfold phrase_Parse.F
  rw [decide_eq_true (p := (s.size : Int) > 120) (by omega)]
  rfl

attribute [local irreducible] phrase_Parse.F

theorem dl_app (a b : ByteArray) : (a ++ b).data.toList = a.data.toList ++ b.data.toList := by simp

theorem parse_print {k : Nat} (hk : 10 ≤ k) {c : Cl} {i : Nat} (hc : phrase_Check.F k c = some 0) (h : ClOk k c i) : phrase_Parse.F k ((c.1 ++ Sp) ++ ((wd i ++ Sp) ++ val c)) = some (c, false, 0) := by
  have hv := val_good hk h
  have hw := wd_sp h.lt
  have ha := h.call
  have e' : Sp.size = 1 := rfl
  rw [parse_of (p := c.1) (q := wd i) (r := val c)]
  · unfold parseW
    rw [read_ok hk h]
    simp only [Option.bind_some, Bool.not_true, cond_false]
    rw [hc]
    rfl
  · have := hv.small
    have := hw.2.1
    have := ha.small
    simp only [ByteArray.size_append]
    omega
  · simp only [dl_app]
    show cutL 32 ((c.1.data.toList ++ [32]) ++ ((wd i).data.toList ++ [32] ++ (val c).data.toList)) = _
    rw [List.append_assoc, List.append_assoc]
    show cutL 32 (c.1.data.toList ++ 32 :: ((wd i).data.toList ++ 32 :: (val c).data.toList)) = _
    rw [cutL_app _ ha.nosp, cutL_app _ hw.1, cutL_one hv.nosp]

theorem parse_back {k : Nat} (hk : 10 ≤ k) {c : Cl} {i : Nat} (hc : phrase_Check.F k c = some 0) (h : ClOk k c i) : phrase_Parse.F k ((((wd i ++ Sp) ++ val c) ++ Sp) ++ c.1) = some (c, true, 0) := by
  have hv := val_good hk h
  have hw := wd_sp h.lt
  have ha := h.call
  have e' : Sp.size = 1 := rfl
  rw [parse_of (p := wd i) (q := val c) (r := c.1)]
  · unfold parseW
    rw [read_no hv.kind]
    simp only [Option.bind_some, Bool.not_false, cond_true]
    rw [read_ok hk h]
    simp only [Option.bind_some, Bool.not_true, cond_false]
    rw [hc]
    rfl
  · have := hv.small
    have := hw.2.1
    have := ha.small
    simp only [ByteArray.size_append]
    omega
  · simp only [dl_app]
    show cutL 32 ((((wd i).data.toList ++ [32]) ++ (val c).data.toList) ++ [32] ++ c.1.data.toList) = _
    rw [List.append_assoc, List.append_assoc, List.append_assoc]
    show cutL 32 ((wd i).data.toList ++ 32 :: ((val c).data.toList ++ 32 :: c.1.data.toList)) = _
    rw [cutL_app _ hw.1, cutL_app _ hv.nosp, cutL_one ha.nosp]

end Go.Proofs.YteeemhihbepppaaDoor.RT
