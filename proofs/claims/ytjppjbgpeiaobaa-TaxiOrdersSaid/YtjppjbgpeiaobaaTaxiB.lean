/- What is proved here: plain lemmas about stands and departures that are asked for. They ask nothing. -/
import Derived.Test.YtjppjbgpeiaobaaTaT
import Derived.Test.YtjppjbgpeiaobaaPlA
import Derived.Test.YtjppjbgpeiaobaaStrA
import Derived.Test.YtjppjbgpeiaobaaNameA
import Derived.Test.YtjppjbgpeiaobaaTaxiA
namespace Go.Proofs.Ytjppjbgpeiaobaa.RT
open Go Go.R

attribute [local irreducible] chart_Name.F

theorem name_total (k : Nat) (hk : 10 ≤ k) (s : ByteArray) : ∃ b, slot_Name.F k s = some b := by
  obtain ⟨b, hb⟩ := cname_total k hk s
  refine ⟨b, ?_⟩
  unfold slot_Name.F owner_Name.F sector_Name.F
  rw [hb]
  rfl

attribute [local irreducible] slot_Name.F

/-- Stands; departures that are asked for. -/
abbrev Sd := ByteArray × Int
abbrev Ak := ByteArray × ByteArray × Int
def sd (l : List Sd) (j : Nat) : Sd := l.getD j (ByteArray.empty, 0)
def ak (l : List Ak) (j : Nat) : Ak := l.getD j (ByteArray.empty, (ByteArray.empty, 0))
theorem sd_eq (l : List Sd) (j : Nat) : l.getD j (ByteArray.empty, 0) = sd l j := rfl
theorem ak_eq (l : List Ak) (j : Nat) : l.getD j (ByteArray.empty, (ByteArray.empty, 0)) = ak l j := rfl

theorem stands_in (k : Nat) (l : List Sd) (hl : l.length ≤ 16) (x : Nat) (hx : x < l.length) (self : Int → Option Int) : ∀ n i : Nat, i ≤ x → x - i < n → taxi_Stands.l0 k l x self n i = some 7 ∨ taxi_Stands.l0 k l x self n i = self ((x : Int) + 1) := by
  intro n
  induction n with
  | zero => intro i _ h; omega
  | succ n ih =>
    intro i hi hm
    rw [taxi_Stands.l0_succ]
    unfold taxi_Stands.l0b
    have hlen : (l.take (x : Int).toNat).length = x := by simp; omega
    rw [hlen]
    by_cases hlt : i < x
    · rw [decide_eq_true (p := (i : Int) < ((x : Nat) : Int)) (by omega), decide_eq_true (p := 0 ≤ (i : Int)) (by omega), w64_id (n := (i : Int) + 1) (by omega) (by omega)]
      simp only [Bool.and_self, cond_true]
      generalize (((l.take (x : Int).toNat).getD (i : Int).toNat (ByteArray.empty, 0)).1.toList == (l.getD (x : Int).toNat (ByteArray.empty, 0)).1.toList) = c
      cases c with
      | true => exact .inl rfl
      | false => exact ih (i + 1) (by omega) (by omega)
    · rw [decide_eq_false (p := (i : Int) < ((x : Nat) : Int)) (by omega), w64_id (n := (x : Int) + 1) (by omega) (by omega)]
      exact .inr rfl

/-- The stands' times are in order. -/
def SdOk (l : List Sd) : Prop := l.length ≤ 16 ∧ ∀ j, j < l.length → 0 ≤ (sd l j).2 ∧ (sd l j).2 ≤ 1800

theorem stands_out (k : Nat) (hk : 100 ≤ k) (l : List Sd) (hl : l.length ≤ 16) : ∀ n i : Nat, i ≤ l.length → l.length - i < n → (∀ j, j < i → 0 ≤ (sd l j).2 ∧ (sd l j).2 ≤ 1800) →
    ∃ e, taxi_Stands.l1 k l n i = some e ∧ (e = 0 → ∀ j, j < l.length → 0 ≤ (sd l j).2 ∧ (sd l j).2 ≤ 1800) := by
  intro n
  induction n with
  | zero => intro i _ h; omega
  | succ n ih =>
    intro i hi hm hj
    rw [taxi_Stands.l1_succ]
    unfold taxi_Stands.l1b
    by_cases hlt : i < l.length
    · rw [decide_eq_true (p := (i : Int) < ((l.length : Nat) : Int)) (by omega), decide_eq_true (p := 0 ≤ (i : Int)) (by omega)]
      simp only [Bool.and_self, cond_true, getD_nat, sd_eq]
      obtain ⟨b, hb⟩ := name_total k (by omega) (sd l i).1
      rw [hb]
      simp only [Option.bind_some]
      cases b with
      | false => exact ⟨3, rfl, by omega⟩
      | true =>
        simp only [Bool.not_true, cond_false]
        by_cases c1 : (sd l i).2 < 0
        · rw [decide_eq_true c1]; exact ⟨4, rfl, by omega⟩
        by_cases c2 : (sd l i).2 > 1800
        · rw [decide_eq_false c1, decide_eq_true c2]; exact ⟨4, rfl, by omega⟩
        rw [decide_eq_false c1, decide_eq_false c2, decide_eq_true (p := (i : Int) ≤ ((l.length : Nat) : Int)) (by omega)]
        simp only [cond_false, Option.bind_some, Bool.and_self, cond_true]
        rcases stands_in k l hl i hlt (fun x => taxi_Stands.l1 k l n x) k 0 (by omega) (by omega) with h | h
        · rw [show ((0 : Nat) : Int) = 0 from rfl] at h
          rw [h]; exact ⟨7, rfl, by omega⟩
        · rw [show ((0 : Nat) : Int) = 0 from rfl] at h
          rw [h]
          refine ih (i + 1) (by omega) (by omega) (fun j hj' => ?_)
          rcases Nat.lt_or_ge j i with g | g
          · exact hj j g
          · rw [show j = i by omega]; omega
    · rw [decide_eq_false (p := (i : Int) < ((l.length : Nat) : Int)) (by omega)]
      exact ⟨0, rfl, fun _ j hj' => hj j (by omega)⟩

theorem stands_eq (k : Nat) (hk : 100 ≤ k) (l : List Sd) : ∃ e, taxi_Stands.F k l = some e ∧ (e = 0 → SdOk l) := by
  unfold taxi_Stands.F
  by_cases h : 16 < l.length
  · rw [decide_eq_true (p := ((l.length : Nat) : Int) > 16) (by omega)]; exact ⟨2, rfl, by omega⟩
  rw [decide_eq_false (p := ((l.length : Nat) : Int) > 16) (by omega)]
  obtain ⟨e, h1, h2⟩ := stands_out k hk l (by omega) k 0 (by omega) (by omega) (fun j hj => by omega)
  exact ⟨e, h1, fun he => ⟨by omega, h2 he⟩⟩

/-- A stand's time, or -1. -/
theorem stand_loop (k : Nat) (l : List Sd) (h : SdOk l) (s : ByteArray) : ∀ n i : Nat, i ≤ l.length → l.length - i < n → ∃ v, taxi_stand.l0 k l s n i = some v ∧ -1 ≤ v ∧ v ≤ 1800 := by
  intro n
  induction n with
  | zero => intro i _ h; omega
  | succ n ih =>
    intro i hi hm
    have hl := h.1
    rw [taxi_stand.l0_succ]
    unfold taxi_stand.l0b
    by_cases hlt : i < l.length
    · rw [decide_eq_true (p := (i : Int) < ((l.length : Nat) : Int)) (by omega), decide_eq_true (p := 0 ≤ (i : Int)) (by omega), w64_id (n := (i : Int) + 1) (by omega) (by omega)]
      simp only [Bool.and_self, cond_true, getD_nat, sd_eq]
      generalize ((sd l i).1.toList == s.toList) = c
      have hv := h.2 i hlt
      cases c with
      | true => exact ⟨_, rfl, by omega, hv.2⟩
      | false => exact ih (i + 1) (by omega) (by omega)
    · rw [decide_eq_false (p := (i : Int) < ((l.length : Nat) : Int)) (by omega)]
      exact ⟨-1, rfl, by omega, by omega⟩

theorem stand_eq (k : Nat) (hk : 100 ≤ k) (l : List Sd) (h : SdOk l) (s : ByteArray) : ∃ v, taxi_stand.F k l s = some v ∧ -1 ≤ v ∧ v ≤ 1800 := by
  unfold taxi_stand.F
  have := h.1
  exact stand_loop k l h s k 0 (by omega) (by omega)

attribute [local irreducible] taxi_Stands.F taxi_stand.F

theorem check_in (k : Nat) (l : List Ak) (hl : l.length ≤ 16) (x : Nat) (hx : x < l.length) (self : Int → Option Int) : ∀ n i : Nat, i ≤ x → x - i < n → (∀ j, j < i → (ak l j).1.toList ≠ (ak l x).1.toList) →
    taxi_Check.l0 k l x self n i = some 7 ∨ (taxi_Check.l0 k l x self n i = self ((x : Int) + 1) ∧ ∀ j, j < x → (ak l j).1.toList ≠ (ak l x).1.toList) := by
  intro n
  induction n with
  | zero => intro i _ h; omega
  | succ n ih =>
    intro i hi hm hj
    rw [taxi_Check.l0_succ]
    unfold taxi_Check.l0b
    have hlen : (l.take (x : Int).toNat).length = x := by simp; omega
    rw [hlen]
    by_cases hlt : i < x
    · rw [decide_eq_true (p := (i : Int) < ((x : Nat) : Int)) (by omega), decide_eq_true (p := 0 ≤ (i : Int)) (by omega), w64_id (n := (i : Int) + 1) (by omega) (by omega)]
      simp only [Bool.and_self, cond_true]
      have e1 : (l.take (x : Int).toNat).getD (i : Int).toNat (ByteArray.empty, (ByteArray.empty, 0)) = ak l i := by
        rw [Int.toNat_natCast, Int.toNat_natCast, List.getD_eq_getElem?_getD, List.getElem?_take, if_pos hlt, ← List.getD_eq_getElem?_getD]; rfl
      have e2 : l.getD (x : Int).toNat (ByteArray.empty, (ByteArray.empty, 0)) = ak l x := by rw [getD_nat]; rfl
      rw [e1, e2]
      by_cases hc : (ak l i).1.toList = (ak l x).1.toList
      · rw [cond_pos (by simpa using hc)]; exact .inl rfl
      · rw [cond_neg (by simpa using hc)]
        refine ih (i + 1) (by omega) (by omega) (fun j hj' => ?_)
        rcases Nat.lt_or_ge j i with g | g
        · exact hj j g
        · rw [show j = i by omega]; exact hc
    · rw [decide_eq_false (p := (i : Int) < ((x : Nat) : Int)) (by omega), w64_id (n := (x : Int) + 1) (by omega) (by omega)]
      exact .inr ⟨rfl, fun j hj' => hj j (by omega)⟩

/-- A departure that is asked for is in order. -/
def AkOk (k : Nat) (l : List Sd) (d : List Ak) (j : Nat) : Prop := (∃ v, taxi_stand.F k l (ak d j).2.1 = some v ∧ 0 ≤ v ∧ v ≤ 1800) ∧ 0 ≤ (ak d j).2.2 ∧ (ak d j).2.2 ≤ 200000 ∧ ∀ q, q < j → (ak d q).1.toList ≠ (ak d j).1.toList

theorem check_out (k : Nat) (hk : 100 ≤ k) (l : List Sd) (h : SdOk l) (d : List Ak) (hd : d.length ≤ 16) : ∀ n i : Nat, i ≤ d.length → d.length - i < n → (∀ j, j < i → AkOk k l d j) →
    ∃ e, taxi_Check.l1 k l d n i = some e ∧ (e = 0 → ∀ j, j < d.length → AkOk k l d j) := by
  intro n
  induction n with
  | zero => intro i _ h; omega
  | succ n ih =>
    intro i hi hm hj
    rw [taxi_Check.l1_succ]
    unfold taxi_Check.l1b
    by_cases hlt : i < d.length
    · rw [decide_eq_true (p := (i : Int) < ((d.length : Nat) : Int)) (by omega), decide_eq_true (p := 0 ≤ (i : Int)) (by omega)]
      simp only [Bool.and_self, cond_true, getD_nat, ak_eq]
      obtain ⟨b, hb⟩ := name_total k (by omega) (ak d i).1
      rw [hb]
      simp only [Option.bind_some]
      cases b with
      | false => exact ⟨3, rfl, by omega⟩
      | true =>
        simp only [Bool.not_true, cond_false]
        obtain ⟨v, hv, hv1, hv2⟩ := stand_eq k hk l h (ak d i).2.1
        rw [hv]
        simp only [Option.bind_some]
        by_cases c0 : v < 0
        · rw [decide_eq_true c0]; exact ⟨6, rfl, by omega⟩
        rw [decide_eq_false c0]
        by_cases c1 : (ak d i).2.2 < 0
        · rw [decide_eq_true c1]; exact ⟨12, rfl, by omega⟩
        by_cases c2 : (ak d i).2.2 > 200000
        · rw [decide_eq_false c1, decide_eq_true c2]; exact ⟨12, rfl, by omega⟩
        rw [decide_eq_false c1, decide_eq_false c2, decide_eq_true (p := (i : Int) ≤ ((d.length : Nat) : Int)) (by omega)]
        simp only [cond_false, Option.bind_some, Bool.and_self, cond_true]
        rcases check_in k d hd i hlt (fun x => taxi_Check.l1 k l d n x) k 0 (by omega) (by omega) (fun j hj' => by omega) with g | ⟨g, g2⟩
        · rw [show ((0 : Nat) : Int) = 0 from rfl] at g
          rw [g]; exact ⟨7, rfl, by omega⟩
        · rw [show ((0 : Nat) : Int) = 0 from rfl] at g
          rw [g]
          refine ih (i + 1) (by omega) (by omega) (fun j hj' => ?_)
          rcases Nat.lt_or_ge j i with q | q
          · exact hj j q
          · rw [show j = i by omega]; exact ⟨⟨v, hv, by omega, hv2⟩, by omega, by omega, g2⟩
    · rw [decide_eq_false (p := (i : Int) < ((d.length : Nat) : Int)) (by omega)]
      exact ⟨0, rfl, fun _ j hj' => hj j (by omega)⟩

theorem check_eq (k : Nat) (hk : 100 ≤ k) (l : List Sd) (d : List Ak) : ∃ e, taxi_Check.F k l d = some e ∧ (e = 0 → d.length ≤ 16 ∧ ∀ j, j < d.length → AkOk k l d j) := by
  unfold taxi_Check.F
  obtain ⟨e, h1, h2⟩ := stands_eq k hk l
  rw [h1]
  simp only [Option.bind_some]
  by_cases he : e = 0
  · rw [cond_neg (by simpa using he)]
    by_cases h : 16 < d.length
    · rw [decide_eq_true (p := ((d.length : Nat) : Int) > 16) (by omega)]; exact ⟨2, rfl, by omega⟩
    rw [decide_eq_false (p := ((d.length : Nat) : Int) > 16) (by omega)]
    obtain ⟨e', g1, g2⟩ := check_out k hk l (h2 he) d (by omega) k 0 (by omega) (by omega) (fun j hj => by omega)
    exact ⟨e', g1, fun q => ⟨by omega, g2 q⟩⟩
  · rw [cond_pos (by simpa using he)]
    exact ⟨e, rfl, fun q => absurd q he⟩

end Go.Proofs.Ytjppjbgpeiaobaa.RT
