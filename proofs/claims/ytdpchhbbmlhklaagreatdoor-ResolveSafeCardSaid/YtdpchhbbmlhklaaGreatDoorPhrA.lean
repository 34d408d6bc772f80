/- What is proved here: the check of a clearance is always told. It asks nothing. -/
import Derived.Test.YtdpchhbbmlhklaaGreatDoorRsT
import Derived.Test.YtdpchhbbmlhklaaGreatDoorPlA
import Derived.Test.YtdpchhbbmlhklaaGreatDoorNameA
namespace Go.Proofs.YtdpchhbbmlhklaaGreatDoor.RT
open Go Go.R

attribute [local irreducible] chart_Name.F

theorem oname_total (k : Nat) (hk : 10 ≤ k) (s : ByteArray) : ∃ b, owner_Name.F k s = some b := by
  obtain ⟨b, hb⟩ := cname_total k hk s
  refine ⟨b, ?_⟩
  unfold owner_Name.F sector_Name.F
  rw [hb]
  rfl

attribute [local irreducible] owner_Name.F

theorem ba_inj {a b : ByteArray} (h : a.toList = b.toList) : a = b := by
  rw [ByteArray.toList_eq, ByteArray.toList_eq] at h
  exact ByteArray.ext (Array.toList_inj.1 h)
theorem ba_dec (a b : ByteArray) : (a.toList == b.toList) = decide (a = b) := by
  by_cases h : a = b
  · subst h; simp
  · rw [decide_eq_false h]
    simpa using fun e => h (ba_inj e)
theorem bb_dec (a b : ByteArray) : (a == b) = decide (a = b) := by
  obtain ⟨x⟩ := a
  obtain ⟨y⟩ := b
  by_cases h : x = y
  · subst h
    rw [decide_eq_true rfl]
    exact beq_self_eq_true x
  · rw [decide_eq_false (fun e => h (by cases e; rfl))]
    exact (beq_false_of_ne h : (x == y) = false)

theorem kind_loop (k : Nat) (s : ByteArray) : ∀ n i : Nat, i ≤ 7 → 7 - i < n → ∃ v, phrase_kind.l0 k s n i = some v := by
  intro n
  induction n with
  | zero => intro i _ h; omega
  | succ n ih =>
    intro i hi hn
    rw [phrase_kind.l0_succ]
    unfold phrase_kind.l0b
    by_cases hlt : i < 7
    · rw [decide_eq_true (p := (i : Int) < 7) (by omega), decide_eq_true (p := 0 ≤ (i : Int)) (by omega), decide_eq_true (p := (i : Int) < ((7 : Nat) : Int)) (by omega), show w64 ((i : Int) + 1) = ((i + 1 : Nat) : Int) from w64_id (by omega) (by omega)]
      obtain ⟨v, hv⟩ := ih (i + 1) (by omega) (by omega)
      have hv' : (fun x => phrase_kind.l0 k s n x) ((i + 1 : Nat) : Int) = some v := hv
      rw [hv']
      simp only [Bool.and_self, cond_true, cond_some]
      exact ⟨_, rfl⟩
    · rw [decide_eq_false (p := (i : Int) < 7) (by omega)]
      exact ⟨-1, rfl⟩

theorem plain_total (k : Nat) (hk : 10 ≤ k) (s : ByteArray) : ∃ b, phrase_plain.F k s = some b := by
  unfold phrase_plain.F phrase_kind.F
  obtain ⟨b, hb⟩ := oname_total k hk s
  obtain ⟨v, hv⟩ := kind_loop k s k 0 (by omega) (by omega)
  rw [show ((0 : Nat) : Int) = 0 from rfl] at hv
  rw [hb, hv]
  cases b <;> exact ⟨_, rfl⟩

attribute [local irreducible] phrase_plain.F

abbrev Cl := ByteArray × Int × Int × ByteArray

theorem pcheck_total (k : Nat) (hk : 10 ≤ k) (c : Cl) : ∃ e, phrase_Check.F k c = some e := by
  unfold phrase_Check.F
  obtain ⟨b1, h1⟩ := plain_total k hk c.1
  obtain ⟨b2, h2⟩ := plain_total k hk c.2.2.2
  rw [h1, h2]
  simp only [Option.bind_some, cond_some]
  cases b1 with
  | false => exact ⟨_, rfl⟩
  | true =>
    simp only [Bool.not_true, cond_false]
    by_cases c1 : c.2.1 < 0
    · rw [decide_eq_true c1]; exact ⟨_, rfl⟩
    rw [decide_eq_false c1]
    by_cases c2 : c.2.1 > 6
    · rw [decide_eq_true c2]; exact ⟨_, rfl⟩
    rw [decide_eq_false c2]
    simp only [cond_false]
    by_cases c3 : c.2.1 ≥ 3
    · rw [decide_eq_true c3]
      simp only [cond_true]
      exact ⟨_, rfl⟩
    rw [decide_eq_false c3]
    simp only [cond_false]
    by_cases c4 : c.2.1 = 0
    · rw [show (c.2.1 == 0) = true from beq_iff_eq.2 c4]
      cases (!(c.2.2.2.toList == (⟨#[]⟩ : ByteArray).toList)) <;> cases decide (c.2.2.1 < 0) <;> cases decide (c.2.2.1 > 60000) <;> exact ⟨_, rfl⟩
    rw [show (c.2.1 == 0) = false from beq_false_of_ne c4]
    by_cases c5 : c.2.1 = 1
    · rw [show (c.2.1 == 1) = true from beq_iff_eq.2 c5]
      cases (!(c.2.2.2.toList == (⟨#[]⟩ : ByteArray).toList)) <;> cases decide (c.2.2.1 < 0) <;> cases decide (c.2.2.1 > 4095) <;> exact ⟨_, rfl⟩
    rw [show (c.2.1 == 1) = false from beq_false_of_ne c5, show (c.2.1 == 2) = true from beq_iff_eq.2 (by omega)]
    cases (!(c.2.2.2.toList == (⟨#[]⟩ : ByteArray).toList)) <;> cases decide (c.2.2.1 < 0) <;> cases decide (c.2.2.1 > 400) <;> exact ⟨_, rfl⟩


end Go.Proofs.YtdpchhbbmlhklaaGreatDoor.RT
