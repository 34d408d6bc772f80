/- What is proved here: plain lemmas about the order of texts. They ask nothing. -/
import Derived.Test.YtkcphennphabgaaCfT
import Derived.Test.YtkcphennphabgaaPlA
namespace Go.Proofs.Ytkcphennphabgaa.RT
open Go Go.R

theorem bl_irrefl : ∀ a : List UInt8, Op.bytesLess a a = false
  | [] => rfl
  | x :: a => by simp [Op.bytesLess, bl_irrefl a]

theorem bl_trans : ∀ a b c : List UInt8, Op.bytesLess a b = true → Op.bytesLess b c = true → Op.bytesLess a c = true
  | _, _, [], _, h => by simp [Op.bytesLess] at h
  | _, [], _ :: _, h, _ => by simp [Op.bytesLess] at h
  | [], _ :: _, _ :: _, _, _ => rfl
  | x :: a, y :: b, z :: c, h, g => by
    simp only [Op.bytesLess, Bool.or_eq_true, decide_eq_true_eq, Bool.and_eq_true, beq_iff_eq] at *
    rcases h with h | ⟨rfl, h⟩
    · rcases g with g | ⟨rfl, _⟩
      · exact .inl (UInt8.lt_trans h g)
      · exact .inl h
    · rcases g with g | ⟨rfl, g⟩
      · exact .inl g
      · exact .inr ⟨rfl, bl_trans a b c h g⟩

theorem bl_tri : ∀ a b : List UInt8, Op.bytesLess a b = false → Op.bytesLess b a = false → a = b
  | [], [], _, _ => rfl
  | [], _ :: _, h, _ => by simp [Op.bytesLess] at h
  | _ :: _, [], _, h => by simp [Op.bytesLess] at h
  | x :: a, y :: b, h, g => by
    simp only [Op.bytesLess, Bool.or_eq_false_iff, decide_eq_false_iff_not, Bool.and_eq_false_iff] at *
    have e : x = y := UInt8.le_antisymm (UInt8.not_lt.1 g.1) (UInt8.not_lt.1 h.1)
    subst e
    rw [bl_tri a b (h.2.resolve_left (by simp)) (g.2.resolve_left (by simp))]

theorem bl_asymm {a b : List UInt8} (h : Op.bytesLess a b = true) : Op.bytesLess b a = false := by
  cases h' : Op.bytesLess b a with
  | false => rfl
  | true => have := bl_trans a b a h h'; rw [bl_irrefl] at this; cases this

/-- Texts compared: -1, 0 or 1. -/
def scmp (a b : ByteArray) : Int := if Op.bytesLess a.toList b.toList = true then -1 else if Op.bytesLess b.toList a.toList = true then 1 else 0

theorem scmp_neg (a b : ByteArray) : scmp b a = - scmp a b := by
  unfold scmp
  cases h : Op.bytesLess a.toList b.toList with
  | true => rw [bl_asymm h]; simp
  | false => cases h' : Op.bytesLess b.toList a.toList <;> simp

theorem scmp_lt {a b : ByteArray} : scmp a b < 0 ↔ Op.bytesLess a.toList b.toList = true := by
  unfold scmp
  cases h : Op.bytesLess a.toList b.toList with
  | true => simp
  | false => cases h' : Op.bytesLess b.toList a.toList <;> simp

theorem scmp_zero {a b : ByteArray} : scmp a b = 0 ↔ a.toList = b.toList := by
  unfold scmp
  constructor
  · intro h
    cases h1 : Op.bytesLess a.toList b.toList with
    | true => rw [h1] at h; simp at h
    | false =>
      cases h2 : Op.bytesLess b.toList a.toList with
      | true => rw [h1, h2] at h; simp at h
      | false => exact bl_tri _ _ h1 h2
  · intro h; rw [h, bl_irrefl]; simp

theorem scmp_trans {a b c : ByteArray} (h : scmp a b < 0) (g : scmp b c < 0) : scmp a c < 0 := scmp_lt.2 (bl_trans _ _ _ (scmp_lt.1 h) (scmp_lt.1 g))

theorem scmp_ntrans {a b c : ByteArray} (h : 0 ≤ scmp a b) (g : 0 ≤ scmp b c) : 0 ≤ scmp a c := by
  have h1 := scmp_neg a b
  have h2 := scmp_neg b c
  have h3 := scmp_neg a c
  by_cases e1 : scmp a b = 0
  · have q := scmp_zero.1 e1
    have : scmp a c = scmp b c := by unfold scmp; rw [q]
    omega
  by_cases e2 : scmp b c = 0
  · have q := scmp_zero.1 e2
    have : scmp a c = scmp a b := by unfold scmp; rw [q]
    omega
  have := scmp_trans (a := c) (b := b) (c := a) (by omega) (by omega)
  omega

/-- Numbers compared. -/
def icmp (a b : Int) : Int := if a < b then -1 else if b < a then 1 else 0
theorem icmp_neg (a b : Int) : icmp b a = - icmp a b := by
  unfold icmp
  split <;> split <;> omega
theorem icmp_lt {a b : Int} : icmp a b < 0 ↔ a < b := by
  unfold icmp
  by_cases h : a < b
  · rw [if_pos h]; simp [h]
  · rw [if_neg h]; split <;> simp [h]
theorem icmp_zero {a b : Int} : icmp a b = 0 ↔ a = b := by
  unfold icmp
  by_cases h : a < b
  · rw [if_pos h]; simp; omega
  · rw [if_neg h]
    by_cases g : b < a
    · rw [if_pos g]; simp; omega
    · rw [if_neg g]; simp; omega

/-- First a number, then a text. -/
def iscmp (a : Int) (s : ByteArray) (b : Int) (t : ByteArray) : Int := if icmp a b = 0 then scmp s t else icmp a b
theorem iscmp_neg (a : Int) (s : ByteArray) (b : Int) (t : ByteArray) : iscmp b t a s = - iscmp a s b t := by
  unfold iscmp
  have h := icmp_neg a b
  by_cases e : icmp a b = 0
  · rw [if_pos e, if_pos (by omega), scmp_neg]
  · rw [if_neg e, if_neg (by omega), h]
theorem iscmp_lt {a : Int} {s : ByteArray} {b : Int} {t : ByteArray} : iscmp a s b t < 0 ↔ a < b ∨ a = b ∧ scmp s t < 0 := by
  unfold iscmp
  by_cases e : icmp a b = 0
  · rw [if_pos e]; have := icmp_zero.1 e; omega
  · rw [if_neg e, icmp_lt]; have : a ≠ b := fun h => e (icmp_zero.2 h); omega
theorem iscmp_ge {a : Int} {s : ByteArray} {b : Int} {t : ByteArray} : 0 ≤ iscmp a s b t ↔ b < a ∨ a = b ∧ 0 ≤ scmp s t := by
  have := @iscmp_lt a s b t
  omega
theorem iscmp_zero {a : Int} {s : ByteArray} {b : Int} {t : ByteArray} (h : iscmp a s b t = 0) : s.toList = t.toList := by
  have h1 : ¬ iscmp a s b t < 0 := by omega
  have h2 := iscmp_neg a s b t
  have h3 : ¬ iscmp b t a s < 0 := by omega
  rw [iscmp_lt] at h1 h3
  have h4 := scmp_neg s t
  exact scmp_zero.1 (by omega)

end Go.Proofs.Ytkcphennphabgaa.RT
