/- What is proved here: plain laws of the checks of package wake. They ask nothing. -/
import Derived.Test.YtlaejfnmhfkdpaaSqT
import Derived.Test.YtlaejfnmhfkdpaaPlA
namespace Go.Proofs.Ytlaejfnmhfkdpaa.RT
open Go Go.R

abbrev Tab := (Int × Int × Int × Int) × (Int × Int × Int × Int) × (Int × Int × Int × Int) × Int × Int × Int × Int
def flat (t : Tab) : List Int := [t.1.1, t.1.2.1, t.1.2.2.1, t.1.2.2.2, t.2.1.1, t.2.1.2.1, t.2.1.2.2.1, t.2.1.2.2.2, t.2.2.1.1, t.2.2.1.2.1, t.2.2.1.2.2.1, t.2.2.1.2.2.2, t.2.2.2.1, t.2.2.2.2.1, t.2.2.2.2.2.1, t.2.2.2.2.2.2]
def tab (t : Tab) (i j : Int) : Int := (flat t).getD (0 + i.toNat * 4 + j.toNat * 1) 0

def chk1 : List Int → Option (Unit ⊕ Int) → Option (Unit ⊕ Int)
  | [], r => r
  | x :: l, r => (bif decide (x < 30) then some true else some (decide (x > 600))).bind fun b => bif b then Option.map .inr (some 4) else chk1 l r
def chk3 (t : Tab) : List (Int × Int × Int) → Option Int
  | [] => some 0
  | (a, b, c) :: l => bif decide (tab t a c > w64 (tab t a b + tab t b c)) then some 3 else chk3 t l
def trips : List (Int × Int × Int) := [0, 1, 2, 3].flatMap fun a => [0, 1, 2, 3].flatMap fun b => [0, 1, 2, 3].map fun c => (a, b, c)

theorem wcheck_eq (m : Nat) (t : Tab) : wake_Check.F (m + 5) t = (chk1 (flat t) (some (.inl ()))).bind fun y => match y with | .inl _ => chk3 t trips | .inr e => some e := by kernel_rfl

theorem chk1_eq (l : List Int) : chk1 l (some (.inl ())) = some (.inl ()) ∧ (∀ x ∈ l, 30 ≤ x ∧ x ≤ 600) ∨ chk1 l (some (.inl ())) = some (.inr 4) := by
  induction l with
  | nil => left; simp [chk1]
  | cons x l ih =>
    simp only [chk1]
    by_cases h : x < 30
    · right; simp [h]
    · by_cases h' : x > 600
      · right; simp [h, h']
      · simp only [h, h', decide_false, cond_false, Option.bind_some]
        rcases ih with ⟨h1, h2⟩ | h1
        · left
          refine ⟨h1, fun y hy => ?_⟩
          rcases List.mem_cons.1 hy with rfl | hy
          · omega
          · exact h2 y hy
        · right; exact h1

theorem chk3_eq (t : Tab) (l : List (Int × Int × Int)) : chk3 t l = some 0 ∧ (∀ p ∈ l, tab t p.1 p.2.2 ≤ w64 (tab t p.1 p.2.1 + tab t p.2.1 p.2.2)) ∨ chk3 t l = some 3 := by
  induction l with
  | nil => left; simp [chk3]
  | cons p l ih =>
    obtain ⟨a, b, c⟩ := p
    simp only [chk3]
    by_cases h : tab t a c > w64 (tab t a b + tab t b c)
    · right; simp [h]
    · simp only [h, decide_false, cond_false]
      rcases ih with ⟨h1, h2⟩ | h1
      · left
        refine ⟨h1, fun y hy => ?_⟩
        rcases List.mem_cons.1 hy with rfl | hy
        · exact Int.not_lt.1 h
        · exact h2 y hy
      · right; exact h1

/-- A table that is in order. -/
structure TabOk (t : Tab) : Prop where
  least : ∀ i j : Int, 0 ≤ i → i ≤ 3 → 0 ≤ j → j ≤ 3 → 30 ≤ tab t i j ∧ tab t i j ≤ 600
  tri : ∀ a b c : Int, 0 ≤ a → a ≤ 3 → 0 ≤ b → b ≤ 3 → 0 ≤ c → c ≤ 3 → tab t a c ≤ tab t a b + tab t b c

theorem four {i : Int} (h0 : 0 ≤ i) (h1 : i ≤ 3) : i = 0 ∨ i = 1 ∨ i = 2 ∨ i = 3 := by omega

theorem wcheck_cases (m : Nat) (t : Tab) : (wake_Check.F (m + 5) t = some 0 ∧ TabOk t) ∨ ∃ e, e ≠ 0 ∧ wake_Check.F (m + 5) t = some e := by
  rw [wcheck_eq]
  rcases chk1_eq (flat t) with ⟨h1, h2⟩ | h1
  · rw [h1]
    simp only [Option.bind_some]
    rcases chk3_eq t trips with ⟨h3, h4⟩ | h3
    · left
      have hl : ∀ i j : Int, 0 ≤ i → i ≤ 3 → 0 ≤ j → j ≤ 3 → 30 ≤ tab t i j ∧ tab t i j ≤ 600 := fun i j i0 i3 j0 j3 => by
        refine h2 _ ?_
        rcases four i0 i3 with rfl | rfl | rfl | rfl <;> rcases four j0 j3 with rfl | rfl | rfl | rfl <;> simp [tab, flat]
      refine ⟨h3, hl, fun a b c a0 a3 b0 b3 c0 c3 => ?_⟩
      have := h4 (a, b, c) (by rcases four a0 a3 with rfl | rfl | rfl | rfl <;> rcases four b0 b3 with rfl | rfl | rfl | rfl <;> rcases four c0 c3 with rfl | rfl | rfl | rfl <;> simp [trips])
      have k1 := hl a b a0 a3 b0 b3
      have k2 := hl b c b0 b3 c0 c3
      simp only at this
      rwa [w64_id (by omega) (by omega)] at this
    · exact .inr ⟨3, by omega, h3⟩
  · rw [h1]
    exact .inr ⟨4, by omega, rfl⟩

theorem class_eq (k : Nat) (n : Int) : wake_Class.F k n = some (if n < 0 ∨ 3 < n then 1 else 0) := by
  unfold wake_Class.F
  simp only [cond_some, Option.bind_some, Bool.cond_true_left]
  simp only [cond_if, Bool.or_eq_true, decide_eq_true_eq, gt_iff_lt]

def cls (n : Int) : Prop := 0 ≤ n ∧ n ≤ 3
instance (n : Int) : Decidable (cls n) := inferInstanceAs (Decidable (_ ∧ _))

theorem class_pos {k : Nat} {n : Int} (h : cls n) : wake_Class.F k n = some 0 := by
  rw [class_eq, if_neg (by unfold cls at h; omega)]
theorem class_neg {k : Nat} {n : Int} (h : ¬ cls n) : wake_Class.F k n = some 1 := by
  rw [class_eq, if_pos (by unfold cls at h; omega)]

theorem tab_in {x y : Int} (hx : cls x) (hy : cls y) : decide (0 + x.toNat * 4 + y.toNat * 1 < 16) = true := by
  unfold cls at hx hy
  exact decide_eq_true (by omega)

end Go.Proofs.Ytlaejfnmhfkdpaa.RT
