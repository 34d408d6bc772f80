/- What is proved here: the plain laws JointFree, JointMore, JointEither and JointNeeds, as they are asked. They ask nothing. -/
import Derived.Test.YtlaejfnmhfkdpaaJoT
import Derived.Test.YtlaejfnmhfkdpaaPlA
import Derived.Test.YtlaejfnmhfkdpaaJoI
namespace Go.Proofs.Ytlaejfnmhfkdpaa.RT
open Go Go.R

/-- A fuel for lists of lists. -/
def mxl : List (List Opn) → Nat
  | [] => 0
  | o :: r => max o.length (mxl r)
def fuel (l : List (List Opn)) : Nat := 2000 + l.length + mxl l

theorem mxl_mem : ∀ {l : List (List Opn)} {o : List Opn}, o ∈ l → o.length ≤ mxl l
  | [], _, h => by cases h
  | x :: r, o, h => by
    unfold mxl
    rcases List.mem_cons.1 h with rfl | h
    · omega
    · have := mxl_mem h
      omega

theorem mxl_le {B : Nat} : ∀ {l : List (List Opn)}, (∀ o ∈ l, o.length ≤ B) → mxl l ≤ B
  | [], _ => Nat.zero_le _
  | x :: r, h => by
    unfold mxl
    have h1 := h x (List.mem_cons_self ..)
    have h2 := mxl_le fun o ho => h o (List.mem_cons_of_mem _ ho)
    omega

theorem fuel_ok (l : List (List Opn)) (f1 : l.length * 24 ≤ 140737488351232) (f2 : ∀ o ∈ l, o.length * 32 ≤ 140737488351232) : l.length < fuel l ∧ (∀ o ∈ l, o.length < fuel l) ∧ 2000 ≤ fuel l ∧ fuel l ≤ 4611686018427387904 := by
  unfold fuel
  have := mxl_le (B := 140737488351232) fun o ho => by have := f2 o ho; omega
  refine ⟨by omega, fun o ho => ?_, by omega, by omega⟩
  have := mxl_mem ho
  omega

/-- What an argument's size tells. -/
theorem fit_opts {l : List (List Opn)} (h : Fit (.slice (.slice (.pair (.int .i64) (.slice (.pair (.pair (.int .i64) (.pair (.pair (.int .i64) (.int .i64)) (.int .i64))) (.pair (.int .i64) (.int .i64))))))) l) : l.length * 24 ≤ 140737488351232 ∧ ∀ o ∈ l, o.length * 32 ≤ 140737488351232 :=
  ⟨h.1, fun o ho => (h.2 o ho).1⟩

theorem jofact (m : Nat) : skywaykeep3_jointFact.F (m + 1000) = some true := by kernel_rfl

theorem jofact_at {k : Nat} (hk : 2000 ≤ k) : skywaykeep3_jointFact.F k = some true := by
  obtain ⟨m, rfl⟩ : ∃ m, k = m + 1000 := ⟨k - 1000, by omega⟩
  exact jofact m

attribute [local irreducible] skywaykeep3_JointFree.F skywaykeep3_JointMore.F skywaykeep3_JointEither.F skywaykeep3_JointNeeds.F

theorem free_cal (k : Nat) (x : DatPs (skywaykeep3_JointFree.C 0).ats) : (skywaykeep3_JointFree.C k).F x = skywaykeep3_JointFree.F k x.1 x.2 := rfl
theorem JointFree_law (x : DatPs (skywaykeep3_JointFree.C 0).ats) (h : FitPs (skywaykeep3_JointFree.C 0).ats x) : ∃ k, (skywaykeep3_JointFree.C k).F x = some true := by
  obtain ⟨f1, f2⟩ := fit_opts h.1
  obtain ⟨a, b, c, d⟩ := fuel_ok x.1 f1 f2
  exact ⟨fuel x.1, (free_cal _ x).trans (JointFree_plain (fuel x.1) (by omega) d (jofact_at c) x.1 x.2 a b)⟩

theorem either_cal (k : Nat) (x : DatPs (skywaykeep3_JointEither.C 0).ats) : (skywaykeep3_JointEither.C k).F x = skywaykeep3_JointEither.F k x.1 x.2 := rfl
theorem JointEither_law (x : DatPs (skywaykeep3_JointEither.C 0).ats) (h : FitPs (skywaykeep3_JointEither.C 0).ats x) : ∃ k, (skywaykeep3_JointEither.C k).F x = some true := by
  obtain ⟨f1, f2⟩ := fit_opts h.1
  obtain ⟨a, b, c, d⟩ := fuel_ok x.1 f1 f2
  exact ⟨fuel x.1, (either_cal _ x).trans (JointEither_plain (fuel x.1) c d (jofact_at c) x.1 x.2 a b)⟩

theorem more_cal (k : Nat) (x : DatPs (skywaykeep3_JointMore.C 0).ats) : (skywaykeep3_JointMore.C k).F x = skywaykeep3_JointMore.F k x.1 x.2.1 x.2.2.1 x.2.2.2 := rfl
theorem JointMore_law (x : DatPs (skywaykeep3_JointMore.C 0).ats) (h : FitPs (skywaykeep3_JointMore.C 0).ats x) : ∃ k, (skywaykeep3_JointMore.C k).F x = some true := by
  obtain ⟨f1, f2⟩ := fit_opts h.1
  obtain ⟨a, b, c, d⟩ := fuel_ok x.1 f1 f2
  exact ⟨fuel x.1, (more_cal _ x).trans (JointMore_plain (fuel x.1) (by omega) d (jofact_at c) x.1 x.2.1 x.2.2.1 x.2.2.2 a b f1 f2)⟩

theorem needs_cal (k : Nat) (x : DatPs (skywaykeep3_JointNeeds.C 0).ats) : (skywaykeep3_JointNeeds.C k).F x = skywaykeep3_JointNeeds.F k x.1 x.2.1 x.2.2.1 x.2.2.2 := rfl
theorem JointNeeds_law (x : DatPs (skywaykeep3_JointNeeds.C 0).ats) (h : FitPs (skywaykeep3_JointNeeds.C 0).ats x) : ∃ k, (skywaykeep3_JointNeeds.C k).F x = some true := by
  obtain ⟨f1, f2⟩ := fit_opts h.1
  obtain ⟨a, b, c, d⟩ := fuel_ok x.1 f1 f2
  exact ⟨fuel x.1, (needs_cal _ x).trans (JointNeeds_plain (fuel x.1) c d (jofact_at c) x.1 x.2.1 x.2.2.1 x.2.2.2 a b)⟩

end Go.Proofs.Ytlaejfnmhfkdpaa.RT
