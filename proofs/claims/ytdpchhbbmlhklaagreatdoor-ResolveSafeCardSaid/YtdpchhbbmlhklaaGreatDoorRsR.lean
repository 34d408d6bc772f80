/- What is proved here: the checks of a list of tubes. They ask nothing. -/
import Derived.Test.YtdpchhbbmlhklaaGreatDoorRsT
import Derived.Test.YtdpchhbbmlhklaaGreatDoorResA
namespace Go.Proofs.YtdpchhbbmlhklaaGreatDoor.RT
open Go Go.R

attribute [local irreducible] tube_Check.F tube_at.F plane_Check.F tube_Point.F plane_Distance.F probe_separated.F probe_pair.F

/-! ### Checks -/

theorem sepc_tot (k : Nat) (s : Int × Int) : ∃ e, probe_CheckSep.F k s = some e := by
  unfold probe_CheckSep.F
  cases decide (s.1 < 0) <;> cases decide (s.1 > 1000000) <;> cases decide (s.2 < 0) <;> cases decide (s.2 > 60000) <;> exact ⟨_, rfl⟩

theorem prck_loop (k : Nat) (hk : 100 ≤ k) (l : List (List Nd)) (hl : l.length ≤ 64) (hT : ∀ t ∈ l, TubeOk t) : ∀ n i : Nat, i ≤ l.length → l.length - i < n → probe_check.l0 k l n i = some 0 := by
  intro n
  induction n with
  | zero => intro i _ h; omega
  | succ n ih =>
    intro i hi hn
    rw [probe_check.l0_succ]
    unfold probe_check.l0b
    by_cases hlt : i < l.length
    · rw [decide_eq_true (p := (i : Int) < ((l.length : Nat) : Int)) (by omega), decide_eq_true (p := 0 ≤ (i : Int)) (by omega)]
      have hg : l.getD ((i : Int)).toNat [] = tub l i := by rw [Int.toNat_natCast]; rfl
      rw [hg, tcheck_pos hk (hT _ (by unfold tub; simp [List.getD, hlt]))]
      simp only [Bool.and_self, cond_true, Option.bind_some]
      rw [cond_neg (c := (0 : Int) != 0) (by rfl), show w64 ((i : Int) + 1) = ((i + 1 : Nat) : Int) from w64_id (by omega) (by omega)]
      exact ih (i + 1) (by omega) (by omega)
    · rw [decide_eq_false (p := (i : Int) < ((l.length : Nat) : Int)) (by omega)]
      rfl

theorem prck_eq (k : Nat) (hk : 100 ≤ k) (s : Int × Int) (hs : probe_CheckSep.F k s = some 0) (l : List (List Nd)) (hl : l.length ≤ 64) (hT : ∀ t ∈ l, TubeOk t) : probe_check.F k s l = some 0 := by
  unfold probe_check.F
  rw [hs]
  simp only [Option.bind_some]
  rw [cond_neg (c := (0 : Int) != 0) (by rfl)]
  exact prck_loop k hk l hl hT k 0 (by omega) (by omega)

theorem rsck_loop (k : Nat) (hk : 100 ≤ k) (l : List (List Nd)) (hl : l.length ≤ 64) (hT : ∀ t ∈ l, TubeOk t) : ∀ n i : Nat, i ≤ l.length → l.length - i < n → resolve_check.l0 k l n i = some (.inl ()) := by
  intro n
  induction n with
  | zero => intro i _ h; omega
  | succ n ih =>
    intro i hi hn
    rw [resolve_check.l0_succ]
    unfold resolve_check.l0b
    by_cases hlt : i < l.length
    · rw [decide_eq_true (p := (i : Int) < ((l.length : Nat) : Int)) (by omega), decide_eq_true (p := 0 ≤ (i : Int)) (by omega)]
      have hg : l.getD ((i : Int)).toNat [] = tub l i := by rw [Int.toNat_natCast]; rfl
      rw [hg, tcheck_pos hk (hT _ (by unfold tub; simp [List.getD, hlt]))]
      simp only [Bool.and_self, cond_true, Option.bind_some]
      rw [cond_neg (c := (0 : Int) != 0) (by rfl), show w64 ((i : Int) + 1) = ((i + 1 : Nat) : Int) from w64_id (by omega) (by omega)]
      exact ih (i + 1) (by omega) (by omega)
    · rw [decide_eq_false (p := (i : Int) < ((l.length : Nat) : Int)) (by omega)]
      rfl

attribute [local irreducible] probe_CheckSep.F probe_check.F

/-- Few, valid and short flights. -/
structure Few (l : List (List Nd)) : Prop where
  few : l.length ≤ 5
  ok : ∀ t ∈ l, TubeOk t
  short : ∀ t ∈ l, tl t - tm t 0 ≤ 300

theorem Few.at {l : List (List Nd)} (h : Few l) {i : Nat} (hi : i < l.length) : TubeOk (tub l i) ∧ tl (tub l i) - tm (tub l i) 0 ≤ 300 := by
  have hm : tub l i ∈ l := by unfold tub; simp [List.getD, hi]
  exact ⟨h.ok _ hm, h.short _ hm⟩

end Go.Proofs.YtdpchhbbmlhklaaGreatDoor.RT
