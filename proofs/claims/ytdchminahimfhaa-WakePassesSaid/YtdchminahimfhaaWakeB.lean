/- What is proved here: the plain law WakePasses. It asks nothing but the input's own bounds. -/
import Derived.Test.YtdchminahimfhaaWakeA
namespace Go.Proofs.Ytdchminahimfhaa.RT
open Go Go.R

attribute [local irreducible] wake_Least.F wake_Gap.F wake_Check.F wake_Class.F skywaykeep3_wakeFact.F skywaykeep3_pick.F slices_Clone_int.F

theorem passes_end (S T c : Int) (q : Int × Int) (hT : T ≤ S) (h0 : 0 ≤ S) (h1 : S ≤ 100000) (hq : q.2 = 0 → S + 30 ≤ q.1) (_ : c = 0) :
    ((bif ((0 : Int) == 0) then some (decide (T ≤ S)) else some false).bind fun b7 => (bif b7 then (bif (q.2 != 0) then some true else some (decide (q.1 ≥ (w64 (S + 30))))).bind fun b8 => some b8 else some false).bind fun b9 => some b9) = some true := by
  rw [w64_id (by omega) (by omega), cond_pos (by rfl), decide_eq_true hT]
  simp only [Option.bind_some, cond_true]
  by_cases h : q.2 = 0
  · rw [cond_neg (by simpa using h), decide_eq_true (hq h)]; rfl
  · rw [cond_pos (by simpa using h)]; rfl

theorem WakePasses_plain (t : Tab) (l : List Int) (c : Int) : skywaykeep3_WakePasses.F (l.length + 1 + 20) t l c = some true := by
  unfold skywaykeep3_WakePasses.F
  rw [wfact]
  simp only [Option.bind_some, Bool.not_true, cond_false]
  by_cases h2 : l.length < 2
  · rw [decide_eq_true (by omega)]; rfl
  by_cases h60 : 60 < l.length
  · rw [decide_eq_false (by omega), decide_eq_true (p := ((l.length : Nat) : Int) > 60) (by omega)]; rfl
  rw [decide_eq_false (by omega), decide_eq_false (p := ((l.length : Nat) : Int) > 60) (by omega)]
  simp only [Option.bind_some, cond_false]
  have hz : (decide (0 ≤ 0) && decide ((0 : Int) < ((l.length : Nat) : Int))) = true := by rw [decide_eq_true (p := (0 : Int) < _) (by omega)]; rfl
  have hw : (decide (0 ≤ ((l.length : Nat) : Int) - 1) && decide (((l.length : Nat) : Int) - 1 < ((l.length : Nat) : Int))) = true := inIdx (by omega) (by omega)
  have hb : Nat.ble ((l.length + 1) * 8) 140737488355328 = true := Nat.ble_eq_true_of_le (by omega)
  simp only [w64_id (n := ((l.length : Nat) : Int) - 1) (by omega) (by omega), hz, hw, cond_true, clone_int _ l (by omega), Option.bind_some, hb]
  rcases wcheck_cases (l.length + 1 + 15) t with ⟨hc, hok⟩ | ⟨e, he, hc⟩
  · have hc' : wake_Check.F (l.length + 1 + 20) t = some 0 := hc
    have e1 : wake_Least.F (l.length + 1 + 20) t l = some (leastL t none l 0) := least_eq (l.length + 1 + 15) t hc hok l (by omega) (by omega)
    have e2 : wake_Least.F (l.length + 1 + 20) t (l ++ [c]) = some (leastL t none (l ++ [c]) 0) := least_eq (l.length + 1 + 15) t hc hok (l ++ [c]) (by simp only [List.length_append, List.length_cons, List.length_nil]; omega) (by simp only [List.length_append, List.length_cons, List.length_nil]; omega)
    rw [e1, e2]
    simp only [Option.bind_some]
    obtain ⟨y, hy⟩ := gap_some _ t hc' (l.getD 0 0) (l.getD (((l.length : Nat) : Int) - 1).toNat 0)
    match l, h2, h60, hy with
    | n :: r, h2, h60, hy =>
      by_cases hn : cls n
      · rcases leastL_facts t hok r n 0 hn with ⟨k1, k2, _, k4, k5, k6⟩ | ⟨k1, _⟩
        · have eL : leastL t none (n :: r) 0 = leastL t (some n) r 0 := by simp only [leastL, if_pos hn]
          have eL2 : leastL t none (n :: r ++ [c]) 0 = leastL t (some n) (r ++ [c]) 0 := by simp only [List.cons_append, leastL, if_pos hn]
          have hr : r ≠ [] := fun h => by subst h; simp at h2
          have k4' := k4.resolve_left hr
          have last : (n :: r).getD ((((n :: r).length : Nat) : Int) - 1).toNat 0 = r.getLastD n := by
            have : ((((n :: r).length : Nat) : Int) - 1).toNat = r.length := by simp only [List.length_cons]; omega
            rw [this]
            cases r with
            | nil => exact absurd rfl hr
            | cons y r' => simp [List.getLastD, List.getLast_eq_getElem]
          have hlast : cls (r.getLastD n) := by
            refine k2 _ ?_
            cases r with
            | nil => exact absurd rfl hr
            | cons y r' =>
              rw [List.getLastD_eq_getLast?, List.getLast?_eq_some_getLast (by simp), Option.getD_some]
              exact List.getLast_mem _
          rw [last, show (n :: r).getD 0 0 = n from rfl] at hy ⊢
          rw [gap_eq _ t hc' n _ hn hlast] at hy ⊢
          simp only [Option.bind_some]
          rw [eL, eL2, k1, cond_neg (by rfl)]
          refine passes_end _ _ 0 _ k4' k5 (by simp only [List.length_cons] at h60; omega) ?_ rfl
          rw [leastL_snoc t c r n 0 k2]
          by_cases hcc : cls c
          · rw [if_pos hcc]
            intro _
            have := (hok.least _ _ hlast.1 hlast.2 hcc.1 hcc.2).1
            show _ ≤ (leastL t (some n) r 0).1 + tab t (r.getLastD n) c
            omega
          · rw [if_neg hcc]
            intro h; cases h
        · have eL : leastL t none (n :: r) 0 = (0, 1) := by simp only [leastL, if_pos hn]; exact k1
          rw [eL, hy]; rfl
      · have eL : leastL t none (n :: r) 0 = (0, 1) := by simp only [leastL, if_neg hn]
        rw [eL, hy]; rfl
  · have hc' : wake_Check.F (l.length + 1 + 20) t = some e := hc
    rw [least_bad _ t e he hc', least_bad _ t e he hc', gap_bad _ t e he hc']
    simp only [Option.bind_some]
    rw [cond_pos (by simpa using he)]
    rfl

attribute [local irreducible] skywaykeep3_WakePasses.F
theorem passes_cal (k : Nat) (x : DatPs (skywaykeep3_WakePasses.C 0).ats) : (skywaykeep3_WakePasses.C k).F x = skywaykeep3_WakePasses.F k x.1 x.2.1 x.2.2 := rfl
theorem WakePasses_law (x : DatPs (skywaykeep3_WakePasses.C 0).ats) (_ : FitPs (skywaykeep3_WakePasses.C 0).ats x) : ∃ k, (skywaykeep3_WakePasses.C k).F x = some true :=
  ⟨_, (passes_cal _ x).trans (WakePasses_plain x.1 x.2.1 x.2.2)⟩

end Go.Proofs.Ytdchminahimfhaa.RT
