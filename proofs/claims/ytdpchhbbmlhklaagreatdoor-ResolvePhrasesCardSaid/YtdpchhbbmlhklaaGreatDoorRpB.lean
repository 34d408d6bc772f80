/- What is proved here: the law ResolvePhrases. It asks nothing. -/
import Derived.Test.YtdpchhbbmlhklaaGreatDoorRpT
import Derived.Test.YtdpchhbbmlhklaaGreatDoorRpA
namespace Go.Proofs.YtdpchhbbmlhklaaGreatDoor.RT
open Go Go.R

attribute [local irreducible] tube_Check.F phrase_Check.F resolve_Candidates.F

theorem cl_eq (x y : Cl) : (x.1 == y.1 && (x.2.1 == y.2.1 && (x.2.2.1 == y.2.2.1 && (x.2.2.2 == y.2.2.2)))) = decide (x = y) := by
  obtain ⟨x1, x2, x3, x4⟩ := x
  obtain ⟨y1, y2, y3, y4⟩ := y
  dsimp only
  rw [bb_dec, bb_dec, bb_eq, bb_eq]
  by_cases h1 : x1 = y1 <;> by_cases h2 : x2 = y2 <;> by_cases h3 : x3 = y3 <;> by_cases h4 : x4 = y4 <;> simp [h1, h2, h3, h4]

theorem ix_loop (k : Nat) (l : List Cl) (hl : l.length ≤ 64) (c : Cl) (hc : c ∉ l) : ∀ n i : Nat, i ≤ l.length → l.length - i < n → slices_Index_api_Clearance.l0 k l c n i = some (-1) := by
  intro n
  induction n with
  | zero => intro i _ h; omega
  | succ n ih =>
    intro i hi hn
    rw [slices_Index_api_Clearance.l0_succ]
    unfold slices_Index_api_Clearance.l0b
    by_cases hlt : i < l.length
    · rw [decide_eq_true (p := (i : Int) < ((l.length : Nat) : Int)) (by omega), decide_eq_true (p := 0 ≤ (i : Int)) (by omega)]
      simp only [Bool.and_self, cond_true]
      rw [cl_eq, Int.toNat_natCast]
      have hm : l.getD i (ByteArray.empty, (0, (0, ByteArray.empty))) ∈ l := by simp [List.getD, hlt]
      rw [decide_eq_false (p := c = l.getD i (ByteArray.empty, (0, (0, ByteArray.empty)))) (fun e => hc (by rw [e]; exact hm)), show w64 ((i : Int) + 1) = ((i + 1 : Nat) : Int) from w64_id (by omega) (by omega)]
      exact ih (i + 1) hlt (by omega)
    · rw [decide_eq_false (p := (i : Int) < ((l.length : Nat) : Int)) (by omega)]
      rfl

theorem rp_loop (k : Nat) (hk : 100 ≤ k) (call : ByteArray) (l : List Cl) (hl : l.length ≤ 18) (hd : l.Pairwise (· ≠ ·)) (hm : ∀ c ∈ l, c.1 = call ∧ phrase_Check.F k c = some 0) : ∀ n i : Nat, i ≤ l.length → l.length - i < n → skywaykeep3_ResolvePhrases.l0 k call (l, 0) n i = some true := by
  intro n
  induction n with
  | zero => intro i _ h; omega
  | succ n ih =>
    intro i hi hn
    rw [skywaykeep3_ResolvePhrases.l0_succ]
    unfold skywaykeep3_ResolvePhrases.l0b
    dsimp only
    by_cases hlt : i < l.length
    · rw [decide_eq_true (p := (i : Int) < ((l.length : Nat) : Int)) (by omega), decide_eq_true (p := 0 ≤ (i : Int)) (by omega), decide_eq_true (p := (i : Int) ≤ ((l.length : Nat) : Int)) (by omega)]
      simp only [Bool.and_self, cond_true]
      rw [Int.toNat_natCast]
      have hg : l.getD i (ByteArray.empty, (0, (0, ByteArray.empty))) = l[i] := by simp [List.getD, hlt]
      rw [hg]
      obtain ⟨h1, h2⟩ := hm l[i] (List.getElem_mem hlt)
      have h3 : phrase_Check.F k (l[i].1, (l[i].2.1, (l[i].2.2.1, l[i].2.2.2))) = some 0 := h2
      rw [h3, h1, ba_dec, decide_eq_true rfl]
      simp only [Bool.not_true, cond_false, Option.bind_some]
      rw [cond_neg (c := (0 : Int) != 0) (by rfl)]
      have hni : l[i] ∉ l.take i := fun hmem => by
        obtain ⟨j, hj, e⟩ := List.getElem_of_mem hmem
        rw [List.length_take] at hj
        rw [List.getElem_take] at e
        exact List.pairwise_iff_getElem.1 hd j i (by omega) hlt (by omega) e
      have e4 : slices_Contains_api_Clearance.F k (l.take i) (call, (l[i].2.1, (l[i].2.2.1, l[i].2.2.2))) = some false := by
        unfold slices_Contains_api_Clearance.F slices_Index_api_Clearance.F
        have hx : (call, (l[i].2.1, (l[i].2.2.1, l[i].2.2.2))) = l[i] := by rw [← h1]
        rw [hx]
        have := ix_loop k (l.take i) (by rw [List.length_take]; omega) l[i] hni k 0 (Nat.zero_le _) (by rw [List.length_take]; omega)
        rw [show ((0 : Nat) : Int) = 0 from rfl] at this
        rw [this]
        rfl
      rw [e4]
      simp only [Option.bind_some, cond_false]
      rw [show w64 ((i : Int) + 1) = ((i + 1 : Nat) : Int) from w64_id (by omega) (by omega)]
      exact ih (i + 1) hlt (by omega)
    · rw [decide_eq_false (p := (i : Int) < ((l.length : Nat) : Int)) (by omega), decide_eq_true (p := ((l.length : Nat) : Int) ≤ 18) (by omega)]
      rfl

theorem ResolvePhrases_plain (k : Nat) (hk : 5000 ≤ k) (hf : skywaykeep3_resolveFact.F k = some true) (l : List Nd) (call : ByteArray) (t : Int) (a : Kd) : skywaykeep3_ResolvePhrases.F k l call t a = some true := by
  unfold skywaykeep3_ResolvePhrases.F
  rw [hf]
  simp only [Option.bind_some, Bool.not_true, cond_false]
  rcases cand_eq k hk call l t a with ⟨e, he, h⟩ | ⟨hl, ha, _, _, hph, ht, hd, sp, mv, _, _, _, _, _, _, h⟩
  · rw [h]
    simp only [Option.bind_some]
    rw [cond_pos (c := e != 0) (by simpa using he)]
    rfl
  · rw [h]
    simp only [Option.bind_some]
    rw [cond_neg (c := (0 : Int) != 0) (by rfl)]
    have hlen : (cands call a ht hd sp mv slots).length ≤ 18 := cands_len call a ht hd sp mv slots
    exact rp_loop k (by omega) call _ hlen (cands_nodup call a ht hd sp mv) (fun c hc => cands_mem ha hph hc) k 0 (Nat.zero_le _) (by omega)

theorem rpfact (m : Nat) : skywaykeep3_resolveFact.F (m + 1000) = some true := by kernel_rfl

attribute [local irreducible] skywaykeep3_ResolvePhrases.F
theorem rphr_cal (k : Nat) (x : DatPs (skywaykeep3_ResolvePhrases.C 0).ats) : (skywaykeep3_ResolvePhrases.C k).F x = skywaykeep3_ResolvePhrases.F k x.1 x.2.1 x.2.2.1 x.2.2.2 := rfl
theorem ResolvePhrases_law (x : DatPs (skywaykeep3_ResolvePhrases.C 0).ats) (_ : FitPs (skywaykeep3_ResolvePhrases.C 0).ats x) : ∃ k, (skywaykeep3_ResolvePhrases.C k).F x = some true :=
  ⟨5000 + 1000, (rphr_cal _ x).trans (ResolvePhrases_plain (5000 + 1000) (by omega) (rpfact 5000) x.1 x.2.1 x.2.2.1 x.2.2.2)⟩
end Go.Proofs.YtdpchhbbmlhklaaGreatDoor.RT
