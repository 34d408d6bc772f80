/- What is proved here: the plain law OwnerPasses. It asks nothing. -/
import Derived.Test.YtdchminahimfhaaOpT
import Derived.Test.YtdchminahimfhaaPlA
import Derived.Test.YtdchminahimfhaaOwnA
namespace Go.Proofs.Ytdchminahimfhaa.RT
open Go Go.R

attribute [local irreducible] owner_Name.F owner_Check.F owner_find.F owner_at.F owner_changed.F owner_Of.F slices_Equal_api_OwnerEntry.F skywaykeep3_ownerFact.F

theorem offer_cases (k : Nat) (hk : 100 ≤ k) (l : List Oe) (c b t : ByteArray) : (∃ e, e ≠ 0 ∧ owner_Offer.F k l c b t = some ([], e)) ∨
    OwOk k l ∧ ∃ j, j < l.length ∧ (oe l j).1 = c ∧ (oe l j).2.1 = b ∧ (oe l j).2.2 = ⟨#[]⟩ ∧ owner_Name.F k t = some true ∧ t ≠ b ∧ owner_Offer.F k l c b t = some (l.set j ((oe l j).1, (oe l j).2.1, t), 0) := by
  unfold owner_Offer.F
  rcases at_cases k hk l c with ⟨e, he, g⟩ | ⟨h, j, hj, hc, g⟩
  · rw [g]
    simp only [Option.bind_some]
    rw [cond_pos (c := e != 0) (by simpa using he)]
    exact .inl ⟨e, he, rfl⟩
  · rw [g]
    simp only [Option.bind_some]
    rw [cond_neg (c := (0 : Int) != 0) (by rfl), inIdx (i := (j : Int)) (n := l.length) (by omega) (by omega), getD_nat, oe_eq, bytes_eq, bytes_eq, bytes_eq]
    simp only [cond_true]
    by_cases c1 : (oe l j).2.1 = b
    · rw [decide_eq_true c1]
      by_cases c2 : (oe l j).2.2 = ⟨#[]⟩
      · rw [decide_eq_true c2]
        obtain ⟨bn, hn⟩ := oname_total k (by omega) t
        rw [hn]
        cases bn with
        | false => exact .inl ⟨3, by omega, rfl⟩
        | true =>
          by_cases c3 : t = b
          · rw [decide_eq_true c3]; exact .inl ⟨1, by omega, rfl⟩
          · rw [decide_eq_false c3, changed_eq k l h.1 j hj]
            exact .inr ⟨h, j, hj, hc, c1, c2, rfl, c3, rfl⟩
      · rw [decide_eq_false c2]; exact .inl ⟨11, by omega, rfl⟩
    · rw [decide_eq_false c1]; exact .inl ⟨16, by omega, rfl⟩

theorem accept_eq (k : Nat) (hk : 100 ≤ k) (l : List Oe) (h : OwOk k l) (c b : ByteArray) (j : Nat) (hj : j < l.length) (hc : (oe l j).1 = c) (h0 : (oe l j).2.2 ≠ ⟨#[]⟩) :
    owner_Accept.F k l c b = some (if (oe l j).2.2 = b then (l.set j (c, b, ⟨#[]⟩), 0) else ([], 16)) := by
  unfold owner_Accept.F
  rw [at_ok k hk l h c j hj hc]
  simp only [Option.bind_some]
  rw [cond_neg (c := (0 : Int) != 0) (by rfl), inIdx (i := (j : Int)) (n := l.length) (by omega) (by omega), getD_nat, oe_eq, bytes_eq, bytes_eq, decide_eq_false h0]
  simp only [cond_true, cond_false]
  by_cases c1 : (oe l j).2.2 = b
  · rw [decide_eq_true c1, if_pos c1, changed_eq k l h.1 j hj]; rfl
  · rw [decide_eq_false c1, if_neg c1]; rfl

theorem cancel_eq (k : Nat) (hk : 100 ≤ k) (l : List Oe) (h : OwOk k l) (c b : ByteArray) (j : Nat) (hj : j < l.length) (hc : (oe l j).1 = c) (h0 : (oe l j).2.2 ≠ ⟨#[]⟩) (hb : (oe l j).2.1 = b ∨ (oe l j).2.2 = b) :
    owner_Cancel.F k l c b = some (l.set j ((oe l j).1, (oe l j).2.1, ⟨#[]⟩), 0) := by
  unfold owner_Cancel.F
  rw [at_ok k hk l h c j hj hc]
  simp only [Option.bind_some]
  rw [cond_neg (c := (0 : Int) != 0) (by rfl), inIdx (i := (j : Int)) (n := l.length) (by omega) (by omega), getD_nat, oe_eq, bytes_eq, bytes_eq, bytes_eq, decide_eq_false h0, changed_eq k l h.1 j hj]
  simp only [cond_true, cond_false]
  by_cases c1 : (oe l j).2.1 = b
  · rw [decide_eq_true c1]; rfl
  · rw [decide_eq_false c1, decide_eq_true (hb.resolve_left c1)]; rfl

attribute [local irreducible] owner_Offer.F owner_Accept.F owner_Cancel.F

theorem OwnerPasses_plain (k : Nat) (hk : 100 ≤ k) (hf : skywaykeep3_ownerFact.F k = some true) (l : List Oe) (c b t o : ByteArray) : skywaykeep3_OwnerPasses.F k l c b t o = some true := by
  unfold skywaykeep3_OwnerPasses.F
  rw [hf]
  simp only [Option.bind_some, Bool.not_true, cond_false]
  rcases offer_cases k hk l c b t with ⟨e, he, g⟩ | ⟨h, j, hj, hc, hb, h0, hn, htb, g⟩
  · rw [g]
    simp only [Option.bind_some]
    rw [cond_pos (c := e != 0) (by simpa using he)]
  · rw [g]
    simp only [Option.bind_some]
    rw [cond_neg (c := (0 : Int) != 0) (by rfl)]
    have ht0 : t ≠ ⟨#[]⟩ := fun e => by rw [e, oname_empty] at hn; cases hn
    have hown := (h.2 j hj).2.1
    have hm := ow_set h hj (x := ((oe l j).1, (oe l j).2.1, t)) rfl hown (fun _ => hn) (by rw [hb]; exact htb)
    have hl := h.1
    generalize hM : l.set j ((oe l j).1, (oe l j).2.1, t) = m at *
    have hml : m.length = l.length := by rw [← hM, List.length_set]
    have hmj : oe m j = ((oe l j).1, (oe l j).2.1, t) := by rw [← hM, oe_set l j hj, if_pos rfl]
    have hmc : (oe m j).1 = c := by rw [hmj]; exact hc
    have hm0 : (oe m j).2.2 ≠ ⟨#[]⟩ := by rw [hmj]; exact ht0
    have hjm : j < m.length := by rw [hml]; exact hj
    have hn' := ow_set hm hjm (x := (c, t, ⟨#[]⟩)) (by rw [hmj]; exact hc.symm) hn (fun q => absurd rfl q) (Ne.symm ht0)
    have hnj : oe (m.set j (c, t, ⟨#[]⟩)) j = (c, t, ⟨#[]⟩) := by rw [oe_set m j hjm, if_pos rfl]
    have hback : m.set j ((oe m j).1, (oe m j).2.1, ⟨#[]⟩) = l := by
      rw [hmj, ← hM, List.set_set]
      have : ((oe l j).1, (oe l j).2.1, (⟨#[]⟩ : ByteArray)) = oe l j := by rw [← h0]
      rw [this, oe_self l j hj]
    rw [of_ok k hk m hm c j hjm hmc, accept_eq k hk m hm c t j hjm hmc hm0, accept_eq k hk m hm c o j hjm hmc hm0, cancel_eq k hk m hm c b j hjm hmc hm0 (.inl (by rw [hmj]; exact hb)), cancel_eq k hk m hm c t j hjm hmc hm0 (.inr (by rw [hmj])), if_pos (by rw [hmj]), hback, hmj]
    simp only [Option.bind_some]
    rw [of_ok k hk _ hn' c j (by rw [List.length_set]; exact hjm) (by rw [hnj]), hnj, oequal_refl k hk l hl, hb, bytes_eq o t]
    by_cases ho : t = o
    · subst ho
      simp
    · rw [if_neg ho, decide_eq_false (Ne.symm ho)]
      simp

attribute [local irreducible] skywaykeep3_OwnerPasses.F
theorem passes_cal (k : Nat) (x : DatPs (skywaykeep3_OwnerPasses.C 0).ats) : (skywaykeep3_OwnerPasses.C k).F x = skywaykeep3_OwnerPasses.F k x.1 x.2.1 x.2.2.1 x.2.2.2.1 x.2.2.2.2 := rfl
theorem OwnerPasses_law (x : DatPs (skywaykeep3_OwnerPasses.C 0).ats) (_ : FitPs (skywaykeep3_OwnerPasses.C 0).ats x) : ∃ k, (skywaykeep3_OwnerPasses.C k).F x = some true :=
  ⟨300 + 40, (passes_cal _ x).trans (OwnerPasses_plain (300 + 40) (by omega) (ofact 300) x.1 x.2.1 x.2.2.1 x.2.2.2.1 x.2.2.2.2)⟩

end Go.Proofs.Ytdchminahimfhaa.RT
