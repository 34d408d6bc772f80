/- What is proved here: the plain laws RunwayStays and RunwayKeeps, and the three laws of the runway. They ask nothing. -/
import Derived.Test.YtjppjbgpeiaobaaRuT
import Derived.Test.YtjppjbgpeiaobaaPlA
import Derived.Test.YtjppjbgpeiaobaaWakT
import Derived.Test.YtjppjbgpeiaobaaRunA
import Derived.Test.YtjppjbgpeiaobaaRunB
import Derived.Test.YtjppjbgpeiaobaaRunC
namespace Go.Proofs.Ytjppjbgpeiaobaa.RT
open Go Go.R

theorem mm_beq (a b : Mm) : ((a.1 == b.1) && ((a.2.1 == b.2.1) && ((a.2.2.1 == b.2.2.1) && (a.2.2.2 == b.2.2.2)))) = decide (a = b) := by
  obtain ⟨a1, a2, a3, a4⟩ := a
  obtain ⟨b1, b2, b3, b4⟩ := b
  by_cases h : ((a1, (a2, (a3, a4))) : Mm) = (b1, (b2, (b3, b4)))
  · rw [decide_eq_true h]
    cases h
    simp
  · rw [decide_eq_false h]
    simp only [Prod.mk.injEq, not_and] at h
    by_cases e1 : a1 = b1
    · by_cases e2 : a2 = b2
      · by_cases e3 : a3 = b3
        · have := h e1 e2 e3
          simp [e1, e2, e3, this]
        · simp [e3]
      · simp [e2]
    · simp [e1]

theorem equal_loop (k : Nat) (l : List Mm) (hl : l.length ≤ 24) : ∀ n i : Nat, i ≤ l.length → l.length - i < n → slices_Equal_api_RunwayMove.l0 k l l n i = some true := by
  intro n
  induction n with
  | zero => intro i _ h; omega
  | succ n ih =>
    intro i hi hn
    rw [slices_Equal_api_RunwayMove.l0_succ]
    unfold slices_Equal_api_RunwayMove.l0b
    by_cases hlt : i < l.length
    · rw [decide_eq_true (p := (i : Int) < ((l.length : Nat) : Int)) (by omega), decide_eq_true (p := 0 ≤ (i : Int)) (by omega)]
      simp only [Bool.and_self, cond_true, beq_self_eq_true, Bool.not_true, cond_false]
      rw [show w64 ((i : Int) + 1) = ((i + 1 : Nat) : Int) from w64_id (by omega) (by omega)]
      exact ih (i + 1) (by omega) (by omega)
    · rw [decide_eq_false (p := (i : Int) < ((l.length : Nat) : Int)) (by omega)]
      rfl

theorem equal_refl (k : Nat) (hk : 100 ≤ k) (l : List Mm) (hl : l.length ≤ 24) : slices_Equal_api_RunwayMove.F k l l = some true := by
  unfold slices_Equal_api_RunwayMove.F
  rw [cond_neg (c := ((l.length : Nat) : Int) != ((l.length : Nat) : Int)) (by simp)]
  exact equal_loop k l hl k 0 (by omega) (by omega)

attribute [local irreducible] runway_Insert.F runway_Safe.F

theorem stays_loop (k : Nat) (hk : 500000 ≤ k) (s : List Sp) (t : Tab) (ds : List Rd) (hd : ds.length ≤ 24) : ∀ (n i : Nat) (l out : List Mm), i ≤ ds.length → ds.length - i < n → Plan k l s t → l.length + (ds.length - i) ≤ 24 → Chain k s t l (ds.drop i) out →
    skywaykeep3_RunwayStays.l0 k s t ds n (l, (i : Int)) = some (Sum.inl out) := by
  intro n
  induction n with
  | zero => intro i _ _ _ h; omega
  | succ n ih =>
    intro i l out hi hn hp hl c
    rw [skywaykeep3_RunwayStays.l0_succ]
    unfold skywaykeep3_RunwayStays.l0b
    dsimp only
    by_cases hlt : i < ds.length
    · have hdr := drop_cons hlt ((0, 0) : Rd)
      rw [hdr] at c
      rw [decide_eq_true (p := (i : Int) < ((ds.length : Nat) : Int)) (by omega), show w64 ((i : Int) + 1) = ((i + 1 : Nat) : Int) from w64_id (by omega) (by omega), decide_eq_true (p := 0 ≤ (i : Int)) (by omega), decide_eq_true (p := (i : Int) ≤ ((i + 1 : Nat) : Int)) (by omega), decide_eq_true (p := ((i + 1 : Nat) : Int) ≤ ((ds.length : Nat) : Int)) (by omega)]
      simp only [Bool.and_self, cond_true, Int.toNat_natCast]
      have e : (ds.take (i + 1)).drop i = [ds.getD i (0, 0)] := by
        rw [List.drop_take, hdr]
        simp
      rw [e]
      cases c with
      | cons hq c =>
        rw [insert_chain k hk l s t _ _ hp (by simp; omega) (.cons hq (.nil _))]
        simp only [Option.bind_some]
        rw [cond_neg (c := (0 : Int) != 0) (by rfl)]
        exact ih (i + 1) _ out (by omega) (by omega) hq.plan (by rw [hq.len]; omega) c
    · rw [List.drop_eq_nil_of_le (by omega)] at c
      cases c
      rw [decide_eq_false (p := (i : Int) < ((ds.length : Nat) : Int)) (by omega)]
      rfl

theorem RunwayStays_plain (k : Nat) (hk : 500000 ≤ k) (hf : skywaykeep3_runwayFact.F k = some true) (l : List Mm) (s : List Sp) (t : Tab) (ds : List Rd) (hfit : ds.length ≤ 9000000000000000000) : skywaykeep3_RunwayStays.F k l s t ds = some true := by
  unfold skywaykeep3_RunwayStays.F
  rw [hf]
  simp only [Option.bind_some, Bool.not_true, cond_false]
  rcases insert_cases k hk l s t ds hfit with ⟨e, he, h⟩ | ⟨out, h, hp, h2, c⟩
  · rw [h]
    simp only [Option.bind_some]
    rw [cond_pos (c := e != 0) (by simpa using he)]
    rfl
  · rw [h]
    simp only [Option.bind_some]
    rw [cond_neg (c := (0 : Int) != 0) (by rfl)]
    have h3 := stays_loop k hk s t ds (by omega) k 0 l out (by omega) (by omega) hp (by omega) c
    rw [show ((0 : Nat) : Int) = 0 from rfl] at h3
    rw [h3]
    simp only [Option.bind_some]
    obtain ⟨hpo, hlo, _⟩ := c.facts hp
    rw [insert_chain k hk out s t [] out hpo (by have := hpo.chk.len; simpa using this) (.nil _)]
    simp only [Option.bind_some]
    rw [equal_refl k (by omega) out hpo.chk.len]
    rfl

theorem index_loop (k : Nat) (l : List Mm) (hl : l.length ≤ 24) (m : Mm) : ∀ n i : Nat, i ≤ l.length → l.length - i < n → m ∈ l.drop i → ∃ j : Nat, slices_Index_api_RunwayMove.l0 k l m n i = some (j : Int) ∧ j < l.length ∧ mm l j = m := by
  intro n
  induction n with
  | zero => intro i _ h; omega
  | succ n ih =>
    intro i hi hn hm
    rw [slices_Index_api_RunwayMove.l0_succ]
    unfold slices_Index_api_RunwayMove.l0b
    by_cases hlt : i < l.length
    · have hd := drop_cons hlt ((0, (0, (false, 0))) : Mm)
      rw [mm_eq] at hd
      rw [hd] at hm
      rw [decide_eq_true (p := (i : Int) < ((l.length : Nat) : Int)) (by omega), decide_eq_true (p := 0 ≤ (i : Int)) (by omega)]
      simp only [Bool.and_self, cond_true, getD_nat, mm_eq]
      rw [mm_beq]
      by_cases h : m = mm l i
      · rw [decide_eq_true h]
        exact ⟨i, rfl, hlt, h.symm⟩
      · rw [decide_eq_false h, show w64 ((i : Int) + 1) = ((i + 1 : Nat) : Int) from w64_id (by omega) (by omega)]
        rcases List.mem_cons.1 hm with e | hm
        · exact absurd e h
        · exact ih (i + 1) (by omega) (by omega) hm
    · rw [List.drop_eq_nil_of_le (by omega)] at hm
      cases hm

theorem index_eq (k : Nat) (hk : 100 ≤ k) (l : List Mm) (hl : l.length ≤ 24) (m : Mm) (hm : m ∈ l) : ∃ j : Nat, slices_Index_api_RunwayMove.F k l m = some (j : Int) ∧ j < l.length ∧ mm l j = m :=
  index_loop k l hl m k 0 (by omega) (by omega) (by simpa using hm)

theorem delete_eq (k : Nat) (l : List Mm) (hl : l.length ≤ 24) (j : Nat) (hj : j < l.length) : slices_Delete_api_RunwayMove.F k l j ((j + 1 : Nat) : Int) = some (l.take j ++ l.drop (j + 1)) := by
  unfold slices_Delete_api_RunwayMove.F
  have e1 : (l.drop (j + 1)).length = l.length - (j + 1) := List.length_drop
  have e2 : (l.take j).length = j := by rw [List.length_take]; omega
  simp only [Int.toNat_natCast]
  rw [decide_eq_true (p := 0 ≤ (j : Int)) (by omega), decide_eq_true (p := (j : Int) ≤ ((j + 1 : Nat) : Int)) (by omega), decide_eq_true (p := ((j + 1 : Nat) : Int) ≤ ((l.length : Nat) : Int)) (by omega), decide_eq_true (p := ((l.length : Nat) : Int) ≤ ((l.length : Nat) : Int)) (by omega), decide_eq_true (p := (j : Int) ≤ ((l.length : Nat) : Int)) (by omega), decide_eq_true (p := 0 ≤ ((j + 1 : Nat) : Int)) (by omega), beq_false_of_ne (show (j : Int) ≠ ((j + 1 : Nat) : Int) by omega), Nat.ble_eq_true_of_le (show j + (l.drop (j + 1)).length ≤ l.length by omega)]
  simp only [Bool.and_self, cond_true, cond_false]
  rw [cond_pos (c := _ && _)]
  · congr 1
    rw [List.append_assoc, List.take_append_of_le_length (by simp; omega), List.take_take]
    rw [show min (j + (l.drop (j + 1)).length) (j + (l.drop (j + 1)).length - 0) = j + (l.drop (j + 1)).length by omega]
    rw [List.take_append_of_le_length (by rw [List.length_append, e2]; omega)]
    exact List.take_of_length_le (by rw [List.length_append, e2]; omega)
  · simp
    omega

theorem split_at (l : List Mm) (j : Nat) (hj : j < l.length) : l.Perm (mm l j :: (l.take j ++ l.drop (j + 1))) := by
  have h : l = l.take j ++ (mm l j :: l.drop (j + 1)) := by
    conv => lhs; rw [← List.take_append_drop j l, drop_cons hj ((0, (0, (false, 0))) : Mm), mm_eq]
  conv => lhs; rw [h]
  exact List.perm_middle

theorem keeps_loop (k : Nat) (hk : 100 ≤ k) (l : List Mm) (hl : l.length ≤ 24) (D : List Mm) : ∀ (n i : Nat) (y : List Mm), i ≤ l.length → l.length - i < n → y.length ≤ 24 → y.Perm (D ++ l.drop i) → ∃ z, skywaykeep3_RunwayKeeps.l0 k l n ((i : Int), y) = some (Sum.inl z) ∧ z.Perm D := by
  intro n
  induction n with
  | zero => intro i _ _ h; omega
  | succ n ih =>
    intro i y hi hn hy hp
    rw [skywaykeep3_RunwayKeeps.l0_succ]
    unfold skywaykeep3_RunwayKeeps.l0b
    dsimp only
    by_cases hlt : i < l.length
    · have hd := drop_cons hlt ((0, (0, (false, 0))) : Mm)
      rw [mm_eq] at hd
      rw [decide_eq_true (p := (i : Int) < ((l.length : Nat) : Int)) (by omega), decide_eq_true (p := 0 ≤ (i : Int)) (by omega)]
      simp only [Bool.and_self, cond_true, getD_nat, mm_eq]
      rw [show ((mm l i).1, ((mm l i).2.1, (mm l i).2.2)) = mm l i from rfl]
      rw [hd] at hp
      obtain ⟨j, h1, h2, h3⟩ := index_eq k hk y hy (mm l i) (hp.mem_iff.2 (by simp))
      rw [h1]
      simp only [Option.bind_some]
      rw [cond_neg (decide_eq_false (by omega)), show w64 ((j : Int) + 1) = ((j + 1 : Nat) : Int) from w64_id (by omega) (by omega), show w64 ((i : Int) + 1) = ((i + 1 : Nat) : Int) from w64_id (by omega) (by omega), delete_eq k y hy j h2]
      simp only [Option.bind_some]
      refine ih (i + 1) _ (by omega) (by omega) (by simp; omega) ?_
      have q := (split_at y j h2).symm.trans (hp.trans List.perm_middle)
      rw [h3] at q
      exact q.cons_inv
    · rw [List.drop_eq_nil_of_le (by omega), List.append_nil] at hp
      rw [decide_eq_false (p := (i : Int) < ((l.length : Nat) : Int)) (by omega)]
      exact ⟨y, rfl, hp⟩

theorem keeps_last (k : Nat) (z : List Mm) (hz : z.length ≤ 24) (h : ∀ x ∈ z, x.2.2.1 = true) : ∀ n i : Nat, i ≤ z.length → z.length - i < n → skywaykeep3_RunwayKeeps.l1 k z n i = some true := by
  intro n
  induction n with
  | zero => intro i _ h; omega
  | succ n ih =>
    intro i hi hn
    rw [skywaykeep3_RunwayKeeps.l1_succ]
    unfold skywaykeep3_RunwayKeeps.l1b
    by_cases hlt : i < z.length
    · rw [decide_eq_true (p := (i : Int) < ((z.length : Nat) : Int)) (by omega), decide_eq_true (p := 0 ≤ (i : Int)) (by omega)]
      simp only [Bool.and_self, cond_true, getD_nat, mm_eq]
      unfold skywaykeep3_RunwayKeeps_1.F
      simp only [h _ (mm_mem hlt), Bool.not_true, Option.bind_some, cond_false]
      rw [show w64 ((i : Int) + 1) = ((i + 1 : Nat) : Int) from w64_id (by omega) (by omega)]
      exact ih (i + 1) (by omega) (by omega)
    · rw [decide_eq_false (p := (i : Int) < ((z.length : Nat) : Int)) (by omega)]
      rfl

theorem RunwayKeeps_plain (k : Nat) (hk : 500000 ≤ k) (hf : skywaykeep3_runwayFact.F k = some true) (l : List Mm) (s : List Sp) (t : Tab) (ds : List Rd) (hfit : ds.length ≤ 9000000000000000000) : skywaykeep3_RunwayKeeps.F k l s t ds = some true := by
  unfold skywaykeep3_RunwayKeeps.F
  rw [hf]
  simp only [Option.bind_some, Bool.not_true, cond_false]
  rcases insert_cases k hk l s t ds hfit with ⟨e, he, h⟩ | ⟨out, h, hp, h2, c⟩
  · rw [h]
    simp only [Option.bind_some]
    rw [cond_pos (c := e != 0) (by simpa using he)]
    rfl
  · rw [h]
    simp only [Option.bind_some]
    rw [cond_neg (c := (0 : Int) != 0) (by rfl)]
    obtain ⟨hpo, hlo, D, hD, hperm⟩ := c.facts hp
    have hol := hpo.chk.len
    have hll := hp.chk.len
    obtain ⟨r, hr, hz⟩ := safe_eq k (by omega) out s t
    rw [hr]
    simp only [Option.bind_some]
    rw [cond_neg (c := r.2.2 != 0) (by simpa using hz.2 hpo), w64_id (n := ((l.length : Nat) : Int) + ((ds.length : Nat) : Int)) (by omega) (by omega)]
    simp only [Option.bind_some]
    rw [cond_neg (c := ((out.length : Nat) : Int) != ((l.length : Nat) : Int) + ((ds.length : Nat) : Int)) (by simp; omega), clone_mm k out hol]
    simp only [Option.bind_some]
    obtain ⟨z, hz1, hz2⟩ := keeps_loop k (by omega) l hll D k 0 out (by omega) (by omega) hol (by simpa using hperm)
    rw [show ((0 : Nat) : Int) = 0 from rfl] at hz1
    rw [hz1]
    simp only [Option.bind_some]
    have hlen : z.length ≤ 24 := by
      have e1 := hz2.length_eq
      have e2 := hperm.length_eq
      rw [List.length_append] at e2
      omega
    exact keeps_last k z hlen (fun x hx => hD x (hz2.mem_iff.1 hx)) k 0 (by omega) (by omega)

theorem rfact (m : Nat) : skywaykeep3_runwayFact.F (m + 40) = some true := by kernel_rfl

attribute [local irreducible] skywaykeep3_RunwayTurns.F skywaykeep3_RunwayStays.F skywaykeep3_RunwayKeeps.F
theorem turns_cal (k : Nat) (x : DatPs (skywaykeep3_RunwayTurns.C 0).ats) : (skywaykeep3_RunwayTurns.C k).F x = skywaykeep3_RunwayTurns.F k x.1 x.2.1 x.2.2.1 x.2.2.2 := rfl
theorem RunwayTurns_law (x : DatPs (skywaykeep3_RunwayTurns.C 0).ats) (_ : FitPs (skywaykeep3_RunwayTurns.C 0).ats x) : ∃ k, (skywaykeep3_RunwayTurns.C k).F x = some true :=
  ⟨500000 + 40, (turns_cal _ x).trans (RunwayTurns_plain (500000 + 40) (by omega) (rfact 500000) x.1 x.2.1 x.2.2.1 x.2.2.2)⟩
theorem stays_cal (k : Nat) (x : DatPs (skywaykeep3_RunwayStays.C 0).ats) : (skywaykeep3_RunwayStays.C k).F x = skywaykeep3_RunwayStays.F k x.1 x.2.1 x.2.2.1 x.2.2.2 := rfl
theorem ready_len {ds : List Rd} (h : Fit (.slice (.pair (.int .i64) (.int .i64))) ds) : ds.length ≤ 9000000000000000000 := by
  have h1 : List.length ds * 16 ≤ 140737488351232 := h.1
  omega
theorem RunwayStays_law (x : DatPs (skywaykeep3_RunwayStays.C 0).ats) (h : FitPs (skywaykeep3_RunwayStays.C 0).ats x) : ∃ k, (skywaykeep3_RunwayStays.C k).F x = some true :=
  ⟨500000 + 40, (stays_cal _ x).trans (RunwayStays_plain (500000 + 40) (by omega) (rfact 500000) x.1 x.2.1 x.2.2.1 x.2.2.2 (ready_len h.2.2.2))⟩
theorem keeps_cal (k : Nat) (x : DatPs (skywaykeep3_RunwayKeeps.C 0).ats) : (skywaykeep3_RunwayKeeps.C k).F x = skywaykeep3_RunwayKeeps.F k x.1 x.2.1 x.2.2.1 x.2.2.2 := rfl
theorem RunwayKeeps_law (x : DatPs (skywaykeep3_RunwayKeeps.C 0).ats) (h : FitPs (skywaykeep3_RunwayKeeps.C 0).ats x) : ∃ k, (skywaykeep3_RunwayKeeps.C k).F x = some true :=
  ⟨500000 + 40, (keeps_cal _ x).trans (RunwayKeeps_plain (500000 + 40) (by omega) (rfact 500000) x.1 x.2.1 x.2.2.1 x.2.2.2 (ready_len h.2.2.2))⟩

end Go.Proofs.Ytjppjbgpeiaobaa.RT
