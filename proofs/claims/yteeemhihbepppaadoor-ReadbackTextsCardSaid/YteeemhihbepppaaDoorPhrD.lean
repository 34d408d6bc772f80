/- What is proved here: the plain laws PhraseBacks, PhraseReads and ReadbackTexts. They ask nothing. -/
import Derived.Test.YteeemhihbepppaaDoorPhT
import Derived.Test.YteeemhihbepppaaDoorPlA
import Derived.Test.YteeemhihbepppaaDoorPhrC
namespace Go.Proofs.YteeemhihbepppaaDoor.RT
open Go Go.R

attribute [local irreducible] phrase_plain.F phrase_kind.F phrase_Check.F phrase_body.F phrase_read.F phrase_Print.F phrase_Back.F phrase_Parse.F

theorem cl_dec (a b : Cl) : ((a.1 == b.1) && ((a.2.1 == b.2.1) && ((a.2.2.1 == b.2.2.1) && (a.2.2.2 == b.2.2.2)))) = decide (a = b) := by
  obtain ⟨a1, a2, a3, a4⟩ := a
  obtain ⟨b1, b2, b3, b4⟩ := b
  dsimp only
  rw [bb_dec, bb_dec]
  by_cases h : ((a1, (a2, (a3, a4))) : Cl) = (b1, (b2, (b3, b4)))
  · rw [decide_eq_true h]
    cases h
    simp
  · rw [decide_eq_false h]
    simp only [Prod.mk.injEq, not_and] at h
    by_cases e1 : a1 = b1
    · by_cases e2 : a2 = b2
      · by_cases e3 : a3 = b3
        · have := h e1 e2 e3
          simp [e1, e2, e3, this]
        · simp [e3]
      · simp [e2]
    · simp [e1]

theorem print_err {k : Nat} {c : Cl} {e : Int} (hc : phrase_Check.F k c = some e) (he : e ≠ 0) : phrase_Print.F k c = some (⟨#[]⟩, e) ∧ phrase_Back.F k c = some (⟨#[]⟩, e) := by
  unfold phrase_Print.F phrase_Back.F
  rw [hc]
  simp only [Option.bind_some]
  rw [cond_pos (c := e != 0) (by simpa using he), cond_pos (c := e != 0) (by simpa using he)]
  exact ⟨rfl, rfl⟩

theorem PhraseBacks_plain (k : Nat) (hk : 10 ≤ k) (hf : skywaykeep3_phraseFact.F k = some true) (c : Cl) : skywaykeep3_PhraseBacks.F k c = some true := by
  unfold skywaykeep3_PhraseBacks.F
  rw [hf]
  simp only [Option.bind_some, Bool.not_true, cond_false]
  obtain ⟨e, hc⟩ := pcheck_total k hk c
  by_cases he : e = 0
  · subst he
    obtain ⟨i, h⟩ := ok_of_check hk hc
    rw [print_eq hk hc h, back_eq hk hc h]
    simp only [Option.bind_some]
    rw [cond_neg (c := (0 : Int) != 0) (by rfl), parse_print hk hc h, parse_back hk hc h]
    simp only [Option.bind_some, beq_self_eq_true, cond_true, cl_dec, decide_true, Bool.not_false]
  · obtain ⟨h1, h2⟩ := print_err hc he
    rw [h1, h2]
    simp only [Option.bind_some]
    rw [cond_pos (c := e != 0) (by simpa using he)]
    simp only [beq_self_eq_true, cond_true, Option.bind_some]

theorem bs_of {s : ByteArray} {l : List UInt8} (h : s.data.toList = l) : s = ⟨l.toArray⟩ := by
  subst h
  rfl

theorem PhraseReads_plain (k : Nat) (hk : 10 ≤ k) (hf : skywaykeep3_phraseFact.F k = some true) (s : ByteArray) : skywaykeep3_PhraseReads.F k s = some true := by
  have bad : ∀ e : Int, e ≠ 0 → phrase_Parse.F k s = some (z0, false, e) → skywaykeep3_PhraseReads.F k s = some true := fun e he h => by
    unfold skywaykeep3_PhraseReads.F
    rw [hf]
    simp only [Option.bind_some, Bool.not_true, cond_false]
    rw [h]
    simp only [Option.bind_some]
    rw [cond_pos (c := e != 0) (by simpa using he)]
    have : ((z0.1 == ByteArray.empty) && ((z0.2.1 == 0) && ((z0.2.2.1 == 0) && (z0.2.2.2 == ByteArray.empty)))) = true := (cl_dec z0 z0).trans (decide_eq_true rfl)
    rw [this]
    rfl
  by_cases hs : s.size ≤ 120
  · by_cases h3 : (cutL 32 s.data.toList).length = 3
    · obtain ⟨p, q, r, hc⟩ : ∃ p q r, cutL 32 s.data.toList = [p, q, r] := by
        match hcut : cutL 32 s.data.toList, h3 with
        | [p, q, r], _ => exact ⟨p, q, r, rfl⟩
      have hj := joinL_cut 32 s.data.toList
      rw [hc] at hj
      simp only [joinL] at hj
      have hlen : p.length + q.length + r.length + 2 = s.size := by
        have := congrArg List.length hj
        simp only [List.length_append, List.length_cons] at this
        have e : s.data.toList.length = s.size := by simp
        omega
      have hp := parse_of (k := k) (p := ⟨p.toArray⟩) (q := ⟨q.toArray⟩) (r := ⟨r.toArray⟩) hs hc
      have sz : ∀ l : List UInt8, (⟨l.toArray⟩ : ByteArray).size = l.length := fun l => rfl
      -- what a clearance that was read and checked has for its texts
      have fin : ∀ {a b d : List UInt8} {c : Cl}, phrase_Check.F k c = some 0 → (c.1 = ⟨a.toArray⟩ ∧ ∃ i : Nat, i < 7 ∧ c.2.1 = (i : Int) ∧ wd i = ⟨b.toArray⟩ ∧ ((3 ≤ i ∧ c.2.2.2 = ⟨d.toArray⟩) ∨ (i < 3 ∧ numF c.2.2.1 = ⟨d.toArray⟩))) →
          phrase_Print.F k c = some (⟨(a ++ 32 :: (b ++ 32 :: d)).toArray⟩, 0) ∧ phrase_Back.F k c = some (⟨(b ++ 32 :: (d ++ 32 :: a)).toArray⟩, 0) := fun {a b d c} hck hx => by
        obtain ⟨i, h⟩ := ok_of_check hk hck
        obtain ⟨e1, j, hj7, ej, ew, ev⟩ := hx
        obtain rfl : i = j := by have := h.kd; omega
        have hval : val c = ⟨d.toArray⟩ := by
          unfold val
          rcases ev with ⟨h3, e⟩ | ⟨h3, e⟩
          · rw [decide_eq_true (p := (3 : Int) ≤ c.2.1) (by omega)]
            exact e
          · rw [decide_eq_false (p := (3 : Int) ≤ c.2.1) (by omega)]
            exact e
        rw [print_eq hk hck h, back_eq hk hck h, e1, ew, hval]
        constructor
        · congr 2
          apply (bs_of _)
          simp only [dl_app]
          show (a ++ [32]) ++ (b ++ [32] ++ d) = _
          simp
        · congr 2
          apply (bs_of _)
          simp only [dl_app]
          show ((b ++ [32]) ++ d) ++ [32] ++ a = _
          simp
      have good : ∀ {c : Cl} {back : Bool}, phrase_Parse.F k s = some (c, back, 0) → phrase_Print.F k c = some (bif back then ⟨#[]⟩ else s, 0) ∨ back = true → (back = false → phrase_Print.F k c = some (s, 0)) → (back = true → (∃ t, phrase_Print.F k c = some t) ∧ phrase_Back.F k c = some (s, 0)) → skywaykeep3_PhraseReads.F k s = some true := fun {c back} h _ h1 h2 => by
        unfold skywaykeep3_PhraseReads.F
        rw [hf]
        simp only [Option.bind_some, Bool.not_true, cond_false]
        rw [h]
        simp only [Option.bind_some]
        rw [cond_neg (c := (0 : Int) != 0) (by rfl)]
        cases back with
        | false =>
          rw [h1 rfl]
          simp
        | true =>
          obtain ⟨⟨t, ht⟩, hb⟩ := h2 rfl
          rw [ht, hb]
          simp
      obtain ⟨c, b, hr, hb⟩ := read_cases hk ⟨p.toArray⟩ ⟨q.toArray⟩ ⟨r.toArray⟩ (by rw [sz]; omega)
      cases b with
      | true =>
        have hx := hb rfl
        obtain ⟨e, hck⟩ := pcheck_total k hk c
        have hP : phrase_Parse.F k s = bif (e != 0) then some (z0, false, e) else some (c, false, 0) := by
          rw [hp]
          unfold parseW
          rw [hr]
          simp only [Option.bind_some, Bool.not_true, cond_false]
          rw [hck]
          rfl
        by_cases he : e = 0
        · subst he
          obtain ⟨f1, _⟩ := fin hck hx
          have hs' : s = ⟨(p ++ 32 :: (q ++ 32 :: r)).toArray⟩ := bs_of hj.symm
          exact good (back := false) hP (.inl (by rw [f1, ← hs']; rfl)) (fun _ => by rw [f1, ← hs']) (fun h => by cases h)
        · rw [cond_pos (c := e != 0) (by simpa using he)] at hP
          exact bad e he hP
      | false =>
        obtain ⟨c', b', hr', hb'⟩ := read_cases hk ⟨r.toArray⟩ ⟨p.toArray⟩ ⟨q.toArray⟩ (by rw [sz]; omega)
        cases b' with
        | true =>
          have hx := hb' rfl
          obtain ⟨e, hck⟩ := pcheck_total k hk c'
          have hP : phrase_Parse.F k s = bif (e != 0) then some (z0, false, e) else some (c', true, 0) := by
            rw [hp]
            unfold parseW
            rw [hr]
            simp only [Option.bind_some, Bool.not_false, cond_true]
            rw [hr']
            simp only [Option.bind_some, Bool.not_true, cond_false]
            rw [hck]
            rfl
          by_cases he : e = 0
          · subst he
            obtain ⟨f1, f2⟩ := fin hck hx
            have hs' : s = ⟨(p ++ 32 :: (q ++ 32 :: r)).toArray⟩ := bs_of hj.symm
            exact good (back := true) hP (.inr rfl) (fun h => by cases h) (fun _ => ⟨⟨_, f1⟩, by rw [f2, ← hs']⟩)
          · rw [cond_pos (c := e != 0) (by simpa using he)] at hP
            exact bad e he hP
        | false =>
          refine bad 5 (by omega) ?_
          rw [hp]
          unfold parseW
          rw [hr]
          simp only [Option.bind_some, Bool.not_false, cond_true]
          rw [hr']
          rfl
    · exact bad 5 (by omega) (parse_not hs h3)
  · exact bad 2 (by omega) (parse_long (by omega))

/-! ### ReadbackTexts -/

/-- What differs. -/
def dif (a b : Cl) : Int := (if a.1 = b.1 then 0 else 1) + (if a.2.1 = b.2.1 then 0 else 2) + (if a.2.2.1 = b.2.2.1 then 0 else 4) + (if a.2.2.2 = b.2.2.2 then 0 else 8)

theorem dif_symm (a b : Cl) : dif b a = dif a b := by
  simp only [dif, eq_comm]

theorem dif_zero (a b : Cl) : (dif a b = 0 ↔ a = b) ∧ 0 ≤ dif a b ∧ dif a b < 16 := by
  obtain ⟨a1, a2, a3, a4⟩ := a
  obtain ⟨b1, b2, b3, b4⟩ := b
  unfold dif
  dsimp only
  by_cases e1 : a1 = b1 <;> by_cases e2 : a2 = b2 <;> by_cases e3 : a3 = b3 <;> by_cases e4 : a4 = b4 <;> simp [e1, e2, e3, e4]

theorem compare_eq {k : Nat} {a b : Cl} (ha : phrase_Check.F k a = some 0) (hb : phrase_Check.F k b = some 0) : readback_Compare.F k a b = some (dif a b, 0) := by
  unfold readback_Compare.F
  rw [ha, hb]
  simp only [Option.bind_some]
  rw [cond_neg (c := (0 : Int) != 0) (by rfl), cond_neg (c := (0 : Int) != 0) (by rfl), ba_dec, ba_dec]
  unfold dif
  by_cases e1 : a.1 = b.1
  all_goals by_cases e2 : a.2.1 = b.2.1
  all_goals by_cases e3 : a.2.2.1 = b.2.2.1
  all_goals by_cases e4 : a.2.2.2 = b.2.2.2
  all_goals
    first | rw [decide_eq_true e1, if_pos e1] | rw [decide_eq_false e1, if_neg e1]
    first | rw [show (a.2.1 != b.2.1) = false by simp [e2], if_pos e2] | rw [show (a.2.1 != b.2.1) = true by simpa using e2, if_neg e2]
    first | rw [show (a.2.2.1 != b.2.2.1) = false by simp [e3], if_pos e3] | rw [show (a.2.2.1 != b.2.2.1) = true by simpa using e3, if_neg e3]
    first | rw [decide_eq_true e4, if_pos e4] | rw [decide_eq_false e4, if_neg e4]
    rfl

theorem compare_err {k : Nat} {a b : Cl} {e : Int} (h : phrase_Check.F k a = some e) (he : e ≠ 0) : readback_Compare.F k a b = some (0, e) := by
  unfold readback_Compare.F
  rw [h]
  simp only [Option.bind_some]
  rw [cond_pos (c := e != 0) (by simpa using he)]

theorem compare_err2 {k : Nat} {a b : Cl} {e : Int} (ha : phrase_Check.F k a = some 0) (h : phrase_Check.F k b = some e) (he : e ≠ 0) : readback_Compare.F k a b = some (0, e) := by
  unfold readback_Compare.F
  rw [ha, h]
  simp only [Option.bind_some]
  rw [cond_neg (c := (0 : Int) != 0) (by rfl), cond_pos (c := e != 0) (by simpa using he)]

attribute [local irreducible] readback_Compare.F

theorem ReadbackTexts_plain (k : Nat) (hk : 10 ≤ k) (hf : skywaykeep3_phraseFact.F k = some true) (hg : skywaykeep3_readbackFact.F k = some true) (a b : Cl) : skywaykeep3_ReadbackTexts.F k a b = some true := by
  unfold skywaykeep3_ReadbackTexts.F
  rw [hg, hf]
  simp only [Option.bind_some, Bool.not_true, cond_false]
  obtain ⟨e, ha⟩ := pcheck_total k hk a
  by_cases he : e = 0
  · subst he
    obtain ⟨e', hb⟩ := pcheck_total k hk b
    by_cases he' : e' = 0
    · subst he'
      obtain ⟨i, hi⟩ := ok_of_check hk ha
      obtain ⟨j, hj⟩ := ok_of_check hk hb
      rw [compare_eq ha hb, compare_eq hb ha, dif_symm a b]
      simp only [Option.bind_some]
      rw [cond_neg (c := (0 : Int) != 0) (by rfl)]
      have pa := parse_print hk ha hi
      have pb := parse_print hk hb hj
      rw [print_eq hk ha hi, print_eq hk hb hj]
      obtain ⟨z, z0, z1⟩ := dif_zero a b
      have key : ((((a.1 ++ Sp) ++ ((wd i ++ Sp) ++ val a)).toList == ((b.1 ++ Sp) ++ ((wd j ++ Sp) ++ val b)).toList) == (dif a b == 0)) = true := by
        rw [ba_dec]
        by_cases h : a = b
        · subst h
          obtain rfl : i = j := by have := hi.kd; have := hj.kd; omega
          rw [decide_eq_true rfl, z.2 rfl]
          rfl
        · rw [show (dif a b == 0) = false from beq_false_of_ne fun e => h (z.1 e), decide_eq_false]
          · rfl
          · intro e
            rw [e, pb] at pa
            exact h (Prod.mk.inj (Option.some.inj pa)).1.symm
      simp only [Option.bind_some, beq_self_eq_true, cond_true]
      rw [key, decide_eq_true (p := dif a b ≥ 0) z0, decide_eq_true (p := dif a b < 16) z1]
      rfl
    · rw [compare_err2 ha hb he']
      simp only [Option.bind_some]
      rw [cond_pos (c := e' != 0) (by simpa using he')]
      rfl
  · rw [compare_err ha he]
    simp only [Option.bind_some]
    rw [cond_pos (c := e != 0) (by simpa using he)]
    rfl

/-! ### The laws -/

theorem phfact (m : Nat) : skywaykeep3_phraseFact.F (m + 100) = some true := by kernel_rfl
theorem rbfact (m : Nat) : skywaykeep3_readbackFact.F (m + 100) = some true := by kernel_rfl

attribute [local irreducible] skywaykeep3_PhraseBacks.F skywaykeep3_PhraseReads.F skywaykeep3_ReadbackTexts.F
theorem backs_cal (k : Nat) (x : DatPs (skywaykeep3_PhraseBacks.C 0).ats) : (skywaykeep3_PhraseBacks.C k).F x = skywaykeep3_PhraseBacks.F k x := rfl
theorem PhraseBacks_law (x : DatPs (skywaykeep3_PhraseBacks.C 0).ats) (_ : FitPs (skywaykeep3_PhraseBacks.C 0).ats x) : ∃ k, (skywaykeep3_PhraseBacks.C k).F x = some true :=
  ⟨100 + 100, (backs_cal _ x).trans (PhraseBacks_plain (100 + 100) (by omega) (phfact 100) x)⟩
theorem reads_cal (k : Nat) (x : DatPs (skywaykeep3_PhraseReads.C 0).ats) : (skywaykeep3_PhraseReads.C k).F x = skywaykeep3_PhraseReads.F k x := rfl
theorem PhraseReads_law (x : DatPs (skywaykeep3_PhraseReads.C 0).ats) (_ : FitPs (skywaykeep3_PhraseReads.C 0).ats x) : ∃ k, (skywaykeep3_PhraseReads.C k).F x = some true :=
  ⟨100 + 100, (reads_cal _ x).trans (PhraseReads_plain (100 + 100) (by omega) (phfact 100) x)⟩
theorem texts_cal (k : Nat) (x : DatPs (skywaykeep3_ReadbackTexts.C 0).ats) : (skywaykeep3_ReadbackTexts.C k).F x = skywaykeep3_ReadbackTexts.F k x.1 x.2 := rfl
theorem ReadbackTexts_law (x : DatPs (skywaykeep3_ReadbackTexts.C 0).ats) (_ : FitPs (skywaykeep3_ReadbackTexts.C 0).ats x) : ∃ k, (skywaykeep3_ReadbackTexts.C k).F x = some true :=
  ⟨100 + 100, (texts_cal _ x).trans (ReadbackTexts_plain (100 + 100) (by omega) (phfact 100) (rbfact 100) x.1 x.2)⟩

end Go.Proofs.YteeemhihbepppaaDoor.RT
