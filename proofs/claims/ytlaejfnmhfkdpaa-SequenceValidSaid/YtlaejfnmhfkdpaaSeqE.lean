/- What is proved here: the laws SequenceValid, SequenceShifts, SequenceGains. They ask nothing. -/
import Derived.Test.YtlaejfnmhfkdpaaSqT
import Derived.Test.YtlaejfnmhfkdpaaSeqB
namespace Go.Proofs.Ytlaejfnmhfkdpaa.RT
open Go Go.R

attribute [local irreducible] cmp_Compare_int.F cmp_Compare_string.F cmp_Or_int.F sequence_next.F slices_Index_int.F sequence_permutation.F sequence_natural.F

/-! ### Landing times keep the required times -/

theorem times_facts {q : Nat} {l : List Arr} {t : Tab} (hl : ArrOk q l) (ht : TabOk t) : ∀ (o : List Int) (last at_ : Int) (out : List Int), (∀ x ∈ o, 0 ≤ x ∧ x < l.length) → last < l.length → 0 ≤ at_ → at_ ≤ 200000 → timesL l t o last at_ = some out →
    out.length = o.length ∧ ∀ p, p < o.length → (ar l (o.getD p 0).toNat).2.2.1 ≤ out.getD p 0 ∧ out.getD p 0 ≤ (ar l (o.getD p 0).toNat).2.2.2 ∧
      (p = 0 → 0 ≤ last → at_ + tab t (ar l last.toNat).2.1 (ar l (o.getD p 0).toNat).2.1 ≤ out.getD p 0) ∧ (1 ≤ p → out.getD (p - 1) 0 + tab t (ar l (o.getD (p - 1) 0).toNat).2.1 (ar l (o.getD p 0).toNat).2.1 ≤ out.getD p 0) := by
  intro o
  induction o with
  | nil => intro _ _ out _ _ _ _ h; simp only [timesL, Option.some.injEq] at h; subst h; exact ⟨rfl, fun p hp => by simp at hp⟩
  | cons x r ih =>
    intro last at_ out ho hlast ha0 ha h
    have hx := ho x (by simp)
    have hb := nxt_bounds hl ht hx hlast ⟨ha0, ha⟩
    unfold timesL at h
    split at h
    · cases h
    · rename_i hc
      have hm := (hl.each x.toNat (by omega)).most
      cases hr : timesL l t r x (nxt l t last x at_) with
      | none => rw [hr] at h; cases h
      | some out' =>
        rw [hr] at h
        simp only [Option.map_some, Option.some.injEq] at h
        subst h
        obtain ⟨h1, h2⟩ := ih x _ out' (fun y hy => ho y (List.mem_cons_of_mem _ hy)) hx.2 hb.2.1 (by omega) hr
        refine ⟨by simp [h1], fun p hp => ?_⟩
        cases p with
        | zero =>
          simp only [List.getD_cons_zero]
          exact ⟨hb.1, by omega, fun _ h0 => (hb.2.2.2 h0).1, fun h => by omega⟩
        | succ p =>
          simp only [List.length_cons] at hp
          obtain ⟨g1, g2, g3, g4⟩ := h2 p (by omega)
          simp only [List.getD_cons_succ, Nat.add_sub_cancel]
          refine ⟨g1, g2, fun h => by omega, fun _ => ?_⟩
          cases p with
          | zero => simpa using g3 rfl hx.1
          | succ p => simpa using g4 (by omega)

theorem both_wake {m : Nat} {l : List Arr} {t : Tab} (h : sequence_both.F m l t = some 0) : wake_Check.F m t = some 0 := by
  unfold sequence_both.F at h
  cases h1 : sequence_Check.F m l with
  | none => rw [h1] at h; cases h
  | some e =>
    rw [h1] at h
    simp only [Option.bind_some] at h
    by_cases he : e = 0
    · subst he
      rw [cond_neg (c := (0 : Int) != 0) (by rfl)] at h
      cases h2 : wake_Check.F m t with
      | none => rw [h2] at h; cases h
      | some e' => rw [h2] at h; exact h
    · rw [cond_pos (c := e != 0) (by simpa using he)] at h
      exact absurd (Option.some.inj h) he

theorem valid0 (k : Nat) (c tm : List Int) (hlen : c.length = tm.length) (h8 : c.length ≤ 8) (hc : ∀ p, p < c.length → cls (c.getD p 0) ∧ 0 ≤ tm.getD p 0 ∧ tm.getD p 0 ≤ 200000) : ∀ n i : Nat, i ≤ c.length → c.length - i < n → wake_Valid.l0 k c tm n i = some (Sum.inl ()) := by
  intro n
  induction n with
  | zero => intro i _ h; omega
  | succ n ih =>
    intro i hi hn
    rw [wake_Valid.l0_succ]
    unfold wake_Valid.l0b
    by_cases hlt : i < c.length
    · obtain ⟨h1, h2, h3⟩ := hc i hlt
      rw [cond_pos (decide_eq_true (by omega)), cond_pos (inIdx (by omega) (by omega)), getD_nat, getD_nat, class_pos h1]
      simp only [Option.bind_some]
      rw [cond_neg (c := (0 : Int) != 0) (by rfl), cond_pos (c := decide (0 ≤ (i : Int)) && decide ((i : Int) < ((tm.length : Nat) : Int))) (inIdx (by omega) (by omega)), cond_pos (c := decide (0 ≤ (i : Int)) && decide ((i : Int) < ((tm.length : Nat) : Int))) (inIdx (by omega) (by omega)), decide_eq_false (p := tm.getD i 0 < 0) (by omega), decide_eq_false (p := tm.getD i 0 > 200000) (by omega), show w64 ((i : Int) + 1) = ((i + 1 : Nat) : Int) from w64_id (by omega) (by omega)]
      exact ih (i + 1) (by omega) (by omega)
    · rw [cond_neg (decide_eq_false (by omega))]

theorem valid1 (k : Nat) (t : Tab) (c tm : List Int) (hlen : c.length = tm.length) (h8 : c.length ≤ 8) (hc : ∀ p, p < c.length → cls (c.getD p 0) ∧ 0 ≤ tm.getD p 0 ∧ tm.getD p 0 ≤ 200000)
    (hs : ∀ p, 1 ≤ p → p < c.length → tm.getD (p - 1) 0 + tab t (c.getD (p - 1) 0) (c.getD p 0) ≤ tm.getD p 0) : ∀ n i : Nat, 1 ≤ i → i ≤ c.length ∨ i = 1 → c.length - i < n → wake_Valid.l1 k t c tm n i = some (true, 0) := by
  intro n
  induction n with
  | zero => intro i _ _ h; omega
  | succ n ih =>
    intro i h1 hi hn
    rw [wake_Valid.l1_succ]
    unfold wake_Valid.l1b
    by_cases hlt : i < c.length
    · obtain ⟨c1, t1, t2⟩ := hc i hlt
      obtain ⟨c2, t3, t4⟩ := hc (i - 1) (by omega)
      have hw : w64 ((i : Int) - 1) = ((i - 1 : Nat) : Int) := by rw [w64_id (by omega) (by omega)]; omega
      rw [cond_pos (decide_eq_true (by omega)), hw, cond_pos (inIdx (by omega) (by omega)), cond_pos (inIdx (by omega) (by omega)), cond_pos (inIdx (by omega) (by omega)), cond_pos (inIdx (by omega) (by omega)), getD_nat, getD_nat, getD_nat, getD_nat,
        cond_pos (inIdx c2.1 (by have := c2.2; omega)), cond_pos (inIdx c1.1 (by have := c1.2; omega)), cond_pos (tab_in c2 c1)]
      have := hs i h1 hlt
      rw [w64_id (n := tm.getD i 0 - tm.getD (i - 1) 0) (by omega) (by omega)]
      change (bif decide (tm.getD i 0 - tm.getD (i - 1) 0 < tab t (c.getD (i - 1) 0) (c.getD i 0)) then _ else _) = _
      rw [cond_neg (decide_eq_false (by omega)), show w64 ((i : Int) + 1) = ((i + 1 : Nat) : Int) from w64_id (by omega) (by omega)]
      exact ih (i + 1) (by omega) (by omega) (by omega)
    · rw [cond_neg (decide_eq_false (by omega))]

theorem valid_eq (k : Nat) (hk : 50 ≤ k) (t : Tab) (ht : wake_Check.F k t = some 0) (c tm : List Int) (hlen : c.length = tm.length) (h8 : c.length ≤ 8) (hc : ∀ p, p < c.length → cls (c.getD p 0) ∧ 0 ≤ tm.getD p 0 ∧ tm.getD p 0 ≤ 200000)
    (hs : ∀ p, 1 ≤ p → p < c.length → tm.getD (p - 1) 0 + tab t (c.getD (p - 1) 0) (c.getD p 0) ≤ tm.getD p 0) : wake_Valid.F k t c tm = some (true, 0) := by
  unfold wake_Valid.F
  rw [ht]
  simp only [Option.bind_some]
  have h0 := valid0 k c tm hlen h8 hc k 0 (by omega) (by omega)
  have h1 := valid1 k t c tm hlen h8 hc hs k 1 (by omega) (.inr rfl) (by omega)
  rw [show ((0 : Nat) : Int) = 0 from rfl] at h0
  rw [show ((1 : Nat) : Int) = 1 from rfl] at h1
  rw [cond_neg (c := (0 : Int) != 0) (by rfl), decide_eq_false (p := ((c.length : Nat) : Int) > 256) (by omega), decide_eq_false (p := ((tm.length : Nat) : Int) > 256) (by omega)]
  simp only [cond_false, Option.bind_some]
  rw [cond_neg (c := ((c.length : Nat) : Int) != ((tm.length : Nat) : Int)) (by simp [hlen]), h0]
  simp only [Option.bind_some]
  exact h1

attribute [local irreducible] wake_Valid.F sequence_Times.F sequence_both.F

theorem classes_loop (k : Nat) (l : List Arr) (o : List Int) (h8 : o.length ≤ 8) (ho : ∀ x ∈ o, 0 ≤ x ∧ x < l.length) : ∀ n i : Nat, i ≤ o.length → o.length - i < n → skywaykeep3_SequenceValid.l0 k l o n ((i : Int), (o.take i).map fun x => (ar l x.toNat).2.1) = some (Sum.inl (o.map fun x => (ar l x.toNat).2.1)) := by
  intro n
  induction n with
  | zero => intro i _ h; omega
  | succ n ih =>
    intro i hi hn
    rw [skywaykeep3_SequenceValid.l0_succ]
    unfold skywaykeep3_SequenceValid.l0b
    dsimp only
    by_cases hlt : i < o.length
    · have hx := ho _ (getD_mem 0 hlt)
      rw [cond_pos (decide_eq_true (by omega)), cond_pos (inIdx (by omega) (by omega)), getD_nat, decide_eq_false (p := o.getD i 0 < 0) (by omega), decide_eq_false (p := o.getD i 0 ≥ ((l.length : Nat) : Int)) (by omega)]
      simp only [cond_false, Option.bind_some]
      rw [cond_pos (inIdx hx.1 hx.2), cond_pos (Nat.ble_eq_true_of_le (by simp; omega)), ar_eq, show w64 ((i : Int) + 1) = ((i + 1 : Nat) : Int) from w64_id (by omega) (by omega)]
      have e : (o.take i).map (fun x => (ar l x.toNat).2.1) ++ [(ar l (o.getD i 0).toNat).2.1] = (o.take (i + 1)).map fun x => (ar l x.toNat).2.1 := by
        rw [List.take_succ_eq_append_getElem hlt, List.map_append, getD_get _ hlt]; rfl
      rw [e]
      exact ih (i + 1) (by omega) (by omega)
    · rw [cond_neg (decide_eq_false (by omega)), List.take_of_length_le (by omega)]

theorem window_loop (k : Nat) (l : List Arr) (o : List Int) (h8 : o.length ≤ 8) (r2 : List Int × Int) (hlen : r2.1.length = o.length) (ho : ∀ x ∈ o, 0 ≤ x ∧ x < l.length) (hw : ∀ p, p < o.length → (ar l (o.getD p 0).toNat).2.2.1 ≤ r2.1.getD p 0 ∧ r2.1.getD p 0 ≤ (ar l (o.getD p 0).toNat).2.2.2) :
    ∀ n i : Nat, i ≤ o.length → o.length - i < n → skywaykeep3_SequenceValid.l1 k l o r2 n i = some true := by
  intro n
  induction n with
  | zero => intro i _ h; omega
  | succ n ih =>
    intro i hi hn
    rw [skywaykeep3_SequenceValid.l1_succ]
    unfold skywaykeep3_SequenceValid.l1b
    by_cases hlt : i < o.length
    · have hx := ho _ (getD_mem 0 hlt)
      obtain ⟨h1, h2⟩ := hw i hlt
      have i1 : (decide (0 ≤ (i : Int)) && decide ((i : Int) < ((r2.1.length : Nat) : Int))) = true := inIdx (by omega) (by omega)
      rw [cond_pos (decide_eq_true (by omega)), cond_pos (inIdx (by omega) (by omega)), getD_nat, getD_nat, cond_pos i1, cond_pos (inIdx hx.1 hx.2), ar_eq, cond_neg (decide_eq_false (by omega)), cond_pos i1, cond_pos (inIdx hx.1 hx.2), decide_eq_false (p := r2.1.getD i 0 > _) (by omega), show w64 ((i : Int) + 1) = ((i + 1 : Nat) : Int) from w64_id (by omega) (by omega)]
      exact ih (i + 1) (by omega) (by omega)
    · rw [cond_neg (decide_eq_false (by omega))]

theorem SequenceValid_plain (m : Nat) (hm : 700 ≤ m) (hf : skywaykeep3_sequenceFact.F (m + 5) = some true) (l : List Arr) (o : List Int) (t : Tab) : skywaykeep3_SequenceValid.F (m + 5) l o t = some true := by
  unfold skywaykeep3_SequenceValid.F
  rw [hf]
  simp only [Option.bind_some]
  rw [cond_neg (c := !true) (by rfl)]
  rcases times_eq m (by omega) l o t with ⟨e, he, h⟩ | ⟨hl, ht, ho, hb, r, h1, h2⟩
  · rw [h]
    simp only [Option.bind_some]
    rw [cond_pos (c := e != 0) (by simpa using he)]
    rfl
  · rw [h2]
    simp only [Option.bind_some]
    rw [cond_neg (c := (0 : Int) != 0) (by rfl)]
    have h8 : o.length ≤ 8 := by rw [ho.1]; exact hl.len
    have hc := classes_loop (m + 5) l o h8 ho.2.1 (m + 5) 0 (by omega) (by omega)
    rw [show ((0 : Nat) : Int) = 0 from rfl, List.take_zero] at hc
    rw [show ((0 : Int), ([] : List Int)) = (0, List.map (fun x : Int => (ar l x.toNat).2.1) []) from rfl, hc]
    simp only [Option.bind_some]
    obtain ⟨g1, g2⟩ := times_facts hl ht o (-1) 0 r ho.2.1 (by omega) (by omega) (by omega) h1
    have hcls : ∀ p, p < o.length → (o.map fun x => (ar l x.toNat).2.1).getD p 0 = (ar l (o.getD p 0).toNat).2.1 := fun p hp => by
      rw [getD_get _ (by simpa using hp), List.getElem_map, getD_get _ hp]
    have hv := valid_eq (m + 5) (by omega) t (both_wake hb) (o.map fun x => (ar l x.toNat).2.1) r (by simp [g1]) (by simpa using h8) (fun p hp => by
      rw [List.length_map] at hp
      rw [hcls p hp]
      have hx := ho.2.1 _ (getD_mem 0 hp)
      have he := hl.each (o.getD p 0).toNat (by omega)
      obtain ⟨k1, k2, _⟩ := g2 p hp
      have := he.from0; have := he.most
      exact ⟨he.wake, by omega, by omega⟩) (fun p hp hp' => by
      rw [List.length_map] at hp'
      rw [hcls p hp', hcls (p - 1) (by omega)]
      exact (g2 p hp').2.2.2 hp)
    rw [hv]
    simp only [Option.bind_some]
    rw [cond_neg (c := (0 : Int) != 0) (by rfl)]
    simp only [Bool.not_true, Option.bind_some, cond_false]
    have := window_loop (m + 5) l o h8 (r, 0) g1 ho.2.1 (fun p hp => ⟨(g2 p hp).1, (g2 p hp).2.1⟩) (m + 5) 0 (by omega) (by omega)
    exact this

/-! ### Later times -/

theorem pick_ok (k : Nat) (a m : Int) (h0 : 0 < m) (h1 : m ≤ 1000000) : ∃ d, skywaykeep3_pick.F k a m = some d ∧ 0 ≤ d ∧ d < m := by
  unfold skywaykeep3_pick.F
  have e1 : IntKind.u64.wrap m = m := by rw [IntKind.wrap_u64]; omega
  have h2 : IntKind.u64.wrap a = a % 18446744073709551616 := by rw [IntKind.wrap_u64]
  have h3 : 0 ≤ IntKind.u64.wrap a := by omega
  have h4 : Int.tmod (IntKind.u64.wrap a) m = IntKind.u64.wrap a % m := Int.tmod_eq_emod_of_nonneg h3
  have h5 := Int.emod_nonneg (IntKind.u64.wrap a) (show m ≠ 0 by omega)
  have h6 := Int.emod_lt_of_pos (IntKind.u64.wrap a) h0
  rw [e1, cond_pos (by simp; omega), h4, w64_id (by omega) (by omega)]
  exact ⟨_, rfl, h5, h6⟩

attribute [local irreducible] skywaykeep3_pick.F

theorem equal_loop (k : Nat) (a : List Int) (hl : a.length ≤ 256) : ∀ n i : Nat, i ≤ a.length → a.length - i < n → slices_Equal_int.l0 k a a n i = some true := by
  intro n
  induction n with
  | zero => intro i _ h; omega
  | succ n ih =>
    intro i hi hn
    rw [slices_Equal_int.l0_succ]
    unfold slices_Equal_int.l0b
    by_cases hlt : i < a.length
    · rw [cond_pos (decide_eq_true (by omega)), cond_pos (inIdx (by omega) (by omega)), cond_pos (inIdx (by omega) (by omega)), cond_neg (by simp), show w64 ((i : Int) + 1) = ((i + 1 : Nat) : Int) from w64_id (by omega) (by omega)]
      exact ih (i + 1) (by omega) (by omega)
    · rw [cond_neg (decide_eq_false (by omega))]

theorem equal_refl (k : Nat) (hk : 300 ≤ k) (a : List Int) (hl : a.length ≤ 256) : slices_Equal_int.F k a a = some true := by
  unfold slices_Equal_int.F
  rw [cond_neg (c := ((a.length : Nat) : Int) != ((a.length : Nat) : Int)) (by simp)]
  exact equal_loop k a hl k 0 (by omega) (by omega)

attribute [local irreducible] slices_Equal_int.F

attribute [local semireducible] sequence_both.F
attribute [local irreducible] wake_Check.F

/-- What lets all times be later. -/
def Room (b : Int) (l : List Arr) : Prop := ∀ x, x < l.length → 0 ≤ (ar l x).2.2.1 ∧ 0 ≤ (ar l x).2.2.2 ∧ (ar l x).2.2.2 + b ≤ 200000

theorem qcheck_late {b : Int} (hb : 0 ≤ b) (k : Nat) (hk : 100 ≤ k) {l l' : List Arr} (h : Later b l l') (hr : Room b l) (hl8 : l.length ≤ 8) : ∀ n i : Nat, i ≤ l.length → l.length - i < n → sequence_Check.l1 k l' n i = sequence_Check.l1 k l n i := by
  intro n
  induction n with
  | zero => intro i _ h; omega
  | succ n ih =>
    intro i hi hn
    rw [sequence_Check.l1_succ, sequence_Check.l1_succ]
    unfold sequence_Check.l1b
    rw [h.1]
    by_cases hlt : i < l.length
    · have iI : (decide (0 ≤ (i : Int)) && decide ((i : Int) < ((l.length : Nat) : Int))) = true := inIdx (by omega) (by omega)
      have hw := hr i hlt
      have iL : decide ((i : Int) < ((l.length : Nat) : Int)) = true := decide_eq_true (by omega)
      rw [cond_pos iL, cond_pos iL, cond_pos iI, cond_pos iI]
      simp only [getD_nat, ar_eq, h.2 i hlt]
      have hl0 : sequence_Check.l0 k l' i (fun x => sequence_Check.l1 k l' n x) k 0 = sequence_Check.l0 k l i (fun x => sequence_Check.l1 k l n x) k 0 := by
        have g1 := qcheck_in k l hl8 i hlt (fun x => sequence_Check.l1 k l n x) k 0 (by omega) (by omega)
        have g2 := qcheck_in k l' (by rw [h.1]; exact hl8) i (by rw [h.1]; exact hlt) (fun x => sequence_Check.l1 k l' n x) k 0 (by omega) (by omega)
        rw [show ((0 : Nat) : Int) = 0 from rfl] at g1 g2
        have same : ∀ j, j < l.length → (ar l' j).1 = (ar l j).1 := fun j hj => by rw [h.2 j hj]
        rcases g1 with ⟨g1, n1⟩ | ⟨g1, n1⟩ <;> rcases g2 with ⟨g2, n2⟩ | ⟨g2, n2⟩
        · rw [g1, g2]
        · exact absurd (fun j hj hj' => by have := n2 j hj hj'; rwa [same j (by omega), same i hlt] at this) n1
        · exact absurd (fun j hj hj' => by have := n1 j hj hj'; rwa [← same j (by omega), ← same i hlt] at this) n2
        · rw [g1, g2]; exact ih (i + 1) (by omega) (by omega)
      cases slot_Name.F k (ar l i).1 with
      | none => rfl
      | some nm =>
        simp only [Option.bind_some]
        cases nm with
        | false => rfl
        | true =>
          simp only [Bool.not_true, cond_false]
          cases wake_Class.F k (ar l i).2.1 with
          | none => rfl
          | some c =>
            simp only [Option.bind_some]
            by_cases hc : c = 0
            · rw [cond_neg (c := c != 0) (by simpa using hc), cond_neg (c := c != 0) (by simpa using hc), decide_eq_false (p := (ar l i).2.2.1 < 0) (by omega), decide_eq_false (p := (ar l i).2.2.1 + b < 0) (by omega)]
              simp only [cond_false, Option.bind_some]
              by_cases c2 : (ar l i).2.2.1 > (ar l i).2.2.2
              · rw [decide_eq_true c2, decide_eq_true (p := (ar l i).2.2.1 + b > (ar l i).2.2.2 + b) (by omega)]; rfl
              · rw [decide_eq_false c2, decide_eq_false (p := (ar l i).2.2.1 + b > (ar l i).2.2.2 + b) (by omega)]
                simp only [cond_false, Option.bind_some]
                rw [decide_eq_false (p := (ar l i).2.2.2 > 200000) (by omega), decide_eq_false (p := (ar l i).2.2.2 + b > 200000) (by omega), decide_eq_true (p := 0 ≤ (i : Int)) (by omega), decide_eq_true (p := (i : Int) ≤ ((l.length : Nat) : Int)) (by omega)]
                simp only [cond_false, cond_true, Bool.and_self]
                exact hl0
            · rw [cond_pos (c := c != 0) (by simpa using hc), cond_pos (c := c != 0) (by simpa using hc)]
    · rw [cond_neg (decide_eq_false (by omega)), cond_neg (decide_eq_false (by omega))]

theorem both_late {b : Int} (hb : 0 ≤ b) (k : Nat) (hk : 100 ≤ k) {l l' : List Arr} (h : Later b l l') (hr : Room b l) (hl8 : l.length ≤ 8) (t : Tab) : sequence_both.F k l' t = sequence_both.F k l t := by
  unfold sequence_both.F
  have : sequence_Check.F k l' = sequence_Check.F k l := by
    unfold sequence_Check.F
    rw [h.1, cond_neg (decide_eq_false (by omega)), cond_neg (decide_eq_false (by omega))]
    exact qcheck_late hb k hk h hr hl8 k 0 (by omega) (by omega)
  rw [this]

attribute [local irreducible] sequence_both.F

theorem clone_arr (k : Nat) (l : List Arr) (hl : l.length ≤ 256) : slices_Clone_api_SequenceArrival.F k l = some l := by
  unfold slices_Clone_api_SequenceArrival.F
  rw [cond_pos (Nat.ble_eq_true_of_le (by omega)), List.nil_append]

def lateA (b : Int) (d : Arr) : Arr := (d.1, d.2.1, d.2.2.1 + b, d.2.2.2 + b)

theorem set_getD {α : Type} {l : List α} {i : Nat} (h : i < l.length) (a d : α) : (l.set i a).getD i d = a := by
  rw [List.getD_eq_getElem?_getD, List.getElem?_set]
  simp [h]

theorem shift_loop (k : Nat) (b : Int) (hb : 0 ≤ b ∧ b < 500) (l : List Arr) (h6 : l.length ≤ 6) : ∀ (n i : Nat) (c : List Arr), i ≤ l.length → l.length - i < n → c.length = l.length → (∀ j, j < i → ar c j = lateA b (ar l j)) → (∀ j, i ≤ j → j < l.length → ar c j = ar l j) →
    (∀ j, j < i → 0 ≤ (ar l j).2.2.1 ∧ 0 ≤ (ar l j).2.2.2 ∧ (ar l j).2.2.2 + b ≤ 200000) →
    skywaykeep3_SequenceShifts.l0 k b l n ((i : Int), c) = some (Sum.inr true) ∨ ∃ l', skywaykeep3_SequenceShifts.l0 k b l n ((i : Int), c) = some (Sum.inl l') ∧ Later b l l' ∧ Room b l := by
  intro n
  induction n with
  | zero => intro i _ _ h; omega
  | succ n ih =>
    intro i c hi hn hlen h1 h2 h3
    rw [skywaykeep3_SequenceShifts.l0_succ]
    unfold skywaykeep3_SequenceShifts.l0b
    dsimp only
    by_cases hlt : i < l.length
    · have iC : (decide (0 ≤ (i : Int)) && decide ((i : Int) < ((c.length : Nat) : Int))) = true := inIdx (by omega) (by omega)
      have hic : i < c.length := by omega
      simp only [List.length_set, Int.toNat_natCast, set_getD hic, List.set_set]
      rw [cond_pos (decide_eq_true (by omega)), iC]
      simp only [cond_true, ar_eq, h2 i (Nat.le_refl _) hlt]
      by_cases c1 : (ar l i).2.2.1 < 0
      · left; rw [decide_eq_true c1]; rfl
      rw [decide_eq_false c1]
      by_cases c2 : (ar l i).2.2.1 > 200000
      · left; rw [decide_eq_true c2]; rfl
      rw [decide_eq_false c2]
      by_cases c3 : (ar l i).2.2.2 < 0
      · left; rw [decide_eq_true c3]; rfl
      rw [decide_eq_false c3, w64_id (n := 200000 - b) (by omega) (by omega)]
      by_cases c4 : (ar l i).2.2.2 > 200000 - b
      · left; rw [decide_eq_true c4]; rfl
      rw [decide_eq_false c4]
      simp only [cond_false, Option.bind_some]
      rw [w64_id (n := (ar l i).2.2.1 + b) (by omega) (by omega), w64_id (n := (ar l i).2.2.2 + b) (by omega) (by omega), show w64 ((i : Int) + 1) = ((i + 1 : Nat) : Int) from w64_id (by omega) (by omega)]
      refine ih (i + 1) _ (by omega) (by omega) (by rw [List.length_set]; exact hlen) (fun j hj => ?_) (fun j hj hj' => ?_) (fun j hj => ?_)
      · by_cases e : j = i
        · subst e; unfold ar; rw [set_getD hic]; rfl
        · rw [← h1 j (by omega)]
          unfold ar
          rw [List.getD_eq_getElem?_getD, List.getElem?_set, if_neg (by omega), ← List.getD_eq_getElem?_getD]
      · rw [← h2 j (by omega) hj']
        unfold ar
        rw [List.getD_eq_getElem?_getD, List.getElem?_set, if_neg (by omega), ← List.getD_eq_getElem?_getD]
      · by_cases e : j = i
        · subst e; omega
        · exact h3 j (by omega)
    · right
      rw [cond_neg (decide_eq_false (by omega))]
      exact ⟨c, rfl, ⟨hlen, fun j hj => h1 j (by omega)⟩, fun j hj => h3 j (by omega)⟩

theorem back_loop (k : Nat) (b : Int) (r12 : (List Int) × (List Int) × Int) (h8 : r12.2.1.length ≤ 8) : ∀ (n i : Nat) (c : List Int), i ≤ c.length → c.length - i < n → c.length = r12.2.1.length →
    skywaykeep3_SequenceShifts.l1 k b r12 n ((i : Int), c) = some (Sum.inl (c.take i ++ (c.drop i).map fun v => w64 (v - b))) := by
  intro n
  induction n with
  | zero => intro i _ _ h; omega
  | succ n ih =>
    intro i c hi hn hlen
    rw [skywaykeep3_SequenceShifts.l1_succ]
    unfold skywaykeep3_SequenceShifts.l1b
    dsimp only
    by_cases hlt : i < c.length
    · have iC : (decide (0 ≤ (i : Int)) && decide ((i : Int) < ((c.length : Nat) : Int))) = true := inIdx (by omega) (by omega)
      rw [cond_pos (decide_eq_true (by omega)), cond_pos iC, cond_pos iC, Int.toNat_natCast, show w64 ((i : Int) + 1) = ((i + 1 : Nat) : Int) from w64_id (by omega) (by omega), ih (i + 1) _ (by rw [List.length_set]; omega) (by rw [List.length_set]; omega) (by rw [List.length_set]; exact hlen), drop_cons hlt 0]
      congr 2
      rw [List.take_succ_eq_append_getElem (by rw [List.length_set]; exact hlt), List.take_set_of_le (Nat.le_refl _), List.getElem_set_self, List.drop_set_of_lt (by omega)]
      simp
    · rw [cond_neg (decide_eq_false (by omega)), List.drop_eq_nil_of_le (by omega), List.take_of_length_le (by omega)]
      simp

theorem best_late {b : Int} {l l' : List Arr} (h : Later b l l') (t : Tab) (N : List Int) (sh : Int) : (bestS l' t N sh).1 = (bestS l t N sh).1 ∧ (bestS l' t N sh).2.1 = (bestS l t N sh).2.1 := by
  unfold bestS
  rw [h.1]
  by_cases h0 : l.length = 0
  · have e1 : l = [] := List.eq_nil_of_length_eq_zero h0
    have e2 : l' = [] := List.eq_nil_of_length_eq_zero (by rw [h.1, h0])
    rw [e1, e2]
    exact ⟨rfl, rfl⟩
  · have := step_late h t (plOf N l.length) sh l.length [] (-1) 0 0 0 (false, [], 0, 0) (by omega) (fun h => by omega) (.inr (by omega))
    rw [lateS_false rfl] at this
    rw [this]
    unfold lateS
    split
    · rename_i hs; exact ⟨hs.symm, rfl⟩
    · exact ⟨rfl, rfl⟩

attribute [local irreducible] sequence_Best.F

theorem SequenceShifts_plain (m : Nat) (hm : 700 ≤ m) (hf : skywaykeep3_sequenceFact.F (m + 5) = some true) (l : List Arr) (t : Tab) (sh by_ : Int) : skywaykeep3_SequenceShifts.F (m + 5) l t sh by_ = some true := by
  unfold skywaykeep3_SequenceShifts.F
  rw [hf]
  simp only [Option.bind_some]
  rw [cond_neg (c := !true) (by rfl)]
  by_cases h6 : l.length ≤ 6
  · rw [cond_neg (decide_eq_false (by omega))]
    obtain ⟨b, hb, hb0, hb1⟩ := pick_ok (m + 5) by_ 500 (by omega) (by omega)
    rw [hb, clone_arr (m + 5) l (by omega)]
    simp only [Option.bind_some]
    have hs := shift_loop (m + 5) b ⟨hb0, hb1⟩ l h6 (m + 5) 0 l (by omega) (by omega) rfl (fun j hj => by omega) (fun j _ _ => rfl) (fun j hj => by omega)
    rw [show ((0 : Nat) : Int) = 0 from rfl] at hs
    rcases hs with hs | ⟨l', hs, hlate, hroom⟩
    · rw [hs]; rfl
    rw [hs]
    simp only [Option.bind_some]
    have hbl := both_late hb0 (m + 5) (by omega) hlate hroom (by omega) t
    have nothing : ∀ e : Int, ((some (([] : List Int), ([] : List Int), e)).bind fun r11 => (some (([] : List Int), ([] : List Int), e)).bind fun r12 => (skywaykeep3_SequenceShifts.l1 (m + 5) b r12 (m + 5) (0, r12.2.1)).bind fun y => match y with | Sum.inl x15 => (bif (r11.2.2 == r12.2.2) then (slices_Equal_int.F (m + 5) r11.1 r12.1).bind fun r17 => some r17 else some false).bind fun b18 => (bif b18 then (slices_Equal_int.F (m + 5) r11.2.1 x15).bind fun r19 => some r19 else some false).bind fun b20 => some b20 | Sum.inr y16 => some y16) = some true := fun e => by
      have h1 := back_loop (m + 5) b ([], [], e) (by simp) (m + 5) 0 [] (by simp) (by simp) rfl
      rw [show ((0 : Nat) : Int) = 0 from rfl] at h1
      simp only [Option.bind_some]
      rw [h1]
      simp only [List.take_nil, List.drop_nil, List.map_nil, List.append_nil, Option.bind_some, beq_self_eq_true, cond_true]
      rw [equal_refl (m + 5) (by omega) [] (by simp)]
      rfl
    rcases best_eq m hm l t sh with ⟨e, he, h1, h2⟩ | ⟨h1, hl, ht, h2⟩
    · rcases best_eq m hm l' t sh with ⟨e', he', g1, g2⟩ | ⟨g1, _⟩
      · rw [hbl, h1] at g1
        cases g1
        rw [h2, g2]
        exact nothing e
      · rw [hbl, h1] at g1
        exact absurd (Option.some.inj g1) he
    · rcases best_eq m hm l' t sh with ⟨e', he', g1, g2⟩ | ⟨g1, hl', ht', g2⟩
      · rw [hbl, h1] at g1
        exact absurd (Option.some.inj g1).symm he'
      · rcases h2 with ⟨hsh, h2⟩ | ⟨hs0, hs8, h2⟩
        · rcases g2 with ⟨_, g2⟩ | ⟨_, _, _⟩
          · rw [h2, g2]; exact nothing 4
          · omega
        · rcases g2 with ⟨hsh, g2⟩ | ⟨_, _, g2⟩
          · omega
          obtain ⟨N, hN⟩ := nat_exists m hl
          rw [h2 N hN, g2 N (hN.late hlate)]
          obtain ⟨e1, e2⟩ := best_late hlate t N sh
          rw [e1, e2]
          by_cases hfd : (bestS l t N sh).1 = true
          · rw [if_pos hfd, if_pos hfd]
            obtain ⟨out, k1, k2, k3, k4, k5, k6⟩ := best_some m hm h1 hl ht hfd
            have hT' : sequence_Times.F (m + 5) l' (bestS l t N sh).2.1 t = some (out.map (· + b), 0) := by
              rw [times_of m (by omega) g1 hl' ht' (by rw [hlate.1]; exact k2), times_late hlate t _ (-1) 0 0 k2.2.1 (by omega) (fun h => by omega), k3]
              rfl
            rw [k6, hT']
            simp only [Option.bind_some]
            have hbk := back_loop (m + 5) b ((bestS l t N sh).2.1, out.map (· + b), 0) (by simp [k4]; omega) (m + 5) 0 (out.map (· + b)) (by simp) (by simp [k4]; omega) rfl
            rw [show ((0 : Nat) : Int) = 0 from rfl] at hbk
            rw [hbk]
            have hfx := times_facts hl ht _ (-1) 0 out k2.2.1 (by omega) (by omega) (by omega) k3
            have hout : (out.map (· + b)).take 0 ++ ((out.map (· + b)).drop 0).map (fun v => w64 (v - b)) = out := by
              rw [List.take_zero, List.nil_append, List.drop_zero, List.map_map]
              conv => rhs; rw [← List.map_id out]
              refine List.map_congr_left fun v hv => ?_
              obtain ⟨p, hp, e⟩ := List.mem_iff_getElem.1 hv
              have hpo : p < (bestS l t N sh).2.1.length := by rw [← hfx.1]; exact hp
              obtain ⟨q1, q2, _⟩ := hfx.2 p hpo
              rw [getD_get _ hp, e] at q1 q2
              have hx := k2.2.1 _ (getD_mem 0 hpo)
              have hE := hl.each ((bestS l t N sh).2.1.getD p 0).toNat (by omega)
              have := hE.from0; have := hE.most
              simp only [Function.comp, id_eq]
              rw [w64_id (by omega) (by omega)]
              omega
            rw [hout]
            simp only [Option.bind_some, beq_self_eq_true, cond_true]
            rw [equal_refl (m + 5) (by omega) _ (by rw [k2.1]; omega), equal_refl (m + 5) (by omega) out (by rw [k4]; omega)]
            rfl
          · rw [if_neg hfd, if_neg hfd]
            exact nothing 8
  · rw [cond_pos (decide_eq_true (by omega))]

/-! ### More shifting -/

theorem nodup_le : ∀ (m : Nat) (a : List Int), (∀ x ∈ a, 0 ≤ x ∧ x < m) → a.Nodup → a.length ≤ m := by
  intro m
  induction m with
  | zero =>
    intro a h _
    cases a with
    | nil => simp
    | cons x r => have := h x (by simp); omega
  | succ m ih =>
    intro a h hn
    by_cases hm : (m : Int) ∈ a
    · have h1 := ih (a.erase m) (fun x hx => by
        have h2 := (List.Nodup.mem_erase_iff hn).1 hx
        have := h x h2.2
        have := h2.1
        omega) (hn.erase _)
      rw [List.length_erase_of_mem hm] at h1
      omega
    · have := ih a (fun x hx => by
        have h1 := h x hx
        have : x ≠ m := fun e => hm (e ▸ hx)
        omega) hn
      omega

theorem IsPerm.mem {a : List Int} {n : Nat} (h : IsPerm a n) {y : Int} (hy : 0 ≤ y ∧ y < n) : y ∈ a := by
  by_cases hm : y ∈ a
  · exact hm
  · have := nodup_le n (y :: a) (fun x hx => by
      rcases List.mem_cons.1 hx with rfl | hx
      · exact hy
      · exact h.2.1 x hx) (List.nodup_cons.2 ⟨hm, h.2.2⟩)
    rw [List.length_cons, h.1] at this
    omega

theorem shiftof_loop (k : Nat) (hk : 300 ≤ k) {l : List Arr} {t : Tab} (hl8 : l.length ≤ 8) {N x : List Int} (hN : IsPerm N l.length) (hx : IsPerm x l.length) {sh T : Int} (_hsh : 0 ≤ sh) (hc : compS l t (plOf N l.length) sh x [] (-1) 0 = some T) : ∀ (n i : Nat) (most : Int), i ≤ l.length → l.length - i < n → most ≤ sh →
    ∃ r, sequence_Shift.l0 k x N n (most, (i : Int)) = some (r, 0) ∧ r ≤ sh := by
  intro n
  induction n with
  | zero => intro i _ _ h; omega
  | succ n ih =>
    intro i most hi hn hmost
    rw [sequence_Shift.l0_succ]
    unfold sequence_Shift.l0b
    dsimp only
    rw [hN.1]
    by_cases hlt : i < l.length
    · rw [cond_pos (decide_eq_true (by omega)), cond_pos (inIdx (by omega) (by omega)), getD_nat]
      have hy := hN.2.1 _ (getD_mem 0 (show i < N.length by rw [hN.1]; exact hlt))
      obtain ⟨r, h1, h2⟩ := index_eq k hk x (by rw [hx.1]; omega) (N.getD i 0)
      rw [h1]
      simp only [Option.bind_some]
      rcases h2 with ⟨_, h2⟩ | ⟨p, rfl, h3, h4, _⟩
      · exact absurd (hx.mem hy) h2
      · have hs := comp_shift x [] (-1) 0 T hc p h3
        rw [h4, (plOf_ok hN hl8).2 i hlt] at hs
        simp only [List.length_nil, Nat.zero_add] at hs
        have hp8 : p < 8 := by rw [hx.1] at h3; omega
        rw [w64_id (n := (p : Int) - i) (by omega) (by omega), w64_id (n := (i : Int) - p) (by omega) (by omega), show w64 ((i : Int) + 1) = ((i + 1 : Nat) : Int) from w64_id (by omega) (by omega)]
        refine ih (i + 1) _ (by omega) (by omega) ?_
        rcases mx_cases ((p : Int) - i) ((i : Int) - p) with ⟨a1, a2⟩ | ⟨a1, a2⟩ <;> rw [a2] at hs <;> rcases mx_cases most ((p : Int) - i) with ⟨b1, b2⟩ | ⟨b1, b2⟩ <;> rw [b2]
        · rcases mx_cases ((p : Int) - i) ((i : Int) - p) with ⟨_, c2⟩ | ⟨_, c2⟩ <;> rw [c2] <;> omega
        · rcases mx_cases most ((i : Int) - p) with ⟨_, c2⟩ | ⟨_, c2⟩ <;> rw [c2] <;> omega
        · rcases mx_cases ((p : Int) - i) ((i : Int) - p) with ⟨_, c2⟩ | ⟨_, c2⟩ <;> rw [c2] <;> omega
        · rcases mx_cases most ((i : Int) - p) with ⟨_, c2⟩ | ⟨_, c2⟩ <;> rw [c2] <;> omega
    · rw [cond_neg (decide_eq_false (by omega))]
      exact ⟨most, rfl, hmost⟩

theorem both_check {m : Nat} {l : List Arr} {t : Tab} (h : sequence_both.F m l t = some 0) : sequence_Check.F m l = some 0 := by
  unfold sequence_both.F at h
  cases h1 : sequence_Check.F m l with
  | none => rw [h1] at h; cases h
  | some e =>
    rw [h1] at h
    simp only [Option.bind_some] at h
    by_cases he : e = 0
    · rw [he]
    · rw [cond_pos (c := e != 0) (by simpa using he)] at h
      exact absurd (Option.some.inj h) he

theorem last_getD {a : List Int} (_h : a ≠ []) : a.getD (a.length - 1) 0 = a.getLastD 0 := by
  rw [List.getLastD_eq_getLast?, List.getLast?_eq_getElem?, List.getD_eq_getElem?_getD]

theorem SequenceGains_plain (m : Nat) (hm : 700 ≤ m) (hf : skywaykeep3_sequenceFact.F (m + 5) = some true) (l : List Arr) (t : Tab) (a b : Int) : skywaykeep3_SequenceGains.F (m + 5) l t a b = some true := by
  unfold skywaykeep3_SequenceGains.F
  rw [hf]
  simp only [Option.bind_some]
  rw [cond_neg (c := !true) (by rfl)]
  by_cases h6 : l.length ≤ 6
  rotate_left
  · rw [cond_pos (decide_eq_true (by omega))]
  rw [cond_neg (decide_eq_false (by omega))]
  obtain ⟨p, hp, hp0, hp1⟩ := pick_ok (m + 5) a 9 (by omega) (by omega)
  obtain ⟨r, hr, hr0, hr1⟩ := pick_ok (m + 5) b 9 (by omega) (by omega)
  rw [hp, hr]
  simp only [Option.bind_some]
  have hmn : 0 ≤ mn p r ∧ mn p r ≤ 8 ∧ mn p r ≤ mx p r ∧ mx p r ≤ 8 := by
    unfold mn mx
    split <;> split <;> omega
  generalize mn p r = u at hmn
  generalize mx p r = v at hmn
  have none_ : ∀ (e : Int) (y : List Int × List Int × Int), e ≠ 0 ∨ l.length = 0 → ((bif ((([] : List Int), ([] : List Int), e).2.2 != 0) then some true else some (((l.length : Nat) : Int) == 0)) : Option Bool) = some true := fun e y h => by
    rcases h with h | h
    · rw [cond_pos (c := e != 0) (by simpa using h)]
    · simp [h]
  rcases best_eq m hm l t u with ⟨e, he, h1, h2⟩ | ⟨h1, hl, ht, h2⟩
  · -- both refused
    have hv : ∃ y, sequence_Best.F (m + 5) l t v = some y := by
      rcases best_eq m hm l t v with ⟨_, _, _, g2⟩ | ⟨g1, _⟩
      · exact ⟨_, g2⟩
      · rw [h1] at g1; exact absurd (Option.some.inj g1) he
    obtain ⟨y, hy⟩ := hv
    rw [h2, hy]
    simp only [Option.bind_some]
    rw [none_ e y (.inl he)]
    rfl
  rcases h2 with ⟨_, _⟩ | ⟨_, _, h2⟩
  · omega
  have hv : ∀ N, NatOk l N → sequence_Best.F (m + 5) l t v = if (bestS l t N v).1 = true then (sequence_Times.F (m + 5) l (bestS l t N v).2.1 t).bind fun r => some ((bestS l t N v).2.1, r.1, 0) else some ([], [], 8) := by
    rcases best_eq m hm l t v with ⟨e', he', g1, _⟩ | ⟨_, _, _, g2⟩
    · rw [h1] at g1; exact absurd (Option.some.inj g1).symm he'
    · rcases g2 with ⟨_, _⟩ | ⟨_, _, g2⟩
      · omega
      · exact g2
  obtain ⟨N, hN⟩ := nat_exists m hl
  have hNp := hN.perm
  have hpl := (plOf_ok hNp hl.len).2
  have fu := best_found hl ht N u
  have fv := best_found hl ht N v
  rw [h2 N hN, hv N hN]
  by_cases hfu : (bestS l t N u).1 = true
  rotate_left
  · rw [if_neg hfu]
    have hy : ∃ y, (if (bestS l t N v).1 = true then (sequence_Times.F (m + 5) l (bestS l t N v).2.1 t).bind fun r => some ((bestS l t N v).2.1, r.1, (0 : Int)) else some ([], [], 8)) = some y := by
      by_cases hfv : (bestS l t N v).1 = true
      · rw [if_pos hfv]
        obtain ⟨out, _, _, _, _, _, k6⟩ := best_some m hm h1 hl ht hfv
        rw [k6]
        exact ⟨_, rfl⟩
      · rw [if_neg hfv]; exact ⟨_, rfl⟩
    obtain ⟨y, hy⟩ := hy
    rw [hy]
    simp only [Option.bind_some]
    rfl
  obtain ⟨su, u1, u2, u3, u4, u5, u6⟩ := best_some m hm h1 hl ht hfu
  have hvv := fv.all _ _ trivial (comp_mono hmn.2.2.1 _ _ _ _ _ u1)
  obtain ⟨sv, v1, v2, v3, v4, v5, v6⟩ := best_some m hm h1 hl ht hvv.1
  rw [if_pos hfu, if_pos hvv.1, u6, v6]
  simp only [Option.bind_some]
  rw [cond_neg (c := (0 : Int) != 0) (by rfl)]
  by_cases h0 : l.length = 0
  · simp only [Option.bind_some]
    rw [cond_pos (c := ((l.length : Nat) : Int) == 0) (by simp [h0])]
    rw [u2.1, u4, h0]
    rfl
  simp only [Option.bind_some]
  rw [cond_neg (c := ((l.length : Nat) : Int) == 0) (by simpa using h0)]
  have hS : ∃ q, sequence_Shift.F (m + 5) l (bestS l t N u).2.1 = some (q, 0) ∧ q ≤ u := by
    unfold sequence_Shift.F
    obtain ⟨pb, hp3, hp4⟩ := perm_eq (m + 5) (by omega) (bestS l t N u).2.1 l.length hl.len
    rw [both_check h1, hp3, hp4.2 u2, natural_eq m (by omega) hl hN]
    simp only [Option.bind_some]
    rw [cond_neg (c := (0 : Int) != 0) (by rfl), cond_neg (c := !true) (by rfl)]
    exact shiftof_loop (m + 5) (by omega) hl.len hNp u2 hmn.1 u1 (m + 5) 0 0 (by omega) (by omega) hmn.1
  obtain ⟨q, hq1, hq2⟩ := hS
  have hsu : su.getD (l.length - 1) 0 = (bestS l t N u).2.2.1 := by rw [← u5, ← last_getD (fun e => by rw [e] at u4; simp at u4; omega), u4]
  have hsv : sv.getD (l.length - 1) 0 = (bestS l t N v).2.2.1 := by rw [← v5, ← last_getD (fun e => by rw [e] at v4; simp at v4; omega), v4]
  have hw : w64 (((l.length : Nat) : Int) - 1) = ((l.length - 1 : Nat) : Int) := by rw [w64_id (by omega) (by omega)]; omega
  rw [hq1]
  simp only [Option.bind_some]
  rw [cond_neg (c := (0 : Int) != 0) (by rfl), cond_neg (c := (0 : Int) != 0) (by rfl), cond_neg (decide_eq_false (by omega)), u4, v4, cond_neg (c := ((l.length : Nat) : Int) != ((l.length : Nat) : Int)) (by simp), cond_neg (c := ((l.length : Nat) : Int) != ((l.length : Nat) : Int)) (by simp), hw,
    cond_pos (inIdx (by omega) (by omega)), cond_pos (inIdx (by omega) (by omega)), getD_nat, getD_nat, hsu, hsv, decide_eq_false (p := (bestS l t N v).2.2.1 > (bestS l t N u).2.2.1) (by have := hvv.2; omega)]
  simp only [Option.bind_some, cond_false]
  have hNat : sequence_Natural.F (m + 5) l = some (N, 0) := by
    unfold sequence_Natural.F
    rw [both_check h1, natural_eq m (by omega) hl hN]
    rfl
  rw [hNat]
  simp only [Option.bind_some]
  rw [times_of m (by omega) h1 hl ht hNp]
  cases hT : timesL l t N (-1) 0 with
  | none => rfl
  | some out =>
    simp only [Option.bind_some]
    have hlen := (times_facts hl ht N (-1) 0 out hNp.2.1 (by omega) (by omega) (by omega) hT).1
    rw [hNp.1] at hlen
    have hcn := comp_of_times (sh := u) hmn.1 N [] (-1) 0 out (by simpa using hNp) (fun p hp => by rw [hpl p (by rw [hNp.1] at hp; exact hp)]; simp) hT
    have hle := (fu.all N _ trivial hcn).2
    have hso : out.getD (l.length - 1) 0 = out.getLastD 0 := by rw [← last_getD (fun e => by rw [e] at hlen; simp at hlen; omega), hlen]
    rw [cond_pos (c := (0 : Int) == 0) (by rfl), cond_neg (c := (0 : Int) != 0) (by rfl), hlen, cond_pos (c := ((l.length : Nat) : Int) == ((l.length : Nat) : Int)) (by simp), hw, cond_pos (inIdx (by omega) (by omega)), cond_pos (inIdx (by omega) (by omega)), getD_nat, hso, decide_eq_true (by omega)]

/-! ### The laws -/

def fl2 : List Arr := [((⟨#[65]⟩ : ByteArray), (2, (10, 900))), ((⟨#[66]⟩ : ByteArray), (0, (0, 900)))]

theorem fl2_names (m : Nat) : slot_Name.F (m + 40) (⟨#[65]⟩ : ByteArray) = some true ∧ slot_Name.F (m + 40) (⟨#[66]⟩ : ByteArray) = some true := ⟨by kernel_rfl, by kernel_rfl⟩

theorem fl2_ok (m : Nat) : ArrOk (m + 40) fl2 := by
  refine ⟨by decide, fun x hx => ?_, fun x j hx hj => ?_⟩
  · have hx : x = 0 ∨ x = 1 := by have : fl2.length = 2 := rfl; omega
    rcases hx with rfl | rfl
    · exact ⟨(fl2_names m).1, ⟨by decide, by decide⟩, by decide, by decide, by decide⟩
    · exact ⟨(fl2_names m).2, ⟨by decide, by decide⟩, by decide, by decide, by decide⟩
  · have hx : x = 1 ∧ j = 0 := by have : fl2.length = 2 := rfl; omega
    obtain ⟨rfl, rfl⟩ := hx
    exact fun e => absurd (congrArg (fun b : ByteArray => b.data.toList) e) (by decide)

theorem fl2_nat : NatOk fl2 [1, 0] := by
  refine ⟨List.Perm.swap 0 1 [], List.pairwise_pair.2 ?_⟩
  exact iscmp_lt.2 (.inl (by decide))

theorem qfact (m : Nat) : skywaykeep3_sequenceFact.F (m + 105) = some true := by
  have h : sequence_natural.F (m + 100 + 5) [((⟨#[65]⟩ : ByteArray), (2, (10, 900))), ((⟨#[66]⟩ : ByteArray), (0, (0, 900)))] = some [1, 0] := natural_eq (m + 100) (by omega) (fl2_ok 0) fl2_nat
  unfold skywaykeep3_sequenceFact.F sequence_Natural.F sequence_Shift.F sequence_Best.F
  rw [show m + 105 = m + 100 + 5 from rfl, h]
  show _ = some true
  kernel_rfl

attribute [local irreducible] skywaykeep3_SequenceValid.F skywaykeep3_SequenceShifts.F skywaykeep3_SequenceGains.F skywaykeep3_sequenceFact.F
theorem qvalid_cal (k : Nat) (x : DatPs (skywaykeep3_SequenceValid.C 0).ats) : (skywaykeep3_SequenceValid.C k).F x = skywaykeep3_SequenceValid.F k x.1 x.2.1 x.2.2 := rfl
theorem SequenceValid_law (x : DatPs (skywaykeep3_SequenceValid.C 0).ats) (_ : FitPs (skywaykeep3_SequenceValid.C 0).ats x) : ∃ k, (skywaykeep3_SequenceValid.C k).F x = some true :=
  ⟨700 + 5, (qvalid_cal _ x).trans (SequenceValid_plain 700 (by omega) (qfact 600) x.1 x.2.1 x.2.2)⟩
theorem qshifts_cal (k : Nat) (x : DatPs (skywaykeep3_SequenceShifts.C 0).ats) : (skywaykeep3_SequenceShifts.C k).F x = skywaykeep3_SequenceShifts.F k x.1 x.2.1 x.2.2.1 x.2.2.2 := rfl
theorem SequenceShifts_law (x : DatPs (skywaykeep3_SequenceShifts.C 0).ats) (_ : FitPs (skywaykeep3_SequenceShifts.C 0).ats x) : ∃ k, (skywaykeep3_SequenceShifts.C k).F x = some true :=
  ⟨700 + 5, (qshifts_cal _ x).trans (SequenceShifts_plain 700 (by omega) (qfact 600) x.1 x.2.1 x.2.2.1 x.2.2.2)⟩
theorem qgains_cal (k : Nat) (x : DatPs (skywaykeep3_SequenceGains.C 0).ats) : (skywaykeep3_SequenceGains.C k).F x = skywaykeep3_SequenceGains.F k x.1 x.2.1 x.2.2.1 x.2.2.2 := rfl
theorem SequenceGains_law (x : DatPs (skywaykeep3_SequenceGains.C 0).ats) (_ : FitPs (skywaykeep3_SequenceGains.C 0).ats x) : ∃ k, (skywaykeep3_SequenceGains.C k).F x = some true :=
  ⟨700 + 5, (qgains_cal _ x).trans (SequenceGains_plain 700 (by omega) (qfact 600) x.1 x.2.1 x.2.2.1 x.2.2.2)⟩

end Go.Proofs.Ytlaejfnmhfkdpaa.RT
