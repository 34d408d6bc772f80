/- What is proved here: what the check and the count of loads come to, and the laws LoadSums and LoadAdds. They ask nothing. -/
import Derived.Test.YtckcomagdjebpaaLdT
import Derived.Test.YtckcomagdjebpaaSecA
namespace Go.Proofs.Ytckcomagdjebpaa.RT
open Go Go.R

attribute [local irreducible] tube_Check.F tube_at.F plane_Check.F tube_Point.F tube_At.F tube_All_1.F sector_Check.F sector_Place.F skywaykeep3_small.F sector_Path.F sector_Path.r0b

/-! ### Numbers in a row -/

def gi (l : List Int) (j : Nat) : Int := l.getD j 0
theorem gi_eq (l : List Int) (j : Nat) : l.getD j 0 = gi l j := rfl
theorem gi_set {x : List Int} {j : Nat} (hj : j < x.length) (v : Int) (i : Nat) : gi (x.set j v) i = if i = j then v else gi x i := by
  unfold gi
  rw [List.getD, List.getElem?_set, List.getD]
  by_cases e : j = i
  · subst e; rw [if_pos rfl, if_pos hj, if_pos rfl]; rfl
  · rw [if_neg e, if_neg (fun h => e h.symm)]
theorem gi_rep (n : Nat) (j : Nat) : gi (List.replicate n (0 : Int)) j = 0 := by
  unfold gi
  rw [List.getD, List.getElem?_replicate]
  split <;> rfl
theorem gi_take (l : List Int) {n j : Nat} (h : j < n) : gi (l.take n) j = gi l j := by
  unfold gi
  rw [List.getD, List.getElem?_take, if_pos h, List.getD]

/-! ### The check -/

theorem lchk_loop (k : Nat) (hk : 100 ≤ k) (a1 : List (List Nd)) (hl : a1.length ≤ 24) : ∀ n i : Nat, i ≤ a1.length → a1.length - i < n →
    ∃ e, load_check.l0 k a1 n i = some e ∧ (e = 0 ↔ ∀ t ∈ a1.drop i, TubeOk t) := by
  intro n
  induction n with
  | zero => intro i _ h; omega
  | succ n ih =>
    intro i hi hn
    rw [load_check.l0_succ]
    unfold load_check.l0b
    by_cases hlt : i < a1.length
    · have hd := drop_cons hlt ([] : List Nd)
      rw [tub_eq] at hd
      rw [decide_eq_true (p := (i : Int) < ((a1.length : Nat) : Int)) (by omega), decide_eq_true (p := 0 ≤ (i : Int)) (by omega)]
      have hg : a1.getD ((i : Int)).toNat [] = tub a1 i := by rw [Int.toNat_natCast]; rfl
      rw [hg]
      simp only [Bool.and_self, cond_true]
      rw [hd]
      simp only [List.mem_cons, forall_eq_or_imp]
      by_cases ht : TubeOk (tub a1 i)
      · rw [tcheck_pos hk ht]
        simp only [Option.bind_some]
        rw [cond_neg (c := (0 : Int) != 0) (by rfl), show w64 ((i : Int) + 1) = ((i + 1 : Nat) : Int) from w64_id (by omega) (by omega)]
        obtain ⟨e, he, hq⟩ := ih (i + 1) (by omega) (by omega)
        exact ⟨e, he, hq.trans ⟨fun h => ⟨ht, h⟩, fun h => h.2⟩⟩
      · obtain ⟨e, he, hq⟩ := tcheck_neg hk ht
        rw [hq]
        simp only [Option.bind_some]
        rw [cond_pos (c := e != 0) (by simpa using he)]
        exact ⟨e, rfl, ⟨fun h => absurd h he, fun h => absurd h.1 ht⟩⟩
    · rw [decide_eq_false (p := (i : Int) < ((a1.length : Nat) : Int)) (by omega), List.drop_eq_nil_of_le (by omega)]
      exact ⟨0, rfl, by simp⟩

/-- Sectors and tubes that pass. -/
structure LdOk (l : List Se) (a1 : List (List Nd)) : Prop where
  sec : SecOk l
  few : a1.length ≤ 24
  tubes : ∀ t ∈ a1, TubeOk t

theorem lchk_eq (k : Nat) (hk : 2000 ≤ k) (l : List Se) (a1 : List (List Nd)) : ∃ e, load_check.F k l a1 = some e ∧ (e = 0 → LdOk l a1) := by
  unfold load_check.F
  obtain ⟨e, he, hs⟩ := sec_eq k hk l
  rw [he]
  simp only [Option.bind_some]
  by_cases z : e = 0
  · rw [cond_neg (c := e != 0) (by simpa using z)]
    by_cases hl : a1.length ≤ 24
    · rw [cond_neg (decide_eq_false (by omega))]
      obtain ⟨r, hr, hq⟩ := lchk_loop k (by omega) a1 hl k 0 (by omega) (by omega)
      exact ⟨r, hr, fun h => ⟨hs z, hl, by simpa using hq.1 h⟩⟩
    · rw [cond_pos (decide_eq_true (by omega))]
      exact ⟨2, rfl, fun h => by cases h⟩
  · rw [cond_pos (c := e != 0) (by simpa using z)]
    exact ⟨e, rfl, fun h => absurd h z⟩

attribute [local irreducible] load_check.F

/-! ### The count -/

/-- Where a flight is at a time: a sector's index, or the number of the sectors where it is in none. -/
noncomputable def pos (k : Nat) (l : List Se) (t : Int) (x : List Nd) : Option Nat :=
  if hs x t = true then some (if plc k l (pt k x t).1.2.1 (pt k x t).1.2.2 < 0 then l.length else (plc k l (pt k x t).1.2.1 (pt k x t).1.2.2).toNat) else none

theorem pos_le (k : Nat) (hk : 2000 ≤ k) {l : List Se} (h : SecOk l) {t : Int} {x : List Nd} {j : Nat} (hj : pos k l t x = some j) : j ≤ l.length := by
  unfold pos at hj
  have hp := (plc_eq k hk h (pt k x t).1.2.1 (pt k x t).1.2.2).2
  split at hj
  · simp only [Option.some.injEq] at hj
    split at hj <;> omega
  · cases hj

noncomputable def cn (k : Nat) (l : List Se) (t : Int) (a1 : List (List Nd)) (j : Nat) : Nat := a1.countP fun x => pos k l t x == some j

theorem cn_cons (k : Nat) (l : List Se) (t : Int) (x : List Nd) (a1 : List (List Nd)) (j : Nat) : cn k l t (x :: a1) j = cn k l t a1 j + if pos k l t x = some j then 1 else 0 := by
  unfold cn
  rw [List.countP_cons]
  simp only [beq_iff_eq]

theorem cn_le (k : Nat) (l : List Se) (t : Int) (a1 : List (List Nd)) (j : Nat) : cn k l t a1 j ≤ a1.length := List.countP_le_length

theorem count_loop (k : Nat) (hk : 2000 ≤ k) {l : List Se} {a1 : List (List Nd)} (h : LdOk l a1) (t : Int) : ∀ (n i : Nat) (out : List Int), i ≤ a1.length → a1.length - i < n → out.length = l.length + 1 → (∀ j, 0 ≤ gi out j ∧ gi out j ≤ i) →
    ∃ r, load_count.l0 k l a1 t n ((i : Int), out) = some r ∧ r.length = l.length + 1 ∧ ∀ j, gi r j = gi out j + cn k l t (a1.drop i) j := by
  intro n
  have hf := h.few
  induction n with
  | zero => intro i _ _ h; omega
  | succ n ih =>
    intro i out hi hn ho hb
    rw [load_count.l0_succ]
    unfold load_count.l0b
    dsimp only
    by_cases hlt : i < a1.length
    · have hd := drop_cons hlt ([] : List Nd)
      rw [tub_eq] at hd
      rw [decide_eq_true (p := (i : Int) < ((a1.length : Nat) : Int)) (by omega), decide_eq_true (p := 0 ≤ (i : Int)) (by omega)]
      have hg : a1.getD ((i : Int)).toNat [] = tub a1 i := by rw [Int.toNat_natCast]; rfl
      have hT : TubeOk (tub a1 i) := h.tubes _ (by unfold tub; simp [List.getD, hlt])
      have hp := hT.pos
      rw [hg]
      simp only [Bool.and_self, cond_true]
      rw [hd]
      rw [cond_pos (c := decide ((0 : Nat) ≤ 0) && decide ((0 : Int) < (((tub a1 i).length : Nat) : Int))) (by simp; omega), last_ix hp hT.len]
      rw [cond_pos (c := decide (0 ≤ (((tub a1 i).length - 1 : Nat) : Int)) && decide ((((tub a1 i).length - 1 : Nat) : Int) < (((tub a1 i).length : Nat) : Int))) (by simp; omega)]
      have hX : (bif decide (t < (((tub a1 i).getD 0 ((0, ((0, 0), 0)), (0, 0))).1).1) then some true else some (decide (t > (((tub a1 i).getD ((((tub a1 i).length - 1 : Nat) : Int)).toNat ((0, ((0, 0), 0)), (0, 0))).1).1))) = some (!hs (tub a1 i) t) := by
        rw [Int.toNat_natCast]
        change (bif decide (t < tm (tub a1 i) 0) then some true else some (decide (t > tl (tub a1 i)))) = _
        unfold hs
        by_cases g : t < tm (tub a1 i) 0
        · rw [decide_eq_true g, decide_eq_false (p := tm (tub a1 i) 0 ≤ t) (by omega)]; rfl
        · rw [decide_eq_false g, decide_eq_true (p := tm (tub a1 i) 0 ≤ t) (by omega)]
          by_cases g' : t > tl (tub a1 i)
          · rw [decide_eq_true g', decide_eq_false (p := t ≤ tl (tub a1 i)) (by omega)]; rfl
          · rw [decide_eq_false g', decide_eq_true (p := t ≤ tl (tub a1 i)) (by omega)]; rfl
      rw [hX]
      simp only [Option.bind_some]
      rw [show w64 ((i : Int) + 1) = ((i + 1 : Nat) : Int) from w64_id (by omega) (by omega)]
      cases hc : hs (tub a1 i) t with
      | false =>
        rw [Bool.not_false, cond_true]
        obtain ⟨r, hr, hr1, hr2⟩ := ih (i + 1) out (by omega) (by omega) ho (fun j => by have := hb j; omega)
        refine ⟨r, hr, hr1, fun j => ?_⟩
        rw [hr2, cn_cons, if_neg (by unfold pos; rw [hc]; simp)]
        omega
      | true =>
        rw [Bool.not_true, cond_false, point_eq k (by omega) hT t]
        simp only [Option.bind_some]
        obtain ⟨he, hp1, hp2⟩ := plc_eq k hk h.sec (pt k (tub a1 i) t).1.2.1 (pt k (tub a1 i) t).1.2.2
        rw [he]
        simp only [Option.bind_some]
        have key : ∀ m : Nat, m < out.length → pos k l t (tub a1 i) = some m → ∃ r, load_count.l0 k l a1 t n (((i + 1 : Nat) : Int), out.set m (w64 (gi out m + 1))) = some r ∧ r.length = l.length + 1 ∧ ∀ j, gi r j = gi out j + cn k l t (tub a1 i :: a1.drop (i + 1)) j := by
          intro m hm hpos
          have hbm := hb m
          rw [w64_id (n := gi out m + 1) (by omega) (by omega)]
          obtain ⟨r, hr, hr1, hr2⟩ := ih (i + 1) (out.set m (gi out m + 1)) (by omega) (by omega) (by rw [List.length_set]; exact ho) (fun j => by rw [gi_set hm]; have := hb j; split <;> omega)
          refine ⟨r, hr, hr1, fun j => ?_⟩
          rw [hr2, cn_cons, gi_set hm, hpos]
          by_cases hj : j = m
          · subst hj; rw [if_pos rfl, if_pos rfl]; omega
          · rw [if_neg hj, if_neg (by simp; omega)]; omega
        have hpos : pos k l t (tub a1 i) = some (if plc k l (pt k (tub a1 i) t).1.2.1 (pt k (tub a1 i) t).1.2.2 < 0 then l.length else (plc k l (pt k (tub a1 i) t).1.2.1 (pt k (tub a1 i) t).1.2.2).toNat) := by unfold pos; rw [if_pos hc]
        generalize plc k l (pt k (tub a1 i) t).1.2.1 (pt k (tub a1 i) t).1.2.2 = v at hp1 hp2 hpos ⊢
        by_cases hv : v < 0
        · rw [decide_eq_true hv, cond_true, inIdx (n := out.length) (by omega) (by omega)]
          simp only [cond_true]
          rw [Int.toNat_natCast]
          exact key l.length (by omega) (by rw [hpos, if_pos hv])
        · rw [decide_eq_false hv, cond_false, inIdx (n := out.length) (by omega) (by omega)]
          simp only [cond_true]
          exact key v.toNat (by omega) (by rw [hpos, if_neg hv])
    · rw [decide_eq_false (p := (i : Int) < ((a1.length : Nat) : Int)) (by omega), List.drop_eq_nil_of_le (by omega)]
      exact ⟨out, rfl, ho, fun j => by simp [cn]⟩

theorem count_eq (k : Nat) (hk : 2000 ≤ k) {l : List Se} {a1 : List (List Nd)} (h : LdOk l a1) (t : Int) : ∃ r, load_count.F k l a1 t = some r ∧ r.length = l.length + 1 ∧ ∀ j, gi r j = cn k l t a1 j := by
  unfold load_count.F
  have hl := h.sec.len
  rw [w64_id (n := ((l.length : Nat) : Int) + 1) (by omega) (by omega), show (((l.length : Nat) : Int) + 1) = ((l.length + 1 : Nat) : Int) by omega]
  rw [cond_pos (c := _ && _ && _) (by simp; omega), Int.toNat_natCast]
  have hf := h.few
  obtain ⟨r, hr, h1, h2⟩ := count_loop k hk h t k 0 (List.replicate (l.length + 1) 0) (by omega) (by omega) (by simp) (fun j => by rw [gi_rep]; omega)
  exact ⟨r, hr, h1, fun j => by rw [h2, gi_rep, List.drop_zero]; omega⟩

attribute [local irreducible] load_count.F

theorem Count_cases (k : Nat) (hk : 2000 ≤ k) (l : List Se) (a1 : List (List Nd)) (t : Int) : (∃ e, e ≠ 0 ∧ load_Count.F k l a1 t = some ([], (0, e))) ∨ (LdOk l a1 ∧ ∃ r m, load_Count.F k l a1 t = some (r, (m, 0)) ∧ r.length = l.length ∧ (∀ j, j < l.length → gi r j = cn k l t a1 j) ∧ m = cn k l t a1 l.length) := by
  unfold load_Count.F
  obtain ⟨e, he, hs⟩ := lchk_eq k hk l a1
  rw [he]
  simp only [Option.bind_some]
  by_cases z : e = 0
  · rw [cond_neg (c := e != 0) (by simpa using z)]
    have h := hs z
    have hl := h.sec.len
    rw [show (bif decide (t < 0) then some true else some (decide (t > 200000))) = some (decide (t < 0) || decide (t > 200000)) by cases decide (t < 0) <;> rfl]
    simp only [Option.bind_some]
    cases decide (t < 0) || decide (t > 200000) with
    | true => exact .inl ⟨12, by decide, rfl⟩
    | false =>
      obtain ⟨r, hr, h1, h2⟩ := count_eq k hk h t
      rw [cond_false, hr]
      simp only [Option.bind_some]
      rw [cond_pos (c := decide (0 ≤ ((l.length : Nat) : Int)) && decide (((l.length : Nat) : Int) ≤ ((r.length : Nat) : Int))) (by simp; omega), inIdx (n := r.length) (by omega) (by omega), cond_true, Int.toNat_natCast]
      exact .inr ⟨h, _, _, rfl, by rw [List.length_take]; omega, fun j hj => by rw [gi_take r hj, h2], h2 _⟩
  · rw [cond_pos (c := e != 0) (by simpa using z)]
    exact .inl ⟨e, z, rfl⟩

attribute [local irreducible] load_Count.F

/-! ### The law LoadSums -/

/-- The sum of the elements from an index on. -/
def sm (f : Nat → Int) : Nat → Int
  | 0 => 0
  | n + 1 => sm f n + f n

theorem sm_add (f g : Nat → Int) : ∀ n, sm (fun j => f j + g j) n = sm f n + sm g n
  | 0 => rfl
  | n + 1 => by simp only [sm, sm_add f g n]; omega
theorem sm_zero : ∀ n, sm (fun _ => 0) n = 0
  | 0 => rfl
  | n + 1 => by simp only [sm, sm_zero n]; rfl
theorem sm_one (m : Nat) : ∀ n, sm (fun j => if m = j then 1 else 0) n = if m < n then 1 else 0
  | 0 => rfl
  | n + 1 => by
    simp only [sm, sm_one m n]
    by_cases h : m < n
    · rw [if_pos h, if_neg (by omega), if_pos (by omega)]; rfl
    · by_cases h' : m = n
      · rw [if_neg h, if_pos h', if_pos (by omega)]; rfl
      · rw [if_neg h, if_neg h', if_neg (by omega)]; rfl
theorem sm_congr {f g : Nat → Int} : ∀ {n}, (∀ j, j < n → f j = g j) → sm f n = sm g n
  | 0, _ => rfl
  | n + 1, h => by simp only [sm]; rw [sm_congr fun j hj => h j (by omega), h n (by omega)]

theorem cn_sum (k : Nat) (hk : 2000 ≤ k) {l : List Se} (h : SecOk l) (t : Int) : ∀ a1 : List (List Nd), sm (fun j => (cn k l t a1 j : Int)) (l.length + 1) = (a1.countP fun x => hs x t : Nat)
  | [] => by simp only [cn, List.countP_nil]; exact sm_zero _
  | x :: a1 => by
    have e : sm (fun j => (cn k l t (x :: a1) j : Int)) (l.length + 1) = sm (fun j => (cn k l t a1 j : Int)) (l.length + 1) + sm (fun j => if pos k l t x = some j then 1 else 0) (l.length + 1) := by
      rw [← sm_add]
      refine sm_congr fun j _ => ?_
      rw [cn_cons]
      split <;> omega
    rw [e, cn_sum k hk h t a1, List.countP_cons]
    cases hc : hs x t with
    | false =>
      rw [show (fun j => if pos k l t x = some j then (1 : Int) else 0) = fun _ => 0 by funext j; rw [if_neg (by unfold pos; rw [hc]; simp)], sm_zero]
      simp
    | true =>
      obtain ⟨m, hm⟩ : ∃ m, pos k l t x = some m := by unfold pos; rw [if_pos hc]; exact ⟨_, rfl⟩
      have := pos_le k hk h hm
      rw [show (fun j => if pos k l t x = some j then (1 : Int) else 0) = fun j => if m = j then 1 else 0 by funext j; rw [hm]; simp, sm_one, if_pos (by omega)]
      simp

theorem sums_l0 (k : Nat) (r : List Int) (m : Int) (e : Int) (hr : r.length ≤ 12) (hb : ∀ j, j < r.length → 0 ≤ gi r j ∧ gi r j ≤ 24) : ∀ (n i : Nat) (s : Int), i ≤ r.length → r.length - i < n → 0 ≤ s → s ≤ 24 * i + 24 →
    ∃ s', skywaykeep3_LoadSums.l0 k (r, (m, e)) n (s, (i : Int)) = some (.inl s') ∧ s' + sm (gi r) i = s + sm (gi r) r.length := by
  intro n
  induction n with
  | zero => intro i _ _ h; omega
  | succ n ih =>
    intro i s hi hn h0 h1
    rw [skywaykeep3_LoadSums.l0_succ]
    unfold skywaykeep3_LoadSums.l0b
    dsimp only
    by_cases hlt : i < r.length
    · rw [decide_eq_true (p := (i : Int) < ((r.length : Nat) : Int)) (by omega), decide_eq_true (p := 0 ≤ (i : Int)) (by omega)]
      simp only [Bool.and_self, cond_true]
      rw [Int.toNat_natCast, gi_eq, decide_eq_false (p := gi r i < 0) (by have := hb i hlt; omega), cond_false]
      have := hb i hlt
      rw [w64_id (n := s + gi r i) (by omega) (by omega), show w64 ((i : Int) + 1) = ((i + 1 : Nat) : Int) from w64_id (by omega) (by omega)]
      obtain ⟨s', hs, he⟩ := ih (i + 1) (s + gi r i) (by omega) (by omega) (by omega) (by omega)
      exact ⟨s', hs, by simp only [sm] at he; omega⟩
    · rw [decide_eq_false (p := (i : Int) < ((r.length : Nat) : Int)) (by omega)]
      exact ⟨s, rfl, by rw [show i = r.length by omega]⟩

theorem sums_l1 (k : Nat) (hk : 100 ≤ k) (a1 : List (List Nd)) (hf : a1.length ≤ 24) (hT : ∀ t ∈ a1, TubeOk t) (t : Int) : ∀ (n i : Nat) (s : Int), i ≤ a1.length → a1.length - i < n → s = ((a1.drop i).countP fun x => hs x t : Nat) →
    skywaykeep3_LoadSums.l1 k a1 t n (s, (i : Int)) = some true := by
  intro n
  induction n with
  | zero => intro i _ _ h; omega
  | succ n ih =>
    intro i s hi hn h0
    have hcl : (a1.drop i).countP (fun x => hs x t) ≤ (a1.drop i).length := List.countP_le_length
    rw [List.length_drop] at hcl
    rw [skywaykeep3_LoadSums.l1_succ]
    unfold skywaykeep3_LoadSums.l1b
    dsimp only
    by_cases hlt : i < a1.length
    · have hd := drop_cons hlt ([] : List Nd)
      rw [tub_eq] at hd
      rw [decide_eq_true (p := (i : Int) < ((a1.length : Nat) : Int)) (by omega), decide_eq_true (p := 0 ≤ (i : Int)) (by omega)]
      have hg : a1.getD ((i : Int)).toNat [] = tub a1 i := by rw [Int.toNat_natCast]; rfl
      rw [hg]
      simp only [Bool.and_self, cond_true]
      have hTi : TubeOk (tub a1 i) := hT _ (by unfold tub; simp [List.getD, hlt])
      rw [At_eq k hk hTi t]
      simp only [Option.bind_some]
      rw [show w64 ((i : Int) + 1) = ((i + 1 : Nat) : Int) from w64_id (by omega) (by omega)]
      rw [hd, List.countP_cons] at h0
      rw [hd, List.countP_cons] at hcl
      cases hc : hs (tub a1 i) t with
      | true =>
        rw [hc] at h0
        simp only [if_true] at h0 ⊢
        rw [cond_pos (c := (0 : Int) == 0) (by rfl), w64_id (n := s - 1) (by omega) (by omega)]
        exact ih (i + 1) _ (by omega) (by omega) (by omega)
      | false =>
        rw [hc] at h0
        simp only [Bool.false_eq_true, if_false] at h0 ⊢
        rw [cond_neg (c := (12 : Int) == 0) (by rfl)]
        exact ih (i + 1) _ (by omega) (by omega) (by omega)
    · rw [decide_eq_false (p := (i : Int) < ((a1.length : Nat) : Int)) (by omega)]
      rw [List.drop_eq_nil_of_le (by omega), List.countP_nil] at h0
      subst h0
      rfl

theorem LoadSums_plain (k : Nat) (hk : 2000 ≤ k) (hf : skywaykeep3_loadFact.F k = some true) (l : List Se) (a1 : List (List Nd)) (t : Int) : skywaykeep3_LoadSums.F k l a1 t = some true := by
  unfold skywaykeep3_LoadSums.F
  rw [hf]
  simp only [Option.bind_some, Bool.not_true, cond_false]
  rcases Count_cases k hk l a1 t with ⟨e, he, h⟩ | ⟨h, r, m, hr, hl, h1, h2⟩
  · rw [h]
    simp only [Option.bind_some]
    rw [cond_pos (c := e != 0) (by simpa using he)]
    rfl
  · rw [hr]
    simp only [Option.bind_some]
    rw [cond_neg (c := (0 : Int) != 0) (by rfl)]
    have hll := h.sec.len
    have hfew := h.few
    have hbd : ∀ j, j < r.length → 0 ≤ gi r j ∧ gi r j ≤ 24 := fun j hj => by
      have := cn_le k l t a1 j
      rw [h1 j (by omega)]; omega
    have hm := cn_le k l t a1 l.length
    obtain ⟨s', hs', he⟩ := sums_l0 k r m 0 (by omega) hbd k 0 m (by omega) (by omega) (by omega) (by omega)
    rw [show ((0 : Nat) : Int) = 0 from rfl] at hs'
    rw [hs']
    simp only [Option.bind_some]
    have hsum := cn_sum k hk h.sec t a1
    simp only [sm] at hsum he
    rw [sm_congr (f := fun j => (cn k l t a1 j : Int)) (g := gi r) (n := l.length) fun j hj => (h1 j hj).symm, ← h2, ← hl] at hsum
    exact sums_l1 k (by omega) a1 hfew h.tubes t k 0 s' (by omega) (by omega) (by rw [List.drop_zero]; omega)

theorem loadfact (m : Nat) : skywaykeep3_loadFact.F (m + 1000) = some true := by kernel_rfl

attribute [local irreducible] skywaykeep3_LoadSums.F
theorem lsum_cal (k : Nat) (x : DatPs (skywaykeep3_LoadSums.C 0).ats) : (skywaykeep3_LoadSums.C k).F x = skywaykeep3_LoadSums.F k x.1 x.2.1 x.2.2 := rfl
theorem LoadSums_law (x : DatPs (skywaykeep3_LoadSums.C 0).ats) (_ : FitPs (skywaykeep3_LoadSums.C 0).ats x) : ∃ k, (skywaykeep3_LoadSums.C k).F x = some true :=
  ⟨300000 + 1000, (lsum_cal _ x).trans (LoadSums_plain (300000 + 1000) (by omega) (loadfact 300000) x.1 x.2.1 x.2.2)⟩

end Go.Proofs.Ytckcomagdjebpaa.RT
