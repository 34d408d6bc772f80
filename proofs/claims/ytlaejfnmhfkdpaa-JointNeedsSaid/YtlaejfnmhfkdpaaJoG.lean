/- What is proved here: the refuter's refutations are accepted; the plain law JointEither. They ask nothing. -/
import Derived.Test.YtlaejfnmhfkdpaaJoT
import Derived.Test.YtlaejfnmhfkdpaaPlA
import Derived.Test.YtlaejfnmhfkdpaaJoF
namespace Go.Proofs.Ytlaejfnmhfkdpaa.RT
open Go Go.R

/-! ### No fuel matters -/

theorem dist_fuel (k k' : Nat) (a b : Int × Int) : plane_Distance.F k a b = plane_Distance.F k' a b := rfl
theorem sep_fuel (k k' : Nat) (a b : Nd) (s : Int × Int) : probe_separated.F k a b s = probe_separated.F k' a b s := rfl

attribute [local irreducible] tube_Check.F tube_at.F plane_Check.F tube_Point.F skywaykeep3_small.F plane_Distance.F probe_separated.F probe_pair.F probe_Pair.F joint_Check.F joint_both.F joint_table.F joint_clashes_with.F joint_search_step.F joint_Best.F skywaykeep3_few.F slices_Clone_int.F joint_refuter_step.F joint_Refute.F

theorem inSeg_uniq {l : List Nd} (h : TubeOk l) {q q' : Nat} {t : Int} (a : InSeg l q t) (b : InSeg l q' t) : q = q' := by
  apply Classical.byContradiction
  intro hne
  have aux : ∀ {q q' : Nat}, InSeg l q t → InSeg l q' t → q < q' → False := fun {q q'} a b hlt => by
    have h1 := a.2.2 (by have := b.1; omega)
    have h2 := h.le (show q + 1 ≤ q' by omega) b.1
    have h3 := b.2.1
    omega
  rcases Nat.lt_or_gt_of_ne hne with h' | h'
  · exact aux a b h'
  · exact aux b a h'

theorem pt_fuel {k k' : Nat} (hk : 100 ≤ k) (hk' : 100 ≤ k') {l : List Nd} (h : TubeOk l) {t : Int} (h0 : tm l 0 ≤ t) (h1 : t ≤ tl l) : pt k l t = pt k' l t := by
  have hh : hs l t = true := by unfold hs; simp [h0, h1]
  obtain ⟨_, _, c⟩ := at_cases k hk h t
  obtain ⟨_, _, c'⟩ := at_cases k' hk' h t
  obtain ⟨q, s1, e1⟩ := c hh
  obtain ⟨q', s2, e2⟩ := c' hh
  rw [e1, e2, inSeg_uniq h s1 s2]

theorem fr_fuel {k k' : Nat} (hk : 100 ≤ k) (hk' : 100 ≤ k') {s : Int × Int} {x y : List Nd} (hx : TubeOk x) (hy : TubeOk y) (h : Fr k s x y) : Fr k' s x y := fun t h0 h1 h2 h3 => by
  have := h t h0 h1 h2 h3
  unfold sp at this ⊢
  rw [← pt_fuel hk hk' hx h0 h2, ← pt_fuel hk hk' hy h1 h3, sep_fuel k' k]
  exact this

/-! ### Equality of choices -/

theorem equal_loop (k : Nat) (c : List Int) (hc : c.length ≤ 6) : ∀ n i : Nat, i ≤ c.length → c.length - i < n → slices_Equal_int.l0 k c c n i = some true := by
  intro n
  induction n with
  | zero => intro i _ h; omega
  | succ n ih =>
    intro i hi hn
    rw [slices_Equal_int.l0_succ]
    unfold slices_Equal_int.l0b
    by_cases hlt : i < c.length
    · rw [decide_eq_true (p := (i : Int) < ((c.length : Nat) : Int)) (by omega), decide_eq_true (p := 0 ≤ (i : Int)) (by omega), show w64 ((i : Int) + 1) = ((i + 1 : Nat) : Int) from w64_id (by omega) (by omega)]
      simp only [Bool.and_self, cond_true]
      rw [cond_neg (c := (c.getD ((i : Int)).toNat 0 != c.getD ((i : Int)).toNat 0)) (by simp)]
      exact ih (i + 1) (by omega) (by omega)
    · rw [decide_eq_false (p := (i : Int) < ((c.length : Nat) : Int)) (by omega)]
      rfl

theorem equal_same (k : Nat) (hk : 10 ≤ k) (c : List Int) (hc : c.length ≤ 6) : slices_Equal_int.F k c c = some true := by
  unfold slices_Equal_int.F
  rw [cond_neg (c := (((c.length : Nat) : Int) != ((c.length : Nat) : Int))) (by simp)]
  exact equal_loop k c hc k 0 (by omega) (by omega)

theorem equal_not (k : Nat) {c d : List Int} (h : c.length ≠ d.length) : slices_Equal_int.F k c d = some false := by
  unfold slices_Equal_int.F
  rw [cond_pos (c := (((c.length : Nat) : Int) != ((d.length : Nat) : Int))) (by simpa using fun e => h (by omega))]

attribute [local irreducible] slices_Equal_int.F

/-! ### The reader -/

abbrev RdR := ((List (List Opn)) × (Int × Int) × List Rft) × Bool

theorem rdloop (k : Nat) (_hk : 100 ≤ k) (s : Int × Int) {l : List (List Opn)} (hl : LOk l) {ch : List Int} (_hch : InR l ch) (hlt : ch.length < l.length) {P : Nat → List Rft} {rest : List Rft} {V : List (List Opn) → Int × Int → List Rft → List Int → Option RdR}
    (hV : ∀ (i : Nat) (all : List Rft), i < (ops l ch.length).length → V l s (P i ++ all) (ch ++ [(i : Int)]) = some ((l, (s, all)), true)) : ∀ (n i : Nat), i ≤ (ops l ch.length).length → (ops l ch.length).length - i < n →
      joint_reader_step.l0 k l ch V n ((i : Int), l, s.1, s.2, (List.range' i ((ops l ch.length).length - i)).flatMap P ++ rest) = some ((l, (s, rest)), true) := by
  intro n
  induction n with
  | zero => intro i _ hn; omega
  | succ n ih =>
    intro i hi hn
    rw [joint_reader_step.l0_succ]
    unfold joint_reader_step.l0b
    have h6 := hl.len
    have hB : l.getD (((ch.length : Nat) : Int)).toNat [] = ops l ch.length := by simp [ops]
    have h8 : (ops l ch.length).length ≤ 8 := (hl.one _ (ops_mem hlt)).2
    dsimp only
    rw [hB]
    by_cases hil : i < (ops l ch.length).length
    · obtain ⟨z, hz⟩ : ∃ z, (ops l ch.length).length - i = z + 1 := ⟨(ops l ch.length).length - i - 1, by omega⟩
      have hz2 : (ops l ch.length).length - (i + 1) = z := by omega
      rw [decide_eq_true (p := (i : Int) < (((ops l ch.length).length : Nat) : Int)) (by omega), jclone k ch (by omega), show w64 ((i : Int) + 1) = ((i + 1 : Nat) : Int) from w64_id (by omega) (by omega)]
      simp only [cond_true, Option.bind_some]
      rw [Nat.ble_eq_true_of_le (show (ch.length + 1) * 8 ≤ 140737488355328 by omega), cond_true, hz, List.range'_succ, List.flatMap_cons, List.append_assoc]
      change ((V l s (P i ++ ((List.range' (i + 1) z).flatMap P ++ rest)) (ch ++ [(i : Int)])).bind _) = _
      rw [hV i _ hil]
      simp only [Option.bind_some, Bool.not_true, cond_false]
      have := ih (i + 1) (by omega) (by omega)
      rw [hz2] at this
      exact this
    · rw [decide_eq_false (p := (i : Int) < (((ops l ch.length).length : Nat) : Int)) (by omega)]
      have : (ops l ch.length).length - i = 0 := by omega
      rw [this]
      rfl

theorem reader_ok (K : Nat) (hK : 1000 ≤ K) (s : Int × Int) (hs0 : ∀ k, probe_CheckSep.F k s = some 0) {l : List (List Opn)} (hl : LOk l) (hsm : LSm l) : ∀ (g f : Nat) (ch : List Int) (R rest : List Rft), Rfs K s l g ch R → 1000 + g < f →
    joint_reader_step.F f l s (R ++ rest) ch = some ((l, (s, rest)), true)
  | g + 1, f + 1, ch, R, rest, h, hf => by
    change joint_reader_step.G f (joint_reader_step.F f) l s (R ++ rest) ch = _
    unfold joint_reader_step.G
    have h6 := hl.len
    have hlen := h.len hl
    have hmem := h.mem
    rcases h with ⟨hr, b, rfl, hb, hc⟩ | ⟨hr, hlt, P, hR, hP⟩
    · have hrl := hr.len
      rw [List.singleton_append]
      have hw : w64 (((ch.length : Nat) : Int) - 1) = ((ch.length - 1 : Nat) : Int) := by rw [w64_id (by omega) (by omega)]; omega
      obtain ⟨a, ha⟩ : ∃ a, ch.length - 1 = a := ⟨_, rfl⟩
      rw [ha] at hb hc hw
      obtain ⟨ea, la⟩ := hr.co (show a < ch.length by omega)
      obtain ⟨eb, lb⟩ := hr.co (show b < ch.length by omega)
      have hg0 : ((ch, (b : Int)) :: rest).getD 0 (([] : List Int), (0 : Int)) = (ch, (b : Int)) := rfl
      have hlr : (((((ch, (b : Int)) :: rest : List Rft).length : Nat) : Int) > 0) := by rw [List.length_cons]; omega
      have hlr1 : (1 : Int) ≤ ((((ch, (b : Int)) :: rest : List Rft).length : Nat) : Int) := by rw [List.length_cons]; omega
      have hBb : l.getD ((b : Int)).toNat [] = ops l b := by simp [ops]
      have hBa : l.getD ((a : Int)).toNat [] = ops l a := by simp [ops]
      have ob := hl.at (b := b) (by omega) lb
      have oa := hl.at (b := a) (by omega) la
      have mb := ops_mem (l := l) (show b < l.length by omega)
      obtain ⟨r, hp, hfr⟩ := probe_ok f (by omega) s (hs0 f) ob.tube oa.tube (hsm _ mb _ (opt_mem lb))
      have hrne : r ≠ [] := fun e => by
        have := fr_fuel (k' := K) (by omega) (by omega) ob.tube oa.tube (hfr.1 e)
        have := (cla_eq K hK s (hs0 K) ob.tube oa.tube (hsm _ mb _ (opt_mem lb))).2.2 this
        have hc' : cla K s (opt l b (co ch b)).2 (opt l a (co ch a)).2 = true := hc
        rw [this] at hc'
        cases hc'
      have hrl0 : decide (((r.length : Nat) : Int) > 0) = true := decide_eq_true (by have := List.length_pos_iff.2 hrne; omega)
      simp only [hg0]
      rw [decide_eq_true hlr, decide_eq_true (p := ((ch.length : Nat) : Int) > 0) (by omega)]
      simp only [cond_true, Option.bind_some]
      rw [equal_same f (by omega) ch (by omega), decide_eq_true hlr1, hw]
      simp only [Bool.and_true, Option.bind_some]
      rw [decide_eq_false (p := (b : Int) < 0) (by omega), decide_eq_false (p := (b : Int) ≥ (a : Int)) (by omega), decide_eq_true (p := 0 ≤ (b : Int)) (by omega), decide_eq_true (p := (b : Int) < ((l.length : Nat) : Int)) (by omega), decide_eq_true (p := (b : Int) < ((ch.length : Nat) : Int)) (by omega),
        decide_eq_true (p := 0 ≤ (a : Int)) (by omega), decide_eq_true (p := (a : Int) < ((l.length : Nat) : Int)) (by omega), decide_eq_true (p := (a : Int) < ((ch.length : Nat) : Int)) (by omega), hBb, hBa, getD_nat ch 0 b, getD_nat ch 0 a, ea, eb,
        decide_eq_true (p := 0 ≤ ((co ch b : Nat) : Int)) (by omega), decide_eq_true (p := ((co ch b : Nat) : Int) < (((ops l b).length : Nat) : Int)) (by omega), decide_eq_true (p := 0 ≤ ((co ch a : Nat) : Int)) (by omega), decide_eq_true (p := ((co ch a : Nat) : Int) < (((ops l a).length : Nat) : Int)) (by omega), getD_nat, getD_nat]
      simp only [cond_false, Option.bind_some, Bool.and_self, cond_true]
      change (((probe_Pair.F f (opt l b (co ch b)).2 (opt l a (co ch a)).2 s).bind _).bind _) = _
      rw [hp]
      simp only [Option.bind_some, beq_self_eq_true, cond_true]
      rw [hrl0]
      rfl
    · have hb3 : ((bif decide (((((R ++ rest).length : Nat) : Int)) > 0) then some (decide (((ch.length : Nat) : Int) > 0)) else some false).bind fun b1 => (bif b1 then bif (decide (0 ≤ 0) && decide (0 < ((((R ++ rest).length : Nat) : Int)))) then (slices_Equal_int.F f (((R ++ rest).getD 0 ([], 0)).1) ch).bind fun r2 => some r2 else none else some false)) = some false := by
        obtain ⟨x, R', hx⟩ : ∃ x R', R = x :: R' := by
          cases R with
          | nil => simp at hlen
          | cons x R' => exact ⟨x, R', rfl⟩
        have hxl : ch.length < x.1.length := by
          have hxm : x ∈ R := by rw [hx]; exact List.mem_cons_self ..
          rw [hR] at hxm
          obtain ⟨i, hi, hxi⟩ := List.mem_flatMap.1 hxm
          have := ((hP i (List.mem_range.1 hi)).mem x hxi).1
          simp at this
          omega
        have hg0 : (R ++ rest).getD 0 (([] : List Int), (0 : Int)) = x := by rw [hx]; rfl
        have hlr : (((((R ++ rest).length : Nat) : Int)) > 0) := by rw [hx]; simp; omega
        rw [decide_eq_true hlr, hg0, equal_not f (by omega)]
        cases decide (((ch.length : Nat) : Int) > 0) <;> rfl
      rw [← Option.bind_assoc, hb3]
      simp only [Option.bind_some, cond_false]
      rw [cond_neg (c := (((ch.length : Nat) : Int) == ((l.length : Nat) : Int))) (by simpa using fun e => (by omega : False)), decide_eq_true (p := 0 ≤ ((ch.length : Nat) : Int)) (by omega), decide_eq_true (p := ((ch.length : Nat) : Int) < ((l.length : Nat) : Int)) (by omega)]
      simp only [Bool.and_self, cond_true]
      have h8 := (hl.one _ (ops_mem hlt)).2
      have := rdloop f (by omega) s hl hr hlt (P := P) (rest := rest) (V := joint_reader_step.F f) (fun i all hi => reader_ok K hK s hs0 hl hsm g f (ch ++ [(i : Int)]) (P i) all (hP i hi) (by omega)) f 0 (by omega) (by omega)
      rw [Nat.sub_zero, ← List.range_eq_range', ← hR] at this
      exact this

attribute [local irreducible] joint_reader_step.F

theorem sep_any {k : Nat} {s : Int × Int} (h : probe_CheckSep.F k s = some 0) (k' : Nat) : probe_CheckSep.F k' s = some 0 := h

theorem refuted_eq (k : Nat) (hk : 2000 ≤ k) (s : Int × Int) {l : List (List Opn)} (hsm : LSm l) (hb : joint_both.F k l s = some 0) (hl : LOk l) (hs : probe_CheckSep.F k s = some 0) {R : List Rft} (hR : Rfs k s l (l.length + 1) [] R) (h5 : R.length ≤ 5000) : joint_Refuted.F k l s R = some 0 := by
  unfold joint_Refuted.F
  rw [hb]
  simp only [Option.bind_some]
  have h6 := hl.len
  rw [cond_neg (c := (0 : Int) != 0) (by rfl), decide_eq_false (p := ((R.length : Nat) : Int) > 5000) (by omega), cond_false]
  have := reader_ok k (by omega) s (sep_any hs) hl hsm (l.length + 1) k [] R [] hR (by omega)
  rw [List.append_nil] at this
  rw [this]
  rfl

attribute [local irreducible] joint_Refuted.F

theorem whole_nil {k : Nat} {s : Int × Int} : Whole k s [] [] := ⟨⟨by simp, by simp, by simp⟩, rfl, fun a ha => by simp at ha⟩

theorem JointEither_plain (k : Nat) (hk : 2000 ≤ k) (hk2 : k ≤ 4611686018427387904) (hf : skywaykeep3_jointFact.F k = some true) (l : List (List Opn)) (s : Int × Int) (hl : l.length < k) (ho : ∀ o ∈ l, o.length < k) : skywaykeep3_JointEither.F k l s = some true := by
  unfold skywaykeep3_JointEither.F
  rw [hf]
  simp only [Option.bind_some, Bool.not_true, cond_false]
  obtain ⟨r, hr, hsh, _⟩ := few_eq k (by omega) hk2 l hl ho
  rw [hr]
  simp only [Option.bind_some]
  cases r with
  | false => rfl
  | true =>
    have hsh := hsh rfl
    simp only [Bool.not_true, cond_false]
    obtain ⟨b, c, e, hb, hbi⟩ := best_eq k (by omega) s hsh.lsm
    obtain ⟨R, e', hR, hri⟩ := refuteF_eq k (by omega) s hsh.lsm
    rw [hb, hR]
    simp only [Option.bind_some]
    cases hbi with
    | bad hbo hne =>
      cases hri with
      | bad hbo' hne' =>
        obtain rfl : e = e' := Option.some.inj (hbo.symm.trans hbo')
        rw [cond_neg (c := e == 0) (by simpa using hne)]
        by_cases h8 : e = 8
        · subst h8
          rfl
        · rw [cond_neg (c := e == 8) (by simpa using h8), beq_self_eq_true]
          rfl
      | free hbo' _ => exact absurd (Option.some.inj (hbo.symm.trans hbo')) hne
      | all hbo' => exact absurd (Option.some.inj (hbo.symm.trans hbo')) hne
    | none hbo hlk hs hn =>
      subst hn
      cases hri with
      | bad hbo' hne' => exact absurd (Option.some.inj (hbo'.symm.trans hbo)) hne'
      | free hbo' _ => rfl
      | all _ _ _ hno => exact absurd whole_nil (hno [])
    | clash hbo hlk hs h0 hno =>
      cases hri with
      | bad hbo' hne' => exact absurd (Option.some.inj (hbo'.symm.trans hbo)) hne'
      | free hbo' hw => exact absurd hw (hno _)
      | all _ _ _ _ hrf h5 =>
        have := refuted_eq k hk s hsh.lsm hbo hlk hs hrf h5
        change ((((bif (0 : Int) == 0 then (joint_Refuted.F k l s R).bind fun r7 => some (r7 == 0) else some false).bind fun b8 => (bif b8 then some true else some ((0 : Int) == 8)).bind fun b9 => some b9)).bind fun b10 => some b10) = some true
        rw [this]
        rfl
    | free hbo hlk hs h0 hw hmin =>
      cases hri with
      | bad hbo' hne' => exact absurd (Option.some.inj (hbo'.symm.trans hbo)) hne'
      | free hbo' _ =>
        have hall := hw.all
        simp [hall]
      | all _ _ _ hno => exact absurd hw (hno b)

end Go.Proofs.Ytlaejfnmhfkdpaa.RT
