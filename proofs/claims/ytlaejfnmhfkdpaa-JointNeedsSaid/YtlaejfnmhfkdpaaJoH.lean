/- What is proved here: what the reader accepts, whatever it is given. They ask nothing. -/
import Derived.Test.YtlaejfnmhfkdpaaJoT
import Derived.Test.YtlaejfnmhfkdpaaPlA
import Derived.Test.YtlaejfnmhfkdpaaJoG
namespace Go.Proofs.Ytlaejfnmhfkdpaa.RT
open Go Go.R

attribute [local irreducible] tube_Check.F tube_at.F plane_Check.F tube_Point.F skywaykeep3_small.F plane_Distance.F probe_separated.F probe_pair.F probe_Pair.F joint_Check.F joint_both.F joint_table.F joint_clashes_with.F joint_search_step.F joint_Best.F skywaykeep3_few.F slices_Clone_int.F joint_refuter_step.F joint_Refute.F

theorem equal_any_loop (k : Nat) {c d : List Int} (hcd : c.length = d.length) (hd : d.length ≤ 6) : ∀ n i : Nat, i ≤ c.length → c.length - i < n → ∃ b, slices_Equal_int.l0 k c d n i = some b ∧ (b = true → c.drop i = d.drop i) := by
  intro n
  induction n with
  | zero => intro i _ h; omega
  | succ n ih =>
    intro i hi hn
    rw [slices_Equal_int.l0_succ]
    unfold slices_Equal_int.l0b
    by_cases hlt : i < c.length
    · rw [decide_eq_true (p := (i : Int) < ((c.length : Nat) : Int)) (by omega), decide_eq_true (p := 0 ≤ (i : Int)) (by omega), decide_eq_true (p := (i : Int) < ((d.length : Nat) : Int)) (by omega), show w64 ((i : Int) + 1) = ((i + 1 : Nat) : Int) from w64_id (by omega) (by omega), getD_nat, getD_nat]
      simp only [Bool.and_self, cond_true]
      by_cases e : c.getD i 0 = d.getD i 0
      · rw [cond_neg (c := (c.getD i 0 != d.getD i 0)) (by simpa using e)]
        obtain ⟨b, hb, hq⟩ := ih (i + 1) (by omega) (by omega)
        refine ⟨b, hb, fun h => ?_⟩
        rw [drop_cons hlt 0, drop_cons (show i < d.length by omega) 0, e, hq h]
      · rw [cond_pos (c := (c.getD i 0 != d.getD i 0)) (by simpa using e)]
        exact ⟨false, rfl, fun h => by cases h⟩
    · rw [decide_eq_false (p := (i : Int) < ((c.length : Nat) : Int)) (by omega)]
      refine ⟨true, rfl, fun _ => ?_⟩
      rw [List.drop_eq_nil_of_le (by omega), List.drop_eq_nil_of_le (by omega)]

theorem equal_any (k : Nat) (hk : 10 ≤ k) (c : List Int) {d : List Int} (hd : d.length ≤ 6) : ∃ b, slices_Equal_int.F k c d = some b ∧ (b = true → c = d) := by
  by_cases h : c.length = d.length
  · unfold slices_Equal_int.F
    rw [cond_neg (c := (((c.length : Nat) : Int) != ((d.length : Nat) : Int))) (by simp [h])]
    obtain ⟨b, hb, hq⟩ := equal_any_loop k h hd k 0 (by omega) (by omega)
    exact ⟨b, hb, fun e => by simpa using hq e⟩
  · exact ⟨false, equal_not k h, fun e => by cases e⟩

attribute [local irreducible] slices_Equal_int.F

/-- What is accepted for all choices that begin with ch. -/
structure AccP (l : List (List Opn)) (ch : List Int) (C : List Rft) : Prop where
  wi : ∀ x ∈ C, 0 ≤ x.2 ∧ x.2 < ((x.1.length : Nat) : Int) - 1
  pre : ∀ x ∈ C, ch <+: x.1
  one : ∀ d, InR l d → d.length = l.length → ch <+: d → (C.filter fun x => x.1.isPrefixOf d).length = 1

theorem flat_filter {P : Nat → List Rft} {p : Rft → Bool} : ∀ {L : List Nat}, ((L.flatMap P).filter p).length = (L.map fun i => ((P i).filter p).length).sum
  | [] => rfl
  | i :: L => by rw [List.flatMap_cons, List.filter_append, List.length_append, List.map_cons, List.sum_cons, flat_filter]

theorem sum_one {g : Nat → Nat} {j : Nat} : ∀ m : Nat, (∀ i, i < m → g i = if i = j then 1 else 0) → ((List.range m).map g).sum = if j < m then 1 else 0
  | 0, _ => by simp
  | m + 1, h => by
    have ih := sum_one m fun i hi => h i (by omega)
    rw [List.range_succ, List.map_append, List.sum_append, ih]
    have := h m (by omega)
    simp only [List.map_singleton, List.sum_singleton, this]
    by_cases e : m = j
    · subst e; simp
    · rw [if_neg e]
      by_cases e2 : j < m
      · rw [if_pos e2, if_pos (by omega)]
      · rw [if_neg e2, if_neg (by omega)]

theorem acc_node {l : List (List Opn)} {ch : List Int} (hlt : ch.length < l.length) {P : Nat → List Rft} (hP : ∀ i, i < (ops l ch.length).length → AccP l (ch ++ [(i : Int)]) (P i)) : AccP l ch ((List.range (ops l ch.length).length).flatMap P) := by
  have hp : ∀ {i : Nat} {x : Rft}, i < (ops l ch.length).length → x ∈ P i → (ch ++ [(i : Int)]) <+: x.1 := fun hi hx => (hP _ hi).pre _ hx
  refine ⟨fun x hx => ?_, fun x hx => ?_, fun d hd hdl hpre => ?_⟩
  · obtain ⟨i, hi, hx⟩ := List.mem_flatMap.1 hx
    exact (hP i (List.mem_range.1 hi)).wi x hx
  · obtain ⟨i, hi, hx⟩ := List.mem_flatMap.1 hx
    exact (List.prefix_append ch [(i : Int)]).trans (hp (List.mem_range.1 hi) hx)
  · obtain ⟨e, rfl⟩ := hpre
    cases e with
    | nil => simp at hdl; omega
    | cons y e' =>
      have l0 := hd.low ch.length (by simp)
      have l1 := hd.high ch.length (by simp)
      have e0 : (ch ++ y :: e').getD ch.length 0 = y := by simp [List.getD]
      rw [e0] at l0 l1
      obtain ⟨j, rfl⟩ : ∃ j : Nat, y = j := ⟨y.toNat, by omega⟩
      have hj : j < (ops l ch.length).length := by omega
      rw [flat_filter, sum_one (j := j), if_pos hj]
      intro i hi
      by_cases ei : i = j
      · subst ei
        rw [if_pos rfl]
        exact (hP i hi).one _ hd hdl ⟨e', by simp⟩
      · rw [if_neg ei]
        rw [List.length_eq_zero_iff, List.filter_eq_nil_iff]
        intro x hx hxp
        obtain ⟨u, hu⟩ := hp hi hx
        obtain ⟨v, hv⟩ := List.isPrefixOf_iff_prefix.1 hxp
        rw [← hu] at hv
        simp only [List.append_assoc, List.append_cancel_left_eq, List.cons_append, List.cons.injEq] at hv
        have h1 := hv.1
        exact ei (by omega)

theorem rdany_loop (k : Nat) (_hk : 100 ≤ k) (s : Int × Int) {l : List (List Opn)} (hl : LOk l) {ch : List Int} (_hch : InR l ch) (hlt : ch.length < l.length) {V : List (List Opn) → Int × Int → List Rft → List Int → Option RdR}
    (hV : ∀ (i : Nat) (all : List Rft), i < (ops l ch.length).length → ∃ A' b, V l s all (ch ++ [(i : Int)]) = some ((l, (s, A')), b) ∧ (b = true → ∃ C, all = C ++ A' ∧ AccP l (ch ++ [(i : Int)]) C)) : ∀ (n i : Nat) (A : List Rft), i ≤ (ops l ch.length).length → (ops l ch.length).length - i < n →
      ∃ A' b, joint_reader_step.l0 k l ch V n ((i : Int), l, s.1, s.2, A) = some ((l, (s, A')), b) ∧ (b = true → ∃ P : Nat → List Rft, A = (List.range' i ((ops l ch.length).length - i)).flatMap P ++ A' ∧ ∀ j, i ≤ j → j < (ops l ch.length).length → AccP l (ch ++ [(j : Int)]) (P j)) := by
  intro n
  induction n with
  | zero => intro i _ _ hn; omega
  | succ n ih =>
    intro i A hi hn
    rw [joint_reader_step.l0_succ]
    unfold joint_reader_step.l0b
    have h6 := hl.len
    have hB : l.getD (((ch.length : Nat) : Int)).toNat [] = ops l ch.length := by simp [ops]
    have h8 : (ops l ch.length).length ≤ 8 := (hl.one _ (ops_mem hlt)).2
    dsimp only
    rw [hB]
    by_cases hil : i < (ops l ch.length).length
    · obtain ⟨z, hz⟩ : ∃ z, (ops l ch.length).length - i = z + 1 := ⟨(ops l ch.length).length - i - 1, by omega⟩
      have hz2 : (ops l ch.length).length - (i + 1) = z := by omega
      rw [decide_eq_true (p := (i : Int) < (((ops l ch.length).length : Nat) : Int)) (by omega), jclone k ch (by omega), show w64 ((i : Int) + 1) = ((i + 1 : Nat) : Int) from w64_id (by omega) (by omega)]
      simp only [cond_true, Option.bind_some]
      rw [Nat.ble_eq_true_of_le (show (ch.length + 1) * 8 ≤ 140737488355328 by omega), cond_true]
      obtain ⟨A1, b1, h1, h2⟩ := hV i A hil
      change ∃ A' b, ((V l s A (ch ++ [(i : Int)])).bind _) = some ((l, (s, A')), b) ∧ _
      rw [h1]
      simp only [Option.bind_some]
      cases b1 with
      | false => exact ⟨A1, false, rfl, fun h => by cases h⟩
      | true =>
        obtain ⟨C, rfl, hC⟩ := h2 rfl
        obtain ⟨A', b, h3, h4⟩ := ih (i + 1) A1 (by omega) (by omega)
        refine ⟨A', b, h3, fun hb => ?_⟩
        obtain ⟨P, h5, h6⟩ := h4 hb
        refine ⟨fun j => if j = i then C else P j, ?_, fun j j0 j1 => ?_⟩
        · rw [hz, List.range'_succ, List.flatMap_cons, if_pos rfl, List.append_assoc]
          rw [hz2] at h5
          have : (List.range' (i + 1) z).flatMap (fun j => if j = i then C else P j) = (List.range' (i + 1) z).flatMap P := by
            rw [List.flatMap_def, List.flatMap_def]
            congr 1
            refine List.map_congr_left fun j hj => ?_
            have := List.mem_range'_1.1 hj
            rw [if_neg (by omega)]
          rw [this, ← h5]
        · dsimp only
          by_cases ej : j = i
          · subst ej
            rw [if_pos rfl]
            exact hC
          · rw [if_neg ej]
            exact h6 j (by omega) j1
    · rw [decide_eq_false (p := (i : Int) < (((ops l ch.length).length : Nat) : Int)) (by omega)]
      refine ⟨A, true, rfl, fun _ => ⟨fun _ => [], ?_, fun j j0 j1 => by omega⟩⟩
      have : (ops l ch.length).length - i = 0 := by omega
      rw [this]
      rfl

theorem reader_any (s : Int × Int) (hs0 : ∀ k, probe_CheckSep.F k s = some 0) {l : List (List Opn)} (hl : LOk l) (hsm : LSm l) : ∀ (f : Nat) (ch : List Int) (A : List Rft), InR l ch → 1000 + (l.length - ch.length) < f →
    ∃ A' b, joint_reader_step.F f l s A ch = some ((l, (s, A')), b) ∧ (b = true → ∃ C, A = C ++ A' ∧ AccP l ch C)
  | 0, _, _, _, h => by omega
  | f + 1, ch, A, hr, hf => by
    change ∃ A' b, joint_reader_step.G f (joint_reader_step.F f) l s A ch = some ((l, (s, A')), b) ∧ _
    unfold joint_reader_step.G
    have h6 := hl.len
    have hrl := hr.len
    rw [← Option.bind_assoc]
    -- does the reader take the first refutation
    have first : (((bif decide (((A.length : Nat) : Int) > 0) then some (decide (((ch.length : Nat) : Int) > 0)) else some false).bind fun b1 => (bif b1 then bif (decide (0 ≤ 0) && decide (0 < ((A.length : Nat) : Int))) then (slices_Equal_int.F f ((A.getD 0 ([], 0)).1) ch).bind fun r2 => some r2 else none else some false)) = some false) ∨
        (∃ (wv : Int) (rest : List Rft), A = (ch, wv) :: rest ∧ 0 < ch.length ∧ ((bif decide (((A.length : Nat) : Int) > 0) then some (decide (((ch.length : Nat) : Int) > 0)) else some false).bind fun b1 => (bif b1 then bif (decide (0 ≤ 0) && decide (0 < ((A.length : Nat) : Int))) then (slices_Equal_int.F f ((A.getD 0 ([], 0)).1) ch).bind fun r2 => some r2 else none else some false)) = some true) := by
      cases A with
      | nil => exact .inl rfl
      | cons x rest =>
        have hlr : ((((x :: rest : List Rft).length : Nat) : Int) > 0) := by rw [List.length_cons]; omega
        rw [decide_eq_true hlr]
        by_cases hc : ch.length = 0
        · rw [decide_eq_false (p := ((ch.length : Nat) : Int) > 0) (by omega)]
          exact .inl rfl
        · rw [decide_eq_true (p := ((ch.length : Nat) : Int) > 0) (by omega)]
          obtain ⟨b, hb, hq⟩ := equal_any f (by omega) x.1 (d := ch) (by omega)
          have hg : ((x :: rest : List Rft).getD 0 (([] : List Int), (0 : Int))).1 = x.1 := rfl
          rw [hg, hb]
          cases b with
          | false => exact .inl rfl
          | true =>
            refine .inr ⟨x.2, rest, ?_, by omega, rfl⟩
            rw [← hq rfl]
    rcases first with hb3 | ⟨wv, rest, hA, hpos, hb3⟩
    · rw [hb3]
      simp only [Option.bind_some, cond_false]
      by_cases he : ch.length = l.length
      · rw [cond_pos (c := (((ch.length : Nat) : Int) == ((l.length : Nat) : Int))) (by simp [he])]
        exact ⟨A, false, rfl, fun h => by cases h⟩
      · rw [cond_neg (c := (((ch.length : Nat) : Int) == ((l.length : Nat) : Int))) (by simpa using fun e => he (by omega)), decide_eq_true (p := 0 ≤ ((ch.length : Nat) : Int)) (by omega), decide_eq_true (p := ((ch.length : Nat) : Int) < ((l.length : Nat) : Int)) (by omega)]
        simp only [Bool.and_self, cond_true]
        have hlt : ch.length < l.length := by omega
        have h8 := (hl.one _ (ops_mem hlt)).2
        obtain ⟨A', b, h1, h2⟩ := rdany_loop f (by omega) s hl hr hlt (V := joint_reader_step.F f) (fun i all hi => reader_any s hs0 hl hsm f (ch ++ [(i : Int)]) all (hr.snoc hlt hi) (by simp; omega)) f 0 A (by omega) (by omega)
        refine ⟨A', b, h1, fun hb => ?_⟩
        obtain ⟨P, h3, h4⟩ := h2 hb
        rw [Nat.sub_zero, ← List.range_eq_range'] at h3
        exact ⟨_, h3, acc_node hlt fun i hi => h4 i (by omega) hi⟩
    · rw [hb3]
      subst hA
      have hg0 : ((ch, wv) :: rest).getD 0 (([] : List Int), (0 : Int)) = (ch, wv) := rfl
      have hlr : (((((ch, wv) :: rest : List Rft).length : Nat) : Int) > 0) := by rw [List.length_cons]; omega
      have hlr1 : (1 : Int) ≤ ((((ch, wv) :: rest : List Rft).length : Nat) : Int) := by rw [List.length_cons]; omega
      have hw : w64 (((ch.length : Nat) : Int) - 1) = ((ch.length - 1 : Nat) : Int) := by rw [w64_id (by omega) (by omega)]; omega
      obtain ⟨a, ha⟩ : ∃ a, ch.length - 1 = a := ⟨_, rfl⟩
      rw [ha] at hw
      simp only [hg0, Option.bind_some, cond_true]
      rw [decide_eq_true hlr1, hw, decide_eq_true (p := (0 : Int) < ((((ch, wv) :: rest : List Rft).length : Nat) : Int)) hlr]
      simp only [Bool.and_true]
      by_cases w0 : wv < 0
      · rw [decide_eq_true w0]
        exact ⟨rest, false, rfl, fun h => by cases h⟩
      rw [decide_eq_false w0]
      by_cases w1 : wv ≥ (a : Int)
      · rw [decide_eq_true w1]
        exact ⟨rest, false, rfl, fun h => by cases h⟩
      rw [decide_eq_false w1]
      obtain ⟨b, rfl⟩ : ∃ b : Nat, wv = b := ⟨wv.toNat, by omega⟩
      obtain ⟨ea, la⟩ := hr.co (show a < ch.length by omega)
      obtain ⟨eb, lb⟩ := hr.co (show b < ch.length by omega)
      have hBb : l.getD ((b : Int)).toNat [] = ops l b := by simp [ops]
      have hBa : l.getD ((a : Int)).toNat [] = ops l a := by simp [ops]
      have ob := hl.at (b := b) (by omega) lb
      have oa := hl.at (b := a) (by omega) la
      have mb := ops_mem (l := l) (show b < l.length by omega)
      obtain ⟨r, hp, _⟩ := probe_ok f (by omega) s (hs0 f) ob.tube oa.tube (hsm _ mb _ (opt_mem lb))
      simp only [cond_false, Option.bind_some]
      rw [decide_eq_true (p := 0 ≤ (b : Int)) (by omega), decide_eq_true (p := (b : Int) < ((l.length : Nat) : Int)) (by omega), decide_eq_true (p := (b : Int) < ((ch.length : Nat) : Int)) (by omega),
        decide_eq_true (p := 0 ≤ (a : Int)) (by omega), decide_eq_true (p := (a : Int) < ((l.length : Nat) : Int)) (by omega), decide_eq_true (p := (a : Int) < ((ch.length : Nat) : Int)) (by omega), hBb, hBa, getD_nat ch 0 b, getD_nat ch 0 a, ea, eb,
        decide_eq_true (p := 0 ≤ ((co ch b : Nat) : Int)) (by omega), decide_eq_true (p := ((co ch b : Nat) : Int) < (((ops l b).length : Nat) : Int)) (by omega), decide_eq_true (p := 0 ≤ ((co ch a : Nat) : Int)) (by omega), decide_eq_true (p := ((co ch a : Nat) : Int) < (((ops l a).length : Nat) : Int)) (by omega), getD_nat, getD_nat]
      simp only [Bool.and_self, cond_true]
      change ∃ A' b', (((probe_Pair.F f (opt l b (co ch b)).2 (opt l a (co ch a)).2 s).bind _).bind _) = some ((l, (s, A')), b') ∧ _
      rw [hp]
      refine ⟨rest, decide (((r.length : Nat) : Int) > 0), rfl, fun _ => ⟨[(ch, (b : Int))], rfl, fun x hx => ?_, fun x hx => ?_, fun d hd hdl hpre => ?_⟩⟩
      · obtain rfl := List.mem_singleton.1 hx
        show 0 ≤ (b : Int) ∧ (b : Int) < ((ch.length : Nat) : Int) - 1
        omega
      · obtain rfl := List.mem_singleton.1 hx
        exact List.prefix_refl ch
      · have : ch.isPrefixOf d = true := List.isPrefixOf_iff_prefix.2 hpre
        simp [this]

end Go.Proofs.Ytlaejfnmhfkdpaa.RT
