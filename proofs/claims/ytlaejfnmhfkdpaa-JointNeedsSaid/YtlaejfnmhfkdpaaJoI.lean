/- What is proved here: the plain law JointNeeds, and the laws as they are asked. They ask nothing. -/
import Derived.Test.YtlaejfnmhfkdpaaJoT
import Derived.Test.YtlaejfnmhfkdpaaPlA
import Derived.Test.YtlaejfnmhfkdpaaJoH
namespace Go.Proofs.Ytlaejfnmhfkdpaa.RT
open Go Go.R

attribute [local irreducible] tube_Check.F tube_at.F plane_Check.F tube_Point.F skywaykeep3_small.F plane_Distance.F probe_separated.F probe_pair.F probe_Pair.F joint_Check.F joint_both.F joint_table.F joint_clashes_with.F joint_search_step.F joint_Best.F skywaykeep3_few.F slices_Clone_int.F joint_refuter_step.F joint_Refute.F joint_reader_step.F skywaykeep3_pick.F

theorem Rfs.inr {K : Nat} {s : Int × Int} {l : List (List Opn)} : ∀ {g : Nat} {ch : List Int} {R : List Rft}, Rfs K s l g ch R → ∀ x ∈ R, InR l x.1
  | g + 1, ch, R, h => by
    rcases h with ⟨hr, b, rfl, _, _⟩ | ⟨_, _, P, rfl, hP⟩
    · intro x hx
      obtain rfl := List.mem_singleton.1 hx
      exact hr
    · intro x hx
      obtain ⟨i, hi, hx⟩ := List.mem_flatMap.1 hx
      exact Rfs.inr (hP i (List.mem_range.1 hi)) x hx

/-- A choice goes on to a whole one. -/
theorem InR.fill {l : List (List Opn)} (hl : LOk l) : ∀ (m : Nat) {c : List Int}, InR l c → l.length - c.length = m → ∃ e, InR l (c ++ e) ∧ (c ++ e).length = l.length
  | 0, c, h, hm => ⟨[], by rw [List.append_nil]; exact ⟨h, by have := h.len; omega⟩⟩
  | m + 1, c, h, hm => by
    have hlt : c.length < l.length := by omega
    obtain ⟨e, h1, h2⟩ := InR.fill hl m (h.snoc hlt (i := 0) (hl.one _ (ops_mem hlt)).1) (by simp; omega)
    exact ⟨((0 : Nat) : Int) :: e, by simpa using h1, by simpa using h2⟩

theorem rejected (k : Nat) (hk : 2000 ≤ k) (s : Int × Int) {l : List (List Opn)} (hsm : LSm l) (hb : joint_both.F k l s = some 0) (hl : LOk l) (hs : probe_CheckSep.F k s = some 0) {A : List Rft} (h5 : A.length ≤ 5000) (hA : ¬ AccP l [] A) : joint_Refuted.F k l s A = some 1 := by
  unfold joint_Refuted.F
  rw [hb]
  simp only [Option.bind_some]
  have h6 := hl.len
  rw [cond_neg (c := (0 : Int) != 0) (by rfl), decide_eq_false (p := ((A.length : Nat) : Int) > 5000) (by omega), cond_false]
  obtain ⟨A', b, h1, h2⟩ := reader_any s (sep_any hs) hl hsm k [] A ⟨by simp, by simp, by simp⟩ (by simp; omega)
  rw [h1]
  simp only [Option.bind_some]
  cases b with
  | false => rfl
  | true =>
    obtain ⟨C, rfl, hC⟩ := h2 rfl
    cases A' with
    | nil => rw [List.append_nil] at hA; exact absurd hC hA
    | cons x r =>
      rw [decide_eq_true (p := ((((x :: r : List Rft).length : Nat) : Int) > 0)) (by rw [List.length_cons]; omega)]
      rfl

attribute [local irreducible] joint_Refuted.F

theorem acc_of (k : Nat) (hk : 2000 ≤ k) (s : Int × Int) {l : List (List Opn)} (hsm : LSm l) (hl : LOk l) (hs : probe_CheckSep.F k s = some 0) {R : List Rft} (hR : Rfs k s l (l.length + 1) [] R) : AccP l [] R := by
  have h6 := hl.len
  have h1 := reader_ok k (by omega) s (sep_any hs) hl hsm (l.length + 1) k [] R [] hR (by omega)
  obtain ⟨A', b, h2, h3⟩ := reader_any s (sep_any hs) hl hsm k [] R ⟨by simp, by simp, by simp⟩ (by simp; omega)
  rw [List.append_nil, h2] at h1
  simp only [Option.some.injEq, Prod.mk.injEq, true_and] at h1
  obtain ⟨rfl, rfl⟩ := h1
  obtain ⟨C, e, hC⟩ := h3 rfl
  rw [List.append_nil] at e
  rw [e]
  exact hC

theorem split_at (R : List Rft) (i : Nat) (hi : i < R.length) : R = R.take i ++ R.getD i ([], 0) :: R.drop (i + 1) := by
  have e : R.getD i ([], 0) = R[i] := by simp [List.getD, hi]
  rw [e, List.getElem_cons_drop hi, List.take_append_drop]

theorem jdelete (k : Nat) (l : List Rft) (hl : l.length ≤ 5000) (j : Nat) (hj : j < l.length) : slices_Delete_api_JointRefuted.F k l j (w64 ((j : Int) + 1)) = some (l.take j ++ l.drop (j + 1)) := by
  unfold slices_Delete_api_JointRefuted.F
  have e1 : (l.drop (j + 1)).length = l.length - (j + 1) := List.length_drop
  have e2 : (l.take j).length = j := by rw [List.length_take]; omega
  rw [show w64 ((j : Int) + 1) = ((j + 1 : Nat) : Int) from w64_id (by omega) (by omega)]
  simp only [Int.toNat_natCast]
  rw [decide_eq_true (p := 0 ≤ (j : Int)) (by omega), decide_eq_true (p := (j : Int) ≤ ((j + 1 : Nat) : Int)) (by omega), decide_eq_true (p := ((j + 1 : Nat) : Int) ≤ ((l.length : Nat) : Int)) (by omega), decide_eq_true (p := ((l.length : Nat) : Int) ≤ ((l.length : Nat) : Int)) (by omega), decide_eq_true (p := (j : Int) ≤ ((l.length : Nat) : Int)) (by omega), decide_eq_true (p := 0 ≤ ((j + 1 : Nat) : Int)) (by omega), beq_false_of_ne (show (j : Int) ≠ ((j + 1 : Nat) : Int) by omega), Nat.ble_eq_true_of_le (show j + (l.drop (j + 1)).length ≤ l.length by omega)]
  simp only [Bool.and_self, cond_true, cond_false]
  rw [cond_pos (c := _ && _)]
  · congr 1
    rw [List.append_assoc, List.take_append_of_le_length (by simp; omega), List.take_take]
    rw [show min (j + (l.drop (j + 1)).length) (j + (l.drop (j + 1)).length - 0) = j + (l.drop (j + 1)).length by omega]
    rw [List.take_append_of_le_length (by rw [List.length_append, e2]; omega)]
    exact List.take_of_length_le (by rw [List.length_append, e2]; omega)
  · simp
    omega

theorem jclone2 (k : Nat) (R : List Rft) (h : R.length ≤ 5000) : slices_Clone_api_JointRefuted.F k R = some R := by
  unfold slices_Clone_api_JointRefuted.F
  rw [Nat.zero_add, Nat.ble_eq_true_of_le (by omega)]
  rfl

theorem jinsert (k : Nat) (R : List Rft) (h : R.length ≤ 5000) (i : Nat) (hi : i < R.length) (x : Rft) : slices_Insert_api_JointRefuted.F k R (i : Int) [x] = some (R.take i ++ [x] ++ R.drop i) := by
  unfold slices_Insert_api_JointRefuted.F insF
  rw [decide_eq_true (p := 0 ≤ (i : Int)) (by omega), decide_eq_true (p := (i : Int) ≤ ((R.length : Nat) : Int)) (by omega)]
  rw [List.length_singleton, Nat.ble_eq_true_of_le (show (R.length + 1) * 32 ≤ 140737488355328 by omega)]
  rfl

attribute [local irreducible] slices_Delete_api_JointRefuted.F slices_Clone_api_JointRefuted.F slices_Insert_api_JointRefuted.F

/-- What is changed is not accepted. -/
theorem changed {l : List (List Opn)} (hl : LOk l) {R : List Rft} (hin : ∀ x ∈ R, InR l x.1) (hacc : AccP l [] R) {i : Nat} (hi : i < R.length) : ¬ AccP l [] (R.take i ++ R.drop (i + 1)) ∧ ¬ AccP l [] (R.take i ++ [R.getD i ([], 0)] ++ R.drop i) ∧
    ∀ w : Int, (((R.getD i ([], 0)).1.length : Nat) : Int) - 1 ≤ w → ¬ AccP l [] (R.set i ((R.getD i ([], 0)).1, w)) := by
  have hsp := split_at R i hi
  have hxm : R.getD i ([], 0) ∈ R := by simp [List.getD, hi]
  have hdr : R.drop i = R.getD i ([], 0) :: R.drop (i + 1) := drop_cons hi _
  generalize hx : R.getD i ([], 0) = x at hsp hxm hdr ⊢
  have hxr := hin x hxm
  obtain ⟨e, h1, h2⟩ := hxr.fill hl _ rfl
  have hpx : x.1.isPrefixOf (x.1 ++ e) = true := List.isPrefixOf_iff_prefix.2 (List.prefix_append _ _)
  have one := hacc.one _ h1 h2 (List.nil_prefix)
  rw [hsp, List.filter_append, List.length_append, List.filter_cons, if_pos hpx, List.length_cons] at one
  refine ⟨fun h => ?_, fun h => ?_, fun w hw h => ?_⟩
  · have := h.one _ h1 h2 (List.nil_prefix)
    rw [List.filter_append, List.length_append] at this
    omega
  · have := h.one _ h1 h2 (List.nil_prefix)
    rw [hdr, List.filter_append, List.filter_append, List.length_append, List.length_append, List.filter_cons, if_pos hpx, List.length_cons, List.filter_cons, if_pos hpx, List.length_cons] at this
    omega
  · have := (h.wi (x.1, w) (by
      rw [List.mem_iff_getElem]
      exact ⟨i, by simpa using hi, by simp⟩)).2
    dsimp only at this
    omega

theorem JointNeeds_plain (k : Nat) (hk : 2000 ≤ k) (hk2 : k ≤ 4611686018427387904) (hf : skywaykeep3_jointFact.F k = some true) (l : List (List Opn)) (s : Int × Int) (i by_ : Int) (hl : l.length < k) (ho : ∀ o ∈ l, o.length < k) : skywaykeep3_JointNeeds.F k l s i by_ = some true := by
  unfold skywaykeep3_JointNeeds.F
  rw [hf]
  simp only [Option.bind_some, Bool.not_true, cond_false]
  obtain ⟨r, hr, hsh, hfew⟩ := few_eq k (by omega) hk2 l hl ho
  rw [hr]
  simp only [Option.bind_some]
  cases r with
  | false => rfl
  | true =>
    have hsh := hsh rfl
    simp only [Bool.not_true, cond_false]
    obtain ⟨R, e, hR, hri⟩ := refuteF_eq k (by omega) s hsh.lsm
    rw [hR]
    simp only [Option.bind_some]
    cases hri with
    | bad _ hne => rw [cond_pos (c := e != 0) (by simpa using hne)]; rfl
    | free => rfl
    | all hb hlk hs hno hrf _ =>
      have hlen := hrf.len hlk
      rw [List.length_nil] at hlen
      have h200 := hfew rfl hlk
      rw [cond_neg (c := (0 : Int) != 0) (by rfl), show (((R.length : Nat) : Int) == 0) = false from beq_false_of_ne (by omega)]
      simp only [Option.bind_some, cond_false]
      obtain ⟨d, hd, d0, d1⟩ := jpick k i ((R.length : Nat) : Int) (by omega) (by omega)
      obtain ⟨p, hp, p0, p1⟩ := jpick k by_ 5 (by omega) (by omega)
      rw [hd]
      simp only [Option.bind_some]
      obtain ⟨q, rfl⟩ : ∃ q : Nat, d = q := ⟨d.toNat, by omega⟩
      have hq : q < R.length := by omega
      rw [jclone2 k R (by omega)]
      simp only [Option.bind_some]
      rw [jdelete k R (by omega) q hq]
      simp only [Option.bind_some]
      rw [decide_eq_true d0, decide_eq_true d1, getD_nat, jinsert k R (by omega) q hq]
      simp only [Bool.and_self, cond_true, Option.bind_some]
      rw [hp]
      simp only [Option.bind_some]
      have hacc := acc_of k hk s hsh.lsm hlk hs hrf
      obtain ⟨c1, c2, c3⟩ := changed hlk hrf.inr hacc hq
      have r1 := rejected k hk s hsh.lsm hb hlk hs (A := R.take q ++ R.drop (q + 1)) (by simp; omega) c1
      have r2 := rejected k hk s hsh.lsm hb hlk hs (A := R.take q ++ [R.getD q ([], 0)] ++ R.drop q) (by simp; omega) c2
      have hxm : R.getD q ([], 0) ∈ R := by simp [List.getD, hq]
      have hx6 := (hrf.inr _ hxm).len
      have h6 := hlk.len
      have hwv : w64 (w64 ((((R.getD q ([], 0)).1.length : Nat) : Int) - 1) + p) = (((R.getD q ([], 0)).1.length : Nat) : Int) - 1 + p := by rw [w64_id (n := (((R.getD q ([], 0)).1.length : Nat) : Int) - 1) (by omega) (by omega), w64_id (by omega) (by omega)]
      have r3 := rejected k hk s hsh.lsm hb hlk hs (A := R.set q ((R.getD q ([], 0)).1, w64 (w64 ((((R.getD q ([], 0)).1.length : Nat) : Int) - 1) + p))) (by simp; omega) (c3 _ (by rw [hwv]; omega))
      obtain ⟨m, rfl⟩ : ∃ m, k = m + 4 := ⟨k - 4, by omega⟩
      generalize hK : m + 4 = K at r1 r2 r3 ⊢
      have e4 : K = m + 1 + 1 + 1 + 1 := by omega
      have go : ∀ n, n = m + 1 + 1 + 1 + 1 → skywaykeep3_JointNeeds.l0 K l s (q : Int) (R.take q ++ R.drop (q + 1)) (R.take q ++ [R.getD q ([], 0)] ++ R.drop q) R p n 0 = some true := fun n hn => by
        subst hn
        rw [skywaykeep3_JointNeeds.l0_succ]
        unfold skywaykeep3_JointNeeds.l0b
        change ((joint_Refuted.F K l s (R.take q ++ R.drop (q + 1))).bind _) = _
        rw [r1]
        change skywaykeep3_JointNeeds.l0 K l s (q : Int) (R.take q ++ R.drop (q + 1)) (R.take q ++ [R.getD q ([], 0)] ++ R.drop q) R p (m + 1 + 1 + 1) 1 = _
        rw [skywaykeep3_JointNeeds.l0_succ]
        unfold skywaykeep3_JointNeeds.l0b
        change ((joint_Refuted.F K l s (R.take q ++ [R.getD q ([], 0)] ++ R.drop q)).bind _) = _
        rw [r2]
        change skywaykeep3_JointNeeds.l0 K l s (q : Int) (R.take q ++ R.drop (q + 1)) (R.take q ++ [R.getD q ([], 0)] ++ R.drop q) R p (m + 1 + 1) 2 = _
        rw [skywaykeep3_JointNeeds.l0_succ]
        unfold skywaykeep3_JointNeeds.l0b
        change ((joint_Refuted.F K l s (R.set q ((R.getD q ([], 0)).1, w64 (w64 ((((R.getD q ([], 0)).1.length : Nat) : Int) - 1) + p)))).bind _) = _
        rw [r3]
        change skywaykeep3_JointNeeds.l0 K l s (q : Int) (R.take q ++ R.drop (q + 1)) (R.take q ++ [R.getD q ([], 0)] ++ R.drop q) R p (m + 1) 3 = _
        rw [skywaykeep3_JointNeeds.l0_succ]
        rfl
      exact go K e4

end Go.Proofs.Ytlaejfnmhfkdpaa.RT
