/- What is proved here: what the refutations of all choices are, and that the refuter finds them or a whole choice without clashes. They ask nothing. -/
import Derived.Test.YtlaejfnmhfkdpaaJoT
import Derived.Test.YtlaejfnmhfkdpaaPlA
import Derived.Test.YtlaejfnmhfkdpaaJoE
namespace Go.Proofs.Ytlaejfnmhfkdpaa.RT
open Go Go.R

attribute [local irreducible] tube_Check.F tube_at.F plane_Check.F tube_Point.F skywaykeep3_small.F plane_Distance.F probe_pair.F probe_Pair.F joint_Check.F joint_both.F joint_table.F joint_clashes_with.F joint_search_step.F joint_Best.F skywaykeep3_few.F slices_Clone_int.F

abbrev Rft := List Int × Int

theorem prdL_pos : ∀ {l : List (List Opn)}, (∀ o ∈ l, 1 ≤ o.length) → 1 ≤ prdL l
  | [], _ => Nat.le_refl 1
  | o :: r, h => by
    have h1 := h o (List.mem_cons_self ..)
    have h2 := prdL_pos fun x hx => h x (List.mem_cons_of_mem _ hx)
    exact Nat.mul_le_mul h1 h2

theorem prd_pos {l : List (List Opn)} (h : LOk l) (j : Nat) : 1 ≤ prd l j := prdL_pos fun o ho => (h.one o (List.mem_of_mem_drop ho)).1

/-- The refutations of all choices that begin with ch, in their order. -/
def Rfs (K : Nat) (s : Int × Int) (l : List (List Opn)) : Nat → List Int → List Rft → Prop
  | 0, _, _ => False
  | f + 1, ch, R => (InR l ch ∧ ∃ b : Nat, R = [(ch, (b : Int))] ∧ b < ch.length - 1 ∧ cla K s (cop l ch b).2 (cop l ch (ch.length - 1)).2 = true) ∨
      (InR l ch ∧ ch.length < l.length ∧ ∃ P : Nat → List Rft, R = (List.range (ops l ch.length).length).flatMap P ∧ ∀ i, i < (ops l ch.length).length → Rfs K s l f (ch ++ [(i : Int)]) (P i))

theorem flat_len {P : Nat → List Rft} {A : Nat} : ∀ {L : List Nat}, (∀ i ∈ L, 1 ≤ (P i).length ∧ (P i).length ≤ A) → L.length ≤ (L.flatMap P).length ∧ (L.flatMap P).length ≤ L.length * A
  | [], _ => by simp
  | i :: L, h => by
    have h1 := h i (List.mem_cons_self ..)
    have h2 := flat_len (L := L) fun j hj => h j (List.mem_cons_of_mem _ hj)
    rw [List.flatMap_cons, List.length_append, List.length_cons, Nat.add_mul]
    omega

theorem Rfs.len {K : Nat} {s : Int × Int} {l : List (List Opn)} (hl : LOk l) : ∀ {f : Nat} {ch : List Int} {R : List Rft}, Rfs K s l f ch R → 1 ≤ R.length ∧ R.length ≤ prd l ch.length
  | f + 1, ch, R, h => by
    rcases h with ⟨_, b, rfl, _⟩ | ⟨_, hlt, P, rfl, hP⟩
    · exact ⟨Nat.le_refl 1, prd_pos hl _⟩
    · have h1 := (hl.one _ (ops_mem hlt)).1
      have := flat_len (P := P) (A := prd l (ch.length + 1)) (L := List.range (ops l ch.length).length) fun i hi => by
        have := Rfs.len hl (hP i (List.mem_range.1 hi))
        simpa using this
      rw [List.length_range] at this
      rw [prd_succ hlt]
      omega

/-- The first one is of a choice that begins with ch; where ch goes on, of a longer one. -/
theorem Rfs.mem {K : Nat} {s : Int × Int} {l : List (List Opn)} : ∀ {f : Nat} {ch : List Int} {R : List Rft}, Rfs K s l f ch R → ∀ x ∈ R, ch.length ≤ x.1.length ∧ 0 < x.1.length
  | f + 1, ch, R, h => by
    rcases h with ⟨_, b, rfl, hb, _⟩ | ⟨_, hlt, P, rfl, hP⟩
    · intro x hx
      obtain rfl := List.mem_singleton.1 hx
      exact ⟨Nat.le_refl _, by show 0 < ch.length; omega⟩
    · intro x hx
      obtain ⟨i, hi, hx⟩ := List.mem_flatMap.1 hx
      have := Rfs.mem (hP i (List.mem_range.1 hi)) x hx
      simp only [List.length_append, List.length_singleton] at this
      omega

theorem Rfs.fuel {K : Nat} {s : Int × Int} {l : List (List Opn)} : ∀ {f : Nat} {ch : List Int} {R : List Rft}, Rfs K s l f ch R → Rfs K s l (f + 1) ch R
  | f + 1, ch, R, h => by
    rcases h with h | ⟨h1, h2, P, h3, h4⟩
    · exact .inl h
    · exact .inr ⟨h1, h2, P, h3, fun i hi => Rfs.fuel (h4 i hi)⟩

abbrev RR' := ((List (List Opn)) × (List (List (List (List Bool)))) × List Rft × Bool) × Unit

theorem rloop (k K : Nat) (hk : 100 ≤ k) (s : Int × Int) {l : List (List Opn)} (hl : LOk l) {f : Nat} {ch : List Int} (hch : InR l ch) (hfr : Fre K s l ch) (hlt : ch.length < l.length)
    {V : List (List Opn) → List (List (List (List Bool))) → List Rft → Bool → List Int → Option RR'}
    (hV : ∀ (i : Nat) (acc : List Rft), i < (ops l ch.length).length → Fre K s l (ch ++ [(i : Int)]) → acc.length + prd l (ch.length + 1) ≤ 5000 →
      (∃ out, V l (tbl K s l) acc false (ch ++ [(i : Int)]) = some ((l, (tbl K s l, (out, true))), ()) ∧ ∃ e, Whole K s l ((ch ++ [(i : Int)]) ++ e)) ∨
      (∃ R, V l (tbl K s l) acc false (ch ++ [(i : Int)]) = some ((l, (tbl K s l, (acc ++ R, false))), ()) ∧ Rfs K s l (f + 1) (ch ++ [(i : Int)]) R ∧ ∀ e, ¬ Whole K s l ((ch ++ [(i : Int)]) ++ e))) :
    ∀ (n i : Nat) (acc : List Rft), i ≤ (ops l ch.length).length → (ops l ch.length).length - i < n → acc.length + ((ops l ch.length).length - i) * prd l (ch.length + 1) ≤ 5000 →
      (∃ out, joint_refuter_step.l0 k l ch V n (((i : Int), l, tbl K s l, false), acc) = some ((l, (tbl K s l, (out, true))), ()) ∧ ∃ e, Whole K s l (ch ++ e)) ∨
      (∃ P : Nat → List Rft, joint_refuter_step.l0 k l ch V n (((i : Int), l, tbl K s l, false), acc) = some ((l, (tbl K s l, (acc ++ (List.range' i ((ops l ch.length).length - i)).flatMap P, false))), ()) ∧ ∀ j, i ≤ j → j < (ops l ch.length).length → Rfs K s l (f + 1) (ch ++ [(j : Int)]) (P j) ∧ ∀ e, ¬ Whole K s l ((ch ++ [(j : Int)]) ++ e)) := by
  intro n
  induction n with
  | zero => intro i _ _ hn; omega
  | succ n ih =>
    intro i acc hi hn ha
    rw [joint_refuter_step.l0_succ]
    unfold joint_refuter_step.l0b
    have h6 := hl.len
    have hB : l.getD (((ch.length : Nat) : Int)).toNat [] = ops l ch.length := by simp [ops]
    have h8 : (ops l ch.length).length ≤ 8 := (hl.one _ (ops_mem hlt)).2
    dsimp only
    rw [hB]
    by_cases hil : i < (ops l ch.length).length
    · have hcn := hch.snoc hlt hil
      obtain ⟨v, hv, hcase⟩ := with_eq k K (by omega) s hl hcn (by simp)
      have hlen : (ch ++ [(i : Int)]).length - 1 = ch.length := by simp
      obtain ⟨z, hz⟩ : ∃ z, (ops l ch.length).length - i = z + 1 := ⟨(ops l ch.length).length - i - 1, by clear hcase; omega⟩
      have hz2 : (ops l ch.length).length - (i + 1) = z := by clear hcase; omega
      have hp := prd_pos hl (ch.length + 1)
      have hza : acc.length + (z * prd l (ch.length + 1) + prd l (ch.length + 1)) ≤ 5000 := by rw [hz, Nat.add_mul, Nat.one_mul] at ha; exact ha
      rw [decide_eq_true (p := (i : Int) < (((ops l ch.length).length : Nat) : Int)) (by clear hcase; omega), jclone k ch (by clear hcase; omega), show w64 ((i : Int) + 1) = ((i + 1 : Nat) : Int) from w64_id (by clear hcase; omega) (by clear hcase; omega)]
      simp only [cond_true, Option.bind_some]
      rw [Nat.ble_eq_true_of_le (show (ch.length + 1) * 8 ≤ 140737488355328 by clear hcase; omega), cond_true, hv]
      simp only [Option.bind_some]
      -- what follows behind option i
      have next : ∀ R : List Rft, R.length ≤ prd l (ch.length + 1) → Rfs K s l (f + 1) (ch ++ [(i : Int)]) R → (∀ e, ¬ Whole K s l ((ch ++ [(i : Int)]) ++ e)) →
          (∃ out, joint_refuter_step.l0 k l ch V n ((((i + 1 : Nat) : Int), l, tbl K s l, false), acc ++ R) = some ((l, (tbl K s l, (out, true))), ()) ∧ ∃ e, Whole K s l (ch ++ e)) ∨
          (∃ P : Nat → List Rft, joint_refuter_step.l0 k l ch V n ((((i + 1 : Nat) : Int), l, tbl K s l, false), acc ++ R) = some ((l, (tbl K s l, (acc ++ (List.range' i ((ops l ch.length).length - i)).flatMap P, false))), ()) ∧ ∀ j, i ≤ j → j < (ops l ch.length).length → Rfs K s l (f + 1) (ch ++ [(j : Int)]) (P j) ∧ ∀ e, ¬ Whole K s l ((ch ++ [(j : Int)]) ++ e)) := fun R hR hrf hno => by
        rcases ih (i + 1) (acc ++ R) (by omega) (by omega) (by rw [hz2, List.length_append]; omega) with h | ⟨P, h1, h2⟩
        · exact .inl h
        · refine .inr ⟨fun j => if j = i then R else P j, h1.trans ?_, fun j j0 j1 => ?_⟩
          · rw [hz, hz2, List.range'_succ, List.flatMap_cons, if_pos rfl, List.append_assoc]
            have : (List.range' (i + 1) z).flatMap (fun j => if j = i then R else P j) = (List.range' (i + 1) z).flatMap P := by
              rw [List.flatMap_def, List.flatMap_def]
              congr 1
              refine List.map_congr_left fun j hj => ?_
              have := List.mem_range'_1.1 hj
              rw [if_neg (by omega)]
            rw [this]
          · dsimp only
            by_cases ej : j = i
            · subst ej
              rw [if_pos rfl]
              exact ⟨hrf, hno⟩
            · rw [if_neg ej]
              exact h2 j (by omega) j1
      rcases hcase with ⟨rfl, hq⟩ | ⟨q, rfl, hq1, hq2⟩
      · rw [decide_eq_false (p := (-1 : Int) ≥ 0) (by omega), cond_false]
        rw [hlen] at hq
        have hfr' : Fre K s l (ch ++ [(i : Int)]) := hfr.snoc hq
        rcases hV i acc hil hfr' (by omega) with ⟨out, h1, e, hw⟩ | ⟨R, h1, h2, h3⟩
        · rw [h1]
          exact .inl ⟨out, rfl, [(i : Int)] ++ e, by rw [← List.append_assoc]; exact hw⟩
        · rw [h1]
          have hR := (h2.len hl).2
          rw [List.length_append, List.length_singleton] at hR
          exact next R hR h2 h3
      · rw [decide_eq_true (p := (q : Int) ≥ 0) (by omega), cond_true, Nat.ble_eq_true_of_le (show (acc.length + 1) * 32 ≤ 140737488355328 by omega), cond_true]
        refine next [(ch ++ [(i : Int)], (q : Int))] hp (.inl ⟨hcn, q, rfl, hq1, hq2⟩) fun e hw => ?_
        rw [hlen] at hq1 hq2
        have := (Fre.pre e.length e rfl hw.free).of_snoc.2 q hq1
        rw [hq2] at this
        cases this
    · rw [decide_eq_false (p := (i : Int) < (((ops l ch.length).length : Nat) : Int)) (by omega)]
      refine .inr ⟨fun _ => [], ?_, fun j j0 j1 => by omega⟩
      have : (ops l ch.length).length - i = 0 := by omega
      rw [this]
      simp

theorem refute_ok (K : Nat) (s : Int × Int) {l : List (List Opn)} (hl : LOk l) : ∀ (f : Nat) (ch : List Int) (acc : List Rft), InR l ch → Fre K s l ch → 100 + (l.length - ch.length) < f → acc.length + prd l ch.length ≤ 5000 →
    (∃ out, joint_refuter_step.F f l (tbl K s l) acc false ch = some ((l, (tbl K s l, (out, true))), ()) ∧ ∃ e, Whole K s l (ch ++ e)) ∨
    (∃ R, joint_refuter_step.F f l (tbl K s l) acc false ch = some ((l, (tbl K s l, (acc ++ R, false))), ()) ∧ Rfs K s l (l.length - ch.length + 1) ch R ∧ ∀ e, ¬ Whole K s l (ch ++ e))
  | 0, _, _, _, _, h, _ => by omega
  | f + 1, ch, acc, hr, hfr, hf, ha => by
    change (∃ out, joint_refuter_step.G f (joint_refuter_step.F f) l (tbl K s l) acc false ch = _ ∧ _) ∨ (∃ R, joint_refuter_step.G f (joint_refuter_step.F f) l (tbl K s l) acc false ch = _ ∧ _)
    unfold joint_refuter_step.G
    have hlen := hr.len
    have h6 := hl.len
    by_cases he : ch.length = l.length
    · rw [cond_pos (c := (((ch.length : Nat) : Int) == ((l.length : Nat) : Int))) (by simp [he])]
      exact .inl ⟨acc, rfl, [], by rw [List.append_nil]; exact ⟨hr, he, hfr⟩⟩
    · rw [cond_neg (c := (((ch.length : Nat) : Int) == ((l.length : Nat) : Int))) (by simpa using fun e => he (by omega)), decide_eq_true (p := 0 ≤ ((ch.length : Nat) : Int)) (by omega), decide_eq_true (p := ((ch.length : Nat) : Int) < ((l.length : Nat) : Int)) (by omega)]
      simp only [Bool.and_self, cond_true]
      have hlt : ch.length < l.length := by omega
      have h8 := (hl.one _ (ops_mem hlt)).2
      have hp := prd_succ hlt
      rcases rloop f K (by omega) s hl (f := l.length - ch.length - 1) hr hfr hlt (V := joint_refuter_step.F f) (fun i acc hi hfr' ha' => by
          have := refute_ok K s hl f (ch ++ [(i : Int)]) acc (hr.snoc hlt hi) hfr' (by simp; omega) (by simpa using ha')
          have e : l.length - (ch ++ [(i : Int)]).length + 1 = l.length - ch.length - 1 + 1 := by simp; omega
          rw [e] at this
          exact this) f 0 acc (by omega) (by omega) (by rw [Nat.sub_zero]; omega) with h | ⟨P, h1, h2⟩
      · exact .inl h
      · refine .inr ⟨(List.range (ops l ch.length).length).flatMap P, ?_, ?_, fun e hw => ?_⟩
        · rw [List.range_eq_range']
          exact h1
        · have e : l.length - ch.length + 1 = l.length - ch.length - 1 + 1 + 1 := by omega
          rw [e]
          exact .inr ⟨hr, hlt, P, rfl, fun i hi => (h2 i (by omega) hi).1⟩
        · obtain ⟨i, e', hi, he'⟩ := hw.next hlt
          rw [he'] at hw
          exact (h2 i (by omega) hi).2 e' hw

attribute [local irreducible] joint_refuter_step.F

/-- What the refutations are. -/
inductive RefIs (k : Nat) (s : Int × Int) (l : List (List Opn)) : List Rft → Int → Prop
  | bad {e : Int} : joint_both.F k l s = some e → e ≠ 0 → RefIs k s l [] e
  | free {d : List Int} : joint_both.F k l s = some 0 → Whole k s l d → RefIs k s l [] 11
  | all {R : List Rft} : joint_both.F k l s = some 0 → LOk l → probe_CheckSep.F k s = some 0 → (∀ d, ¬ Whole k s l d) → Rfs k s l (l.length + 1) [] R → R.length ≤ 5000 → RefIs k s l R 0

theorem refuteF_eq (k : Nat) (hk : 1000 ≤ k) (s : Int × Int) {l : List (List Opn)} (hsm : LSm l) : ∃ R e, joint_Refute.F k l s = some (R, e) ∧ RefIs k s l R e := by
  unfold joint_Refute.F
  obtain ⟨e, hb, hok⟩ := jboth_eq k (by omega) l s
  rw [hb]
  simp only [Option.bind_some]
  by_cases e0 : e = 0
  · subst e0
    obtain ⟨hl, hs⟩ := hok rfl
    rw [cond_neg (c := (0 : Int) != 0) (by rfl), table_eq k hk s hs hl hsm]
    simp only [Option.bind_some]
    have h6 := hl.len
    rcases refute_ok k s hl k [] [] ⟨by simp, by simp, by simp⟩ (fun a ha => by simp at ha) (by simp; omega) (by simpa using hl.prod) with ⟨out, h1, e, hw⟩ | ⟨R, h1, h2, h3⟩
    · rw [h1]
      exact ⟨[], 11, rfl, .free hb hw⟩
    · rw [h1]
      have hR := (h2.len hl).2
      have hprod := hl.prod
      rw [List.length_nil] at hR
      exact ⟨R, 0, rfl, .all hb hl hs (fun d hd => h3 d (by simpa using hd)) (by simpa using h2) (by omega)⟩
  · rw [cond_pos (c := e != 0) (by simpa using e0)]
    exact ⟨[], e, rfl, .bad hb e0⟩

attribute [local irreducible] joint_Refute.F

end Go.Proofs.Ytlaejfnmhfkdpaa.RT
