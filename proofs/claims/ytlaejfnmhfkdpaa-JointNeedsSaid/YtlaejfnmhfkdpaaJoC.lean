/- What is proved here: the search for the best choice finds one of the least cost, if there is one. They ask nothing. -/
import Derived.Test.YtlaejfnmhfkdpaaJoT
import Derived.Test.YtlaejfnmhfkdpaaPlA
import Derived.Test.YtlaejfnmhfkdpaaJoB
namespace Go.Proofs.Ytlaejfnmhfkdpaa.RT
open Go Go.R

attribute [local irreducible] tube_Check.F tube_at.F plane_Check.F tube_Point.F skywaykeep3_small.F plane_Distance.F probe_pair.F probe_Pair.F joint_Check.F joint_both.F joint_table.F joint_clashes_with.F

theorem jclone (k : Nat) (c : List Int) (h : c.length ≤ 6) : slices_Clone_int.F k c = some c := by
  unfold slices_Clone_int.F
  cases c with
  | nil => rfl
  | cons x r =>
    simp only [List.length_cons] at h
    simp only [List.nil_append, List.length_cons]
    first
      | rfl
      | (rw [Nat.ble_eq_true_of_le (by omega)]; rfl)

/-- What a search holds: nothing, or a whole choice without clashes and its cost. -/
def Held (k : Nat) (s : Int × Int) (l : List (List Opn)) (b : List Int) (c : Int) : Prop := b = [] ∨ (Whole k s l b ∧ c = cst l b)

/-- It is no worse than d. -/
def Beats (l : List (List Opn)) (b : List Int) (c : Int) (d : List Int) : Prop := b ≠ [] ∧ c ≤ cst l d

structure Found (k : Nat) (s : Int × Int) (l : List (List Opn)) (b : List Int) (c : Int) (b' : List Int) (c' : Int) : Prop where
  held : Held k s l b' c'
  keeps : ∀ d, Beats l b c d → Beats l b' c' d

abbrev SR := ((List (List Opn)) × (List (List (List (List Bool)))) × List Int × List Int × Int) × Unit

theorem sloop (k K : Nat) (hk : 100 ≤ k) (s : Int × Int) {l : List (List Opn)} (hl : LOk l) {ch : List Int} (hch : InR l ch) (hfr : Fre K s l ch) (hlt : ch.length < l.length)
    {V : List (List Opn) → List (List (List (List Bool))) → List Int → List Int → Int → Int → Option SR}
    (hV : ∀ (i : Nat) (b : List Int) (c : Int), i < (ops l ch.length).length → Fre K s l (ch ++ [(i : Int)]) → Held K s l b c → ∃ b' c', V l (tbl K s l) (ch ++ [(i : Int)]) b c (cst l (ch ++ [(i : Int)])) = some ((l, (tbl K s l, (ch ++ [(i : Int)], (b', c')))), ()) ∧ Found K s l b c b' c' ∧ ∀ e, Whole K s l ((ch ++ [(i : Int)]) ++ e) → Beats l b' c' ((ch ++ [(i : Int)]) ++ e)) :
    ∀ (n i : Nat) (b : List Int) (c : Int), i ≤ (ops l ch.length).length → (ops l ch.length).length - i < n → Held K s l b c →
      ∃ b' c', joint_search_step.l0 k l ch (cst l ch) V n (((i : Int), l, tbl K s l, c), ch, b) = some ((l, (tbl K s l, (ch, (b', c')))), ()) ∧ Found K s l b c b' c' ∧ ∀ (j : Nat) (e : List Int), i ≤ j → Whole K s l ((ch ++ [(j : Int)]) ++ e) → Beats l b' c' ((ch ++ [(j : Int)]) ++ e) := by
  intro n
  induction n with
  | zero => intro i _ _ _ hn; omega
  | succ n ih =>
    intro i b c hi hn hh
    rw [joint_search_step.l0_succ]
    unfold joint_search_step.l0b
    have h6 := hl.len
    have hB : l.getD (((ch.length : Nat) : Int)).toNat [] = ops l ch.length := by simp [ops]
    have h8 : (ops l ch.length).length ≤ 8 := (hl.one _ (ops_mem hlt)).2
    dsimp only
    rw [hB]
    by_cases hil : i < (ops l ch.length).length
    · have hcn := hch.snoc hlt hil
      obtain ⟨v, hv, hcase⟩ := with_eq k K (by omega) s hl hcn (by simp)
      have hlen : (ch ++ [(i : Int)]).length - 1 = ch.length := by simp
      rw [hlen] at hcase
      rw [decide_eq_true (p := (i : Int) < (((ops l ch.length).length : Nat) : Int)) (by omega), decide_eq_true (p := 0 ≤ (i : Int)) (by omega), Nat.ble_eq_true_of_le (show (ch.length + 1) * 8 ≤ 140737488355328 by omega), hv, getD_nat,
        show w64 ((i : Int) + 1) = ((i + 1 : Nat) : Int) from w64_id (by omega) (by omega), decide_eq_true (p := 0 ≤ ((ch.length : Nat) : Int)) (by omega)]
      simp only [Bool.and_self, cond_true, Option.bind_some, Bool.true_and, Int.toNat_natCast]
      have htake : (ch ++ [(i : Int)]).take ch.length = ch := by simp
      have hlen2 : decide (((ch.length : Nat) : Int) ≤ (((ch ++ [(i : Int)]).length : Nat) : Int)) = true := by simp; omega
      rcases hcase with ⟨rfl, hq⟩ | ⟨q, rfl, hq1, hq2⟩
      · rw [decide_eq_true (p := (-1 : Int) < 0) (by omega), cond_true]
        have hfr' : Fre K s l (ch ++ [(i : Int)]) := hfr.snoc hq
        have hcb := cst_bound hl _ (ch ++ [(i : Int)]) rfl hcn
        have hcb0 := hcn.len
        have hcw : w64 (cst l ch + ((ops l ch.length).getD i (0, [])).1) = cst l (ch ++ [(i : Int)]) := by
          have e : cst l ch + ((ops l ch.length).getD i (0, [])).1 = cst l (ch ++ [(i : Int)]) := by
            rw [cst_snoc, Int.toNat_natCast]
            rfl
          rw [e]
          exact w64_id (by omega) (by omega)
        rw [hcw]
        obtain ⟨b1, c1, h1, hf1, ho1⟩ := hV i b c hil hfr' hh
        rw [h1]
        simp only [Option.bind_some]
        rw [hlen2, cond_true, htake]
        obtain ⟨b2, c2, h2, hf2, ho2⟩ := ih (i + 1) b1 c1 (by omega) (by omega) hf1.held
        refine ⟨b2, c2, h2, ⟨hf2.held, fun d hd => hf2.keeps d (hf1.keeps d hd)⟩, fun j e hj hw => ?_⟩
        by_cases ej : j = i
        · subst ej
          exact hf2.keeps _ (ho1 e hw)
        · exact ho2 j e (by omega) hw
      · rw [decide_eq_false (p := (q : Int) < 0) (by omega), cond_false, hlen2, cond_true, htake]
        obtain ⟨b2, c2, h2, hf2, ho2⟩ := ih (i + 1) b c (by omega) (by omega) hh
        refine ⟨b2, c2, h2, hf2, fun j e hj hw => ?_⟩
        by_cases ej : j = i
        · subst ej
          have := (Fre.pre e.length e rfl hw.free).of_snoc.2 q hq1
          rw [hq2] at this
          cases this
        · exact ho2 j e (by omega) hw
    · rw [decide_eq_false (p := (i : Int) < (((ops l ch.length).length : Nat) : Int)) (by omega)]
      refine ⟨b, c, rfl, ⟨hh, fun d hd => hd⟩, fun j e hj hw => ?_⟩
      have hr := hw.inr
      have h1 := hr.high ch.length (by simp)
      have e0 : ((ch ++ [(j : Int)]) ++ e).getD ch.length 0 = (j : Int) := by simp [List.getD]
      rw [e0] at h1
      omega

theorem search_ok (K : Nat) (s : Int × Int) {l : List (List Opn)} (hl : LOk l) (hn : 0 < l.length) : ∀ (f : Nat) (ch : List Int) (b : List Int) (c : Int), InR l ch → Fre K s l ch → 100 + (l.length - ch.length) < f → Held K s l b c →
    ∃ b' c', joint_search_step.F f l (tbl K s l) ch b c (cst l ch) = some ((l, (tbl K s l, (ch, (b', c')))), ()) ∧ Found K s l b c b' c' ∧ ∀ e, Whole K s l (ch ++ e) → Beats l b' c' (ch ++ e)
  | 0, _, _, _, _, _, h, _ => by omega
  | f + 1, ch, b, c, hr, hfr, hf, hh => by
    change ∃ b' c', joint_search_step.G f (joint_search_step.F f) l (tbl K s l) ch b c (cst l ch) = _ ∧ _
    unfold joint_search_step.G
    have hlen := hr.len
    have h6 := hl.len
    -- what is told where the search goes on
    have go : ∃ b' c', (bif (((ch.length : Nat) : Int) == ((l.length : Nat) : Int)) then (slices_Clone_int.F f ch).bind fun r2 => bif (!(List.isEmpty r2)) then some ((l, (tbl K s l, (ch, (r2, cst l ch)))), ()) else none else bif (decide (0 ≤ ((ch.length : Nat) : Int)) && decide (((ch.length : Nat) : Int) < ((l.length : Nat) : Int))) then joint_search_step.l0 f l ch (cst l ch) (joint_search_step.F f) f ((0, l, tbl K s l, c), ch, b) else none) = some ((l, (tbl K s l, (ch, (b', c')))), ()) ∧
        ((b = [] ∨ cst l ch < c) → Found K s l b c b' c' ∧ ∀ e, Whole K s l (ch ++ e) → Beats l b' c' (ch ++ e)) := by
      by_cases he : ch.length = l.length
      · rw [cond_pos (c := (((ch.length : Nat) : Int) == ((l.length : Nat) : Int))) (by simp [he]), jclone f ch (by omega)]
        simp only [Option.bind_some]
        have hne : ch ≠ [] := fun e => by rw [e] at he; simp at he; omega
        have hem : List.isEmpty ch = false := by
          cases ch with
          | nil => exact absurd rfl hne
          | cons _ _ => rfl
        rw [hem]
        refine ⟨ch, cst l ch, rfl, fun hb => ⟨⟨.inr ⟨⟨hr, he, hfr⟩, rfl⟩, fun d hd => ⟨hne, ?_⟩⟩, fun e hw => ⟨hne, cst_ext hl e.length e rfl hw.inr⟩⟩⟩
        rcases hb with hb | hb
        · exact absurd hb hd.1
        · have := hd.2
          omega
      · rw [cond_neg (c := (((ch.length : Nat) : Int) == ((l.length : Nat) : Int))) (by simpa using fun e => he (by omega)), decide_eq_true (p := 0 ≤ ((ch.length : Nat) : Int)) (by omega), decide_eq_true (p := ((ch.length : Nat) : Int) < ((l.length : Nat) : Int)) (by omega)]
        simp only [Bool.and_self, cond_true]
        have hlt : ch.length < l.length := by omega
        obtain ⟨b', c', h1, h2, h3⟩ := sloop f K (by omega) s hl hr hfr hlt (V := joint_search_step.F f) (fun i b c hi hfr' hh' => search_ok K s hl hn f (ch ++ [(i : Int)]) b c (hr.snoc hlt hi) hfr' (by simp; omega) hh') f 0 b c (by omega) (by have := (hl.one _ (ops_mem hlt)).2; omega) hh
        refine ⟨b', c', h1, fun _ => ⟨h2, fun e hw => ?_⟩⟩
        obtain ⟨i, e', hi, he'⟩ := hw.next hlt
        rw [he'] at hw ⊢
        exact h3 i e' (by omega) hw
    obtain ⟨b', c', hgo, hgo2⟩ := go
    by_cases hb : b = []
    · have hem : List.isEmpty b = true := by rw [hb]; rfl
      rw [hem]
      simp only [Bool.not_true, cond_false, Option.bind_some]
      exact ⟨b', c', hgo, hgo2 (.inl hb)⟩
    · have hem : List.isEmpty b = false := by
        cases b with
        | nil => exact absurd rfl hb
        | cons _ _ => rfl
      rw [hem]
      simp only [Bool.not_false, cond_true, Option.bind_some]
      by_cases hc : cst l ch ≥ c
      · rw [decide_eq_true hc]
        refine ⟨b, c, rfl, ⟨hh, fun d hd => hd⟩, fun e hw => ⟨hb, ?_⟩⟩
        have := cst_ext hl e.length e rfl hw.inr
        omega
      · rw [decide_eq_false hc]
        exact ⟨b', c', hgo, hgo2 (.inr (by omega))⟩

end Go.Proofs.Ytlaejfnmhfkdpaa.RT
