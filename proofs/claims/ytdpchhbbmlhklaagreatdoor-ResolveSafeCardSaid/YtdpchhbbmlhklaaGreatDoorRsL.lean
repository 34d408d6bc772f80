/- What is proved here: where the listed package variables read as listed, the memory holds the tables; some memory is so. They ask nothing. -/
import Derived.Test.YtdpchhbbmlhklaaGreatDoorRows
import Derived.Test.YtdpchhbbmlhklaaGreatDoorRsT
import Derived.Test.YtdpchhbbmlhklaaGreatDoorRc
import Derived.ChangeSame
import Derived.JoinedOf
import Derived.RowKit
import Derived.ProofKit
import Derived.Lay
namespace Go.Proofs.YtdpchhbbmlhklaaGreatDoor.RT
open Go Go.R Go.Proofs Go.ChangeShapes Go.WideShapes Go.RowKit

theorem named4 : Tryz.prog.globalNamed "math._sin" = some 4 := by kernel_rfl
theorem gtype4 : (Tryz.prog.globals[4]?).map (·.type) = some 136 := by kernel_rfl
def cells4 : Array Value := #[.float .f64 4460209587652500685, .float .f64 13716528389658582877, .float .f64 4523617212962785441, .float .f64 13774824197404483331, .float .f64 4575957461383575504, .float .f64 13818544856648471880]
theorem gunder4 : Tryz.prog.underlying 136 = some (.array 6 100) := by kernel_rfl
theorem eunder4 : Tryz.prog.underlying 100 = some (.float .f64) := by kernel_rfl
theorem gsz4 : Tryz.prog.cellsOf 136 = 6 := by kernel_rfl
theorem esz4 : Tryz.prog.cellsOf 100 = 1 := by kernel_rfl
theorem named3 : Tryz.prog.globalNamed "math._cos" = some 3 := by kernel_rfl
theorem gtype3 : (Tryz.prog.globals[3]?).map (·.type) = some 136 := by kernel_rfl
def cells3 : Array Value := #[.float .f64 13666448263388469915, .float .f64 4477121864728985349, .float .f64 13732177093698800582, .float .f64 4537941361668146421, .float .f64 13787419979223748497, .float .f64 4586165620538955083]
theorem gunder3 : Tryz.prog.underlying 136 = some (.array 6 100) := by kernel_rfl
theorem eunder3 : Tryz.prog.underlying 100 = some (.float .f64) := by kernel_rfl
theorem gsz3 : Tryz.prog.cellsOf 136 = 6 := by kernel_rfl
theorem esz3 : Tryz.prog.cellsOf 100 = 1 := by kernel_rfl
theorem named1 : Tryz.prog.globalNamed "skyway/phrase.words" = some 1 := by kernel_rfl
theorem gtype1 : (Tryz.prog.globals[1]?).map (·.type) = some 105 := by kernel_rfl
def cells1 : Array Value := #[.string ⟨#[72, 69, 73, 71, 72, 84]⟩, .string ⟨#[72, 69, 65, 68, 73, 78, 71]⟩, .string ⟨#[83, 80, 69, 69, 68]⟩, .string ⟨#[68, 73, 82, 69, 67, 84]⟩, .string ⟨#[72, 79, 76, 68]⟩, .string ⟨#[67, 79, 78, 84, 65, 67, 84]⟩, .string ⟨#[76, 65, 78, 68]⟩]
theorem gunder1 : Tryz.prog.underlying 105 = some (.array 7 9) := by kernel_rfl
theorem eunder1 : Tryz.prog.underlying 9 = some (.string) := by kernel_rfl
theorem gsz1 : Tryz.prog.cellsOf 105 = 7 := by kernel_rfl
theorem esz1 : Tryz.prog.cellsOf 9 = 1 := by kernel_rfl
theorem named0 : Tryz.prog.globalNamed "skyway/phrase.most" = some 0 := by kernel_rfl
theorem gtype0 : (Tryz.prog.globals[0]?).map (·.type) = some 68 := by kernel_rfl
def cells0 : Array Value := #[.int .i64 60000, .int .i64 4095, .int .i64 400]
theorem gunder0 : Tryz.prog.underlying 68 = some (.array 3 3) := by kernel_rfl
theorem eunder0 : Tryz.prog.underlying 3 = some (.int .i64) := by kernel_rfl
theorem gsz0 : Tryz.prog.cellsOf 68 = 3 := by kernel_rfl
theorem esz0 : Tryz.prog.cellsOf 3 = 1 := by kernel_rfl

theorem int_of_trod {H : Type} {enc : TypeId × Value → H} {P : Program} {w : World} {base : Nat} {sp : Nat → Bool} {held : Bool} {fuel : Nat} {t : TypeId} {k : IntKind} {c : Value} {y : DataW H × List MemPlace}
    (ht : P.underlying t = some (.int k)) (h : DataW.trod enc P w base sp held fuel t [c] = some y) : ∃ n, c = .int k n ∧ y = (.lit (.int k n), []) := by
  cases fuel with
  | zero => simp [DataW.trod] at h
  | succ fuel =>
    cases c <;> simp [DataW.trod, ht] at h
    rename_i k' n
    obtain ⟨⟨rfl, _⟩, rfl⟩ := h
    exact ⟨n, rfl, rfl⟩

theorem flt_of_trod {H : Type} {enc : TypeId × Value → H} {P : Program} {w : World} {base : Nat} {sp : Nat → Bool} {held : Bool} {fuel : Nat} {t : TypeId} {k : FloatKind} {c : Value} {y : DataW H × List MemPlace}
    (ht : P.underlying t = some (.float k)) (h : DataW.trod enc P w base sp held fuel t [c] = some y) : ∃ n, c = .float k n ∧ y = (.lit (.float k n), []) := by
  cases fuel with
  | zero => simp [DataW.trod] at h
  | succ fuel =>
    cases c <;> simp [DataW.trod, ht] at h
    rename_i k' n
    obtain ⟨⟨rfl, _⟩, rfl⟩ := h
    exact ⟨n, rfl, rfl⟩

theorem str_of_trod {H : Type} {enc : TypeId × Value → H} {P : Program} {w : World} {base : Nat} {sp : Nat → Bool} {held : Bool} {fuel : Nat} {t : TypeId} {c : Value} {y : DataW H × List MemPlace}
    (ht : P.underlying t = some .string) (h : DataW.trod enc P w base sp held fuel t [c] = some y) : ∃ s : ByteArray, c = .string s ∧ y = (.lit (.string s.data.toList), []) := by
  cases fuel with
  | zero => simp [DataW.trod] at h
  | succ fuel =>
    cases c <;> simp [DataW.trod, ht] at h
    rename_i s
    obtain ⟨_, rfl⟩ := h
    exact ⟨s, rfl, rfl⟩

theorem back_str {s : ByteArray} {l : List UInt8} (h : s.data.toList = l) : s = ⟨l.toArray⟩ := by
  subst h
  rfl

def laid : List (String × DataW Unit) := [("math._sin", Rows.laid_math_sin), ("math._cos", Rows.laid_math_cos), ("math.mPi4", Rows.laid_math_mPi4), ("skyway/phrase.words", Rows.laid_skyway_phrase_words), ("skyway/phrase.most", Rows.laid_skyway_phrase_most)]

theorem of_laid {W : World} (h : laidMetH Tryz.prog laid W) : W.var? Tryz.prog "math._sin" = some cells4 ∧ W.var? Tryz.prog "math._cos" = some cells3 ∧ W.var? Tryz.prog "skyway/phrase.words" = some cells1 ∧ W.var? Tryz.prog "skyway/phrase.most" = some cells0 := by
  have h : laidMet Tryz.prog laid W := h
  obtain ⟨ps, ⟨g4, t4, cs4, fuel4, p4, q4, hg4, ht4, hvar4, hd4, ⟨g3, t3, cs3, fuel3, p3, q3, hg3, ht3, hvar3, hd3, ⟨g5, t5, cs5, fuel5, p5, q5, hg5, ht5, hvar5, hd5, ⟨g1, t1, cs1, fuel1, p1, q1, hg1, ht1, hvar1, hd1, ⟨g0, t0, cs0, fuel0, p0, q0, hg0, ht0, hvar0, hd0, _, _⟩, _⟩, _⟩, _⟩, _⟩, _⟩ := h
  obtain rfl := Option.some.inj (named4.symm.trans hg4)
  obtain rfl := Option.some.inj (gtype4.symm.trans ht4)
  obtain rfl := Option.some.inj (named3.symm.trans hg3)
  obtain rfl := Option.some.inj (gtype3.symm.trans ht3)
  obtain rfl := Option.some.inj (named1.symm.trans hg1)
  obtain rfl := Option.some.inj (gtype1.symm.trans ht1)
  obtain rfl := Option.some.inj (named0.symm.trans hg0)
  obtain rfl := Option.some.inj (gtype0.symm.trans ht0)
  refine ⟨?_, ?_, ?_, ?_⟩
  · rw [hvar4]
    congr 1
    obtain ⟨l⟩ := cs4
    cases fuel4 with
    | zero => simp [DataW.trod] at hd4
    | succ fuel =>
      simp only [DataW.trod, gunder4, gsz4, esz4] at hd4
      split at hd4
      · rename_i hl
        obtain ⟨c0, c1, c2, c3, c4, c5, rfl⟩ : ∃ c0 c1 c2 c3 c4 c5, l = [c0, c1, c2, c3, c4, c5] := by
          match l, hl with
          | [x0, x1, x2, x3, x4, x5], _ => exact ⟨x0, x1, x2, x3, x4, x5, rfl⟩
        have e : List.range 6 = [0, 1, 2, 3, 4, 5] := rfl
        rw [e] at hd4
        simp only [Option.map_eq_some_iff, List.mapM_cons, List.mapM_nil, Option.bind_eq_bind, Option.bind_eq_some_iff, Option.pure_def, Option.some.injEq] at hd4
        obtain ⟨xs, ⟨y0, h0, _, ⟨y1, h1, _, ⟨y2, h2, _, ⟨y3, h3, _, ⟨y4, h4, _, ⟨y5, h5, _, rfl, rfl⟩, rfl⟩, rfl⟩, rfl⟩, rfl⟩, rfl⟩, hx⟩ := hd4
        obtain ⟨n0, rfl, rfl⟩ := flt_of_trod eunder4 h0
        obtain ⟨n1, rfl, rfl⟩ := flt_of_trod eunder4 h1
        obtain ⟨n2, rfl, rfl⟩ := flt_of_trod eunder4 h2
        obtain ⟨n3, rfl, rfl⟩ := flt_of_trod eunder4 h3
        obtain ⟨n4, rfl, rfl⟩ := flt_of_trod eunder4 h4
        obtain ⟨n5, rfl, rfl⟩ := flt_of_trod eunder4 h5
        simp only [Rows.laid_math_sin, List.map_cons, List.map_nil, Prod.mk.injEq, DataW.agg.injEq, List.cons.injEq, DataW.lit.injEq, Lit.float.injEq, true_and, and_true] at hx
        obtain ⟨⟨rfl, rfl, rfl, rfl, rfl, rfl⟩, _⟩ := hx
        rfl
      · cases hd4
  · rw [hvar3]
    congr 1
    obtain ⟨l⟩ := cs3
    cases fuel3 with
    | zero => simp [DataW.trod] at hd3
    | succ fuel =>
      simp only [DataW.trod, gunder3, gsz3, esz3] at hd3
      split at hd3
      · rename_i hl
        obtain ⟨c0, c1, c2, c3, c4, c5, rfl⟩ : ∃ c0 c1 c2 c3 c4 c5, l = [c0, c1, c2, c3, c4, c5] := by
          match l, hl with
          | [x0, x1, x2, x3, x4, x5], _ => exact ⟨x0, x1, x2, x3, x4, x5, rfl⟩
        have e : List.range 6 = [0, 1, 2, 3, 4, 5] := rfl
        rw [e] at hd3
        simp only [Option.map_eq_some_iff, List.mapM_cons, List.mapM_nil, Option.bind_eq_bind, Option.bind_eq_some_iff, Option.pure_def, Option.some.injEq] at hd3
        obtain ⟨xs, ⟨y0, h0, _, ⟨y1, h1, _, ⟨y2, h2, _, ⟨y3, h3, _, ⟨y4, h4, _, ⟨y5, h5, _, rfl, rfl⟩, rfl⟩, rfl⟩, rfl⟩, rfl⟩, rfl⟩, hx⟩ := hd3
        obtain ⟨n0, rfl, rfl⟩ := flt_of_trod eunder3 h0
        obtain ⟨n1, rfl, rfl⟩ := flt_of_trod eunder3 h1
        obtain ⟨n2, rfl, rfl⟩ := flt_of_trod eunder3 h2
        obtain ⟨n3, rfl, rfl⟩ := flt_of_trod eunder3 h3
        obtain ⟨n4, rfl, rfl⟩ := flt_of_trod eunder3 h4
        obtain ⟨n5, rfl, rfl⟩ := flt_of_trod eunder3 h5
        simp only [Rows.laid_math_cos, List.map_cons, List.map_nil, Prod.mk.injEq, DataW.agg.injEq, List.cons.injEq, DataW.lit.injEq, Lit.float.injEq, true_and, and_true] at hx
        obtain ⟨⟨rfl, rfl, rfl, rfl, rfl, rfl⟩, _⟩ := hx
        rfl
      · cases hd3
  · rw [hvar1]
    congr 1
    obtain ⟨l⟩ := cs1
    cases fuel1 with
    | zero => simp [DataW.trod] at hd1
    | succ fuel =>
      simp only [DataW.trod, gunder1, gsz1, esz1] at hd1
      split at hd1
      · rename_i hl
        obtain ⟨c0, c1, c2, c3, c4, c5, c6, rfl⟩ : ∃ c0 c1 c2 c3 c4 c5 c6, l = [c0, c1, c2, c3, c4, c5, c6] := by
          match l, hl with
          | [x0, x1, x2, x3, x4, x5, x6], _ => exact ⟨x0, x1, x2, x3, x4, x5, x6, rfl⟩
        have e : List.range 7 = [0, 1, 2, 3, 4, 5, 6] := rfl
        rw [e] at hd1
        simp only [Option.map_eq_some_iff, List.mapM_cons, List.mapM_nil, Option.bind_eq_bind, Option.bind_eq_some_iff, Option.pure_def, Option.some.injEq] at hd1
        obtain ⟨xs, ⟨y0, h0, _, ⟨y1, h1, _, ⟨y2, h2, _, ⟨y3, h3, _, ⟨y4, h4, _, ⟨y5, h5, _, ⟨y6, h6, _, rfl, rfl⟩, rfl⟩, rfl⟩, rfl⟩, rfl⟩, rfl⟩, rfl⟩, hx⟩ := hd1
        obtain ⟨n0, rfl, rfl⟩ := str_of_trod eunder1 h0
        obtain ⟨n1, rfl, rfl⟩ := str_of_trod eunder1 h1
        obtain ⟨n2, rfl, rfl⟩ := str_of_trod eunder1 h2
        obtain ⟨n3, rfl, rfl⟩ := str_of_trod eunder1 h3
        obtain ⟨n4, rfl, rfl⟩ := str_of_trod eunder1 h4
        obtain ⟨n5, rfl, rfl⟩ := str_of_trod eunder1 h5
        obtain ⟨n6, rfl, rfl⟩ := str_of_trod eunder1 h6
        simp only [Rows.laid_skyway_phrase_words, List.map_cons, List.map_nil, Prod.mk.injEq, DataW.agg.injEq, List.cons.injEq, DataW.lit.injEq, Lit.string.injEq, and_true] at hx
        obtain ⟨⟨e0, e1, e2, e3, e4, e5, e6⟩, _⟩ := hx
        rw [back_str e0, back_str e1, back_str e2, back_str e3, back_str e4, back_str e5, back_str e6]
        rfl
      · cases hd1
  · rw [hvar0]
    congr 1
    obtain ⟨l⟩ := cs0
    cases fuel0 with
    | zero => simp [DataW.trod] at hd0
    | succ fuel =>
      simp only [DataW.trod, gunder0, gsz0, esz0] at hd0
      split at hd0
      · rename_i hl
        obtain ⟨c0, c1, c2, rfl⟩ : ∃ c0 c1 c2, l = [c0, c1, c2] := by
          match l, hl with
          | [x0, x1, x2], _ => exact ⟨x0, x1, x2, rfl⟩
        have e : List.range 3 = [0, 1, 2] := rfl
        rw [e] at hd0
        simp only [Option.map_eq_some_iff, List.mapM_cons, List.mapM_nil, Option.bind_eq_bind, Option.bind_eq_some_iff, Option.pure_def, Option.some.injEq] at hd0
        obtain ⟨xs, ⟨y0, h0, _, ⟨y1, h1, _, ⟨y2, h2, _, rfl, rfl⟩, rfl⟩, rfl⟩, hx⟩ := hd0
        obtain ⟨n0, rfl, rfl⟩ := int_of_trod eunder0 h0
        obtain ⟨n1, rfl, rfl⟩ := int_of_trod eunder0 h1
        obtain ⟨n2, rfl, rfl⟩ := int_of_trod eunder0 h2
        simp only [Rows.laid_skyway_phrase_most, List.map_cons, List.map_nil, Prod.mk.injEq, DataW.agg.injEq, List.cons.injEq, DataW.lit.injEq, Lit.int.injEq, true_and, and_true] at hx
        obtain ⟨⟨rfl, rfl, rfl⟩, _⟩ := hx
        rfl
      · cases hd0

theorem glob_ok {W : World} (h : laidMetH Tryz.prog laid W) : GlobOk (memOf W) gt := by
  obtain ⟨v4, v3, v1, v0⟩ := of_laid h
  intro g c hgc
  have fin : ∀ {n : String} {g : Nat} {c : List AV} {cs : Array Value}, Tryz.prog.globalNamed n = some g → W.var? Tryz.prog n = some cs → RepL (memOf W) (fun _ => none) (fun _ => none) c cs.toList → BdL (fun _ => False) c → 0 < cs.size → cs.size = c.length →
      GlobAt (memOf W) g c := fun {n g c cs} hg hv hr hb h0 hl => by
    refine ⟨?_, hb, 0, cs[0], ?_, ?_⟩
    · simp only [Rep]
      refine ⟨_, cs.toList, rfl, rfl, hr, fun j u hu => ?_⟩
      rw [Nat.zero_add]
      unfold memOf
      rw [World.var?_cell hg hv j, ← Array.getElem?_toList]
      exact hu
    · unfold memOf
      rw [World.var?_cell hg hv 0]
      exact Array.getElem?_eq_getElem h0
    · unfold memOf
      rw [World.var?_cell hg hv c.length, ← hl]
      exact Array.getElem?_eq_none (Nat.le_refl _)
  simp only [gt, List.mem_cons, List.not_mem_nil, or_false, Prod.mk.injEq] at hgc
  rcases hgc with ⟨rfl, rfl⟩ | ⟨rfl, rfl⟩ | ⟨rfl, rfl⟩ | ⟨rfl, rfl⟩
  · exact fin named0 v0 (by simp [RepL, Rep, cells0]) (by simp [BdL, Bd]) (by decide) rfl
  · exact fin named1 v1 (by simp [RepL, Rep, cells1]) (by simp [BdL, Bd]) (by decide) rfl
  · exact fin named3 v3 (by simp [RepL, Rep, cells3]) (by simp [BdL, Bd]) (by decide) rfl
  · exact fin named4 v4 (by simp [RepL, Rep, cells4]) (by simp [BdL, Bd]) (by decide) rfl

/-! ### A memory that is so -/

noncomputable def laidWorld (os : Os) : World := World.laidAll Tryz.prog os laid

theorem laidWorld_met (os : Os) (args : Array Value) : laidMetH Tryz.prog laid ((laidWorld os).forCall (fun _ _ => 0) ⟨#[], args, []⟩).memory := by
  show laidMet Tryz.prog laid ((World.laidAll Tryz.prog os laid).forCall (fun _ _ => 0) ⟨#[], args, []⟩).memory
  exact laidMet_laidAll args (by kernel_rfl) (by kernel_rfl)


end Go.Proofs.YtdpchhbbmlhklaaGreatDoor.RT
