/- What is proved here: where the listed package variables read as listed, the memory holds the tables; some memory is so. They ask nothing. -/
import Derived.Test.YtpgnhohclpjfiaaGreatDoorRows
import Derived.Test.YtpgnhohclpjfiaaGreatDoorRaT
import Derived.Test.YtpgnhohclpjfiaaGreatDoorRc
import Derived.ChangeSame
import Derived.JoinedOf
import Derived.RowKit
import Derived.ProofKit
namespace Go.Proofs.YtpgnhohclpjfiaaGreatDoor.RT
open Go Go.R Go.Proofs Go.ChangeShapes Go.WideShapes Go.RowKit

theorem named4 : Tryz.prog.globalNamed "math._sin" = some 4 := by kernel_rfl
theorem gtype4 : (Tryz.prog.globals[4]?).map (·.type) = some 169 := by kernel_rfl
def cells4 : Array Value := #[.float .f64 4460209587652500685, .float .f64 13716528389658582877, .float .f64 4523617212962785441, .float .f64 13774824197404483331, .float .f64 4575957461383575504, .float .f64 13818544856648471880]
theorem named3 : Tryz.prog.globalNamed "math._cos" = some 3 := by kernel_rfl
theorem gtype3 : (Tryz.prog.globals[3]?).map (·.type) = some 169 := by kernel_rfl
def cells3 : Array Value := #[.float .f64 13666448263388469915, .float .f64 4477121864728985349, .float .f64 13732177093698800582, .float .f64 4537941361668146421, .float .f64 13787419979223748497, .float .f64 4586165620538955083]
theorem named5 : Tryz.prog.globalNamed "math.mPi4" = some 5 := by kernel_rfl
theorem gtype5 : (Tryz.prog.globals[5]?).map (·.type) = some 170 := by kernel_rfl
def cells5 : Array Value := #[.int .u64 1, .int .u64 5040379952546458195, .int .u64 17892431488136887169, .int .u64 13169980181085364355, .int .u64 18204331823439776451, .int .u64 7946843935494350272, .int .u64 905889640498799673, .int .u64 18175356263134875261, .int .u64 15061281708168349961, .int .u64 15220161563773041794, .int .u64 8296664548579374057, .int .u64 4109744767560208502, .int .u64 4607516669194743839, .int .u64 16023283104648321598, .int .u64 15739233654134936430, .int .u64 11424645774684705882, .int .u64 16883842788696515318, .int .u64 8795094592981902804, .int .u64 15561835991111744016, .int .u64 12395701187267450711]
theorem named1 : Tryz.prog.globalNamed "skyway/phrase.words" = some 1 := by kernel_rfl
theorem gtype1 : (Tryz.prog.globals[1]?).map (·.type) = some 127 := by kernel_rfl
def cells1 : Array Value := #[.string ⟨#[72, 69, 73, 71, 72, 84]⟩, .string ⟨#[72, 69, 65, 68, 73, 78, 71]⟩, .string ⟨#[83, 80, 69, 69, 68]⟩, .string ⟨#[68, 73, 82, 69, 67, 84]⟩, .string ⟨#[72, 79, 76, 68]⟩, .string ⟨#[67, 79, 78, 84, 65, 67, 84]⟩, .string ⟨#[76, 65, 78, 68]⟩]
theorem gunder1 : Tryz.prog.underlying 127 = some (.array 7 9) := by kernel_rfl
theorem eunder1 : Tryz.prog.underlying 9 = some (.string) := by kernel_rfl
theorem gsz1 : Tryz.prog.cellsOf 127 = 7 := by kernel_rfl
theorem esz1 : Tryz.prog.cellsOf 9 = 1 := by kernel_rfl
theorem named0 : Tryz.prog.globalNamed "skyway/phrase.most" = some 0 := by kernel_rfl
theorem gtype0 : (Tryz.prog.globals[0]?).map (·.type) = some 76 := by kernel_rfl
def cells0 : Array Value := #[.int .i64 60000, .int .i64 4095, .int .i64 400]
theorem gunder0 : Tryz.prog.underlying 76 = some (.array 3 3) := by kernel_rfl
theorem eunder0 : Tryz.prog.underlying 3 = some (.int .i64) := by kernel_rfl
theorem gsz0 : Tryz.prog.cellsOf 76 = 3 := by kernel_rfl
theorem esz0 : Tryz.prog.cellsOf 3 = 1 := by kernel_rfl

theorem int_of_trod {H : Type} {enc : TypeId × Value → H} {P : Program} {w : World} {base : Nat} {sp : Nat → Bool} {held : Bool} {fuel : Nat} {t : TypeId} {k : IntKind} {c : Value} {y : DataW H × List MemPlace}
    (ht : P.underlying t = some (.int k)) (h : DataW.trod enc P w base sp held fuel t [c] = some y) : ∃ n, c = .int k n ∧ y = (.lit (.int k n), []) := by
  cases fuel with
  | zero => simp [DataW.trod] at h
  | succ fuel =>
    cases c <;> simp [DataW.trod, ht] at h
    rename_i k' n
    obtain ⟨⟨rfl, _⟩, rfl⟩ := h
    exact ⟨n, rfl, rfl⟩

theorem str_of_trod {H : Type} {enc : TypeId × Value → H} {P : Program} {w : World} {base : Nat} {sp : Nat → Bool} {held : Bool} {fuel : Nat} {t : TypeId} {c : Value} {y : DataW H × List MemPlace}
    (ht : P.underlying t = some .string) (h : DataW.trod enc P w base sp held fuel t [c] = some y) : ∃ s : ByteArray, c = .string s ∧ y = (.lit (.string s.data.toList), []) := by
  cases fuel with
  | zero => simp [DataW.trod] at h
  | succ fuel =>
    cases c <;> simp [DataW.trod, ht] at h
    rename_i s
    obtain ⟨_, rfl⟩ := h
    exact ⟨s, rfl, rfl⟩

theorem back_str {s : ByteArray} {l : List UInt8} (h : s.data.toList = l) : s = ⟨l.toArray⟩ := by
  subst h
  rfl

def laid : List (String × DataW Unit) := [("math._sin", Rows.laid_math_sin), ("math._cos", Rows.laid_math_cos), ("math.mPi4", Rows.laid_math_mPi4), ("skyway/phrase.words", Rows.laid_skyway_phrase_words), ("skyway/phrase.most", Rows.laid_skyway_phrase_most)]

theorem of_laid {W : World} (h : laidMetH Tryz.prog laid W) : W.var? Tryz.prog "skyway/phrase.words" = some cells1 ∧ W.var? Tryz.prog "skyway/phrase.most" = some cells0 := by
  have h : laidMet Tryz.prog laid W := h
  obtain ⟨ps, ⟨g4, t4, cs4, fuel4, p4, q4, hg4, ht4, hvar4, hd4, ⟨g3, t3, cs3, fuel3, p3, q3, hg3, ht3, hvar3, hd3, ⟨g5, t5, cs5, fuel5, p5, q5, hg5, ht5, hvar5, hd5, ⟨g1, t1, cs1, fuel1, p1, q1, hg1, ht1, hvar1, hd1, ⟨g0, t0, cs0, fuel0, p0, q0, hg0, ht0, hvar0, hd0, _, _⟩, _⟩, _⟩, _⟩, _⟩, _⟩ := h
  obtain rfl := Option.some.inj (named1.symm.trans hg1)
  obtain rfl := Option.some.inj (gtype1.symm.trans ht1)
  obtain rfl := Option.some.inj (named0.symm.trans hg0)
  obtain rfl := Option.some.inj (gtype0.symm.trans ht0)
  refine ⟨?_, ?_⟩
  · rw [hvar1]
    congr 1
    obtain ⟨l⟩ := cs1
    cases fuel1 with
    | zero => simp [DataW.trod] at hd1
    | succ fuel =>
      simp only [DataW.trod, gunder1, gsz1, esz1] at hd1
      split at hd1
      · rename_i hl
        obtain ⟨c0, c1, c2, c3, c4, c5, c6, rfl⟩ : ∃ c0 c1 c2 c3 c4 c5 c6, l = [c0, c1, c2, c3, c4, c5, c6] := by
          match l, hl with
          | [x0, x1, x2, x3, x4, x5, x6], _ => exact ⟨x0, x1, x2, x3, x4, x5, x6, rfl⟩
        have e : List.range 7 = [0, 1, 2, 3, 4, 5, 6] := rfl
        rw [e] at hd1
        simp only [Option.map_eq_some_iff, List.mapM_cons, List.mapM_nil, Option.bind_eq_bind, Option.bind_eq_some_iff, Option.pure_def, Option.some.injEq] at hd1
        obtain ⟨xs, ⟨y0, h0, _, ⟨y1, h1, _, ⟨y2, h2, _, ⟨y3, h3, _, ⟨y4, h4, _, ⟨y5, h5, _, ⟨y6, h6, _, rfl, rfl⟩, rfl⟩, rfl⟩, rfl⟩, rfl⟩, rfl⟩, rfl⟩, hx⟩ := hd1
        obtain ⟨n0, rfl, rfl⟩ := str_of_trod eunder1 h0
        obtain ⟨n1, rfl, rfl⟩ := str_of_trod eunder1 h1
        obtain ⟨n2, rfl, rfl⟩ := str_of_trod eunder1 h2
        obtain ⟨n3, rfl, rfl⟩ := str_of_trod eunder1 h3
        obtain ⟨n4, rfl, rfl⟩ := str_of_trod eunder1 h4
        obtain ⟨n5, rfl, rfl⟩ := str_of_trod eunder1 h5
        obtain ⟨n6, rfl, rfl⟩ := str_of_trod eunder1 h6
        simp only [Rows.laid_skyway_phrase_words, List.map_cons, List.map_nil, Prod.mk.injEq, DataW.agg.injEq, List.cons.injEq, DataW.lit.injEq, Lit.string.injEq, and_true] at hx
        obtain ⟨⟨e0, e1, e2, e3, e4, e5, e6⟩, _⟩ := hx
        rw [back_str e0, back_str e1, back_str e2, back_str e3, back_str e4, back_str e5, back_str e6]
        rfl
      · cases hd1
  · rw [hvar0]
    congr 1
    obtain ⟨l⟩ := cs0
    cases fuel0 with
    | zero => simp [DataW.trod] at hd0
    | succ fuel =>
      simp only [DataW.trod, gunder0, gsz0, esz0] at hd0
      split at hd0
      · rename_i hl
        obtain ⟨c0, c1, c2, rfl⟩ : ∃ c0 c1 c2, l = [c0, c1, c2] := by
          match l, hl with
          | [x0, x1, x2], _ => exact ⟨x0, x1, x2, rfl⟩
        have e : List.range 3 = [0, 1, 2] := rfl
        rw [e] at hd0
        simp only [Option.map_eq_some_iff, List.mapM_cons, List.mapM_nil, Option.bind_eq_bind, Option.bind_eq_some_iff, Option.pure_def, Option.some.injEq] at hd0
        obtain ⟨xs, ⟨y0, h0, _, ⟨y1, h1, _, ⟨y2, h2, _, rfl, rfl⟩, rfl⟩, rfl⟩, hx⟩ := hd0
        obtain ⟨n0, rfl, rfl⟩ := int_of_trod eunder0 h0
        obtain ⟨n1, rfl, rfl⟩ := int_of_trod eunder0 h1
        obtain ⟨n2, rfl, rfl⟩ := int_of_trod eunder0 h2
        simp [Rows.laid_skyway_phrase_most] at hx
        obtain ⟨⟨rfl, rfl, rfl⟩, _⟩ := hx
        rfl
      · cases hd0

theorem glob_ok {W : World} (h : laidMetH Tryz.prog laid W) : GlobOk (memOf W) gt := by
  obtain ⟨v1, v0⟩ := of_laid h
  intro g c hgc
  have fin : ∀ {n : String} {g : Nat} {c : List AV} {cs : Array Value}, Tryz.prog.globalNamed n = some g → W.var? Tryz.prog n = some cs → RepL (memOf W) (fun _ => none) (fun _ => none) c cs.toList → BdL (fun _ => False) c →
      Rep (memOf W) (fun _ => none) (fun _ => none) (.rptr c) (.pointer (some ⟨g, 0, none⟩)) ∧ BdL (fun _ => False) c := fun {n g c cs} hg hv hr hb => by
    refine ⟨?_, hb⟩
    simp only [Rep]
    refine ⟨_, cs.toList, rfl, rfl, hr, fun j u hu => ?_⟩
    rw [Nat.zero_add]
    unfold memOf
    rw [World.var?_cell hg hv j, ← Array.getElem?_toList]
    exact hu
  simp only [gt, List.mem_cons, List.not_mem_nil, or_false, Prod.mk.injEq] at hgc
  rcases hgc with ⟨rfl, rfl⟩ | ⟨rfl, rfl⟩
  · exact fin named0 v0 (by simp [RepL, Rep, cells0]) (by simp [BdL, Bd])
  · exact fin named1 v1 (by simp [RepL, Rep, cells1]) (by simp [BdL, Bd])

/-! ### A memory that is so -/

def layCells (cs : Array Value) : Obj → Obj
  | .cells _ t frozen => .cells cs t frozen
  | o => o

noncomputable def laidWorld (os : Os) : World :=
  { World.holding Tryz.prog os ⟨#[], #[], []⟩ with heap := ((((((World.holding Tryz.prog os ⟨#[], #[], []⟩).heap.modify 4 (layCells cells4)).modify 3 (layCells cells3)).modify 5 (layCells cells5)).modify 1 (layCells cells1)).modify 0 (layCells cells0)) }

set_option maxRecDepth 100000 in
theorem laidWorld_met (os : Os) (args : Array Value)
    (r4 : ((laidWorld os).forCall (fun _ _ => 0) ⟨#[], args, []⟩).memory.heap[4]? = some (.cells cells4 169 (0, 0)))
    (r3 : ((laidWorld os).forCall (fun _ _ => 0) ⟨#[], args, []⟩).memory.heap[3]? = some (.cells cells3 169 (0, 0)))
    (r5 : ((laidWorld os).forCall (fun _ _ => 0) ⟨#[], args, []⟩).memory.heap[5]? = some (.cells cells5 170 (0, 0)))
    (r1 : ((laidWorld os).forCall (fun _ _ => 0) ⟨#[], args, []⟩).memory.heap[1]? = some (.cells cells1 127 (0, 0)))
    (r0 : ((laidWorld os).forCall (fun _ _ => 0) ⟨#[], args, []⟩).memory.heap[0]? = some (.cells cells0 76 (0, 0))) : laidMetH Tryz.prog laid ((laidWorld os).forCall (fun _ _ => 0) ⟨#[], args, []⟩).memory := by
  generalize ((laidWorld os).forCall (fun _ _ => 0) ⟨#[], args, []⟩).memory = W at *
  have v4 : W.var? Tryz.prog "math._sin" = some cells4 := by simp only [World.var?, named4, Option.bind_some, r4]
  have v3 : W.var? Tryz.prog "math._cos" = some cells3 := by simp only [World.var?, named3, Option.bind_some, r3]
  have v5 : W.var? Tryz.prog "math.mPi4" = some cells5 := by simp only [World.var?, named5, Option.bind_some, r5]
  have v1 : W.var? Tryz.prog "skyway/phrase.words" = some cells1 := by simp only [World.var?, named1, Option.bind_some, r1]
  have v0 : W.var? Tryz.prog "skyway/phrase.most" = some cells0 := by simp only [World.var?, named0, Option.bind_some, r0]
  show laidMet Tryz.prog laid W
  refine ⟨_, ⟨4, 169, cells4, 8, [], _, named4, gtype4, v4, ?_, ⟨3, 169, cells3, 8, [], _, named3, gtype3, v3, ?_, ⟨5, 170, cells5, 8, [], _, named5, gtype5, v5, ?_, ⟨1, 127, cells1, 8, [], _, named1, gtype1, v1, ?_, ⟨0, 76, cells0, 8, [], [], named0, gtype0, v0, ?_, rfl, rfl⟩, rfl⟩, rfl⟩, rfl⟩, rfl⟩, by decide, fun b off h => ?_⟩
  · kernel_rfl
  · kernel_rfl
  · kernel_rfl
  · kernel_rfl
  · kernel_rfl
  · have h' : MemPlace.cell b off ∈ [MemPlace.cell 4 0, .cell 4 1, .cell 4 2, .cell 4 3, .cell 4 4, .cell 4 5, .cell 3 0, .cell 3 1, .cell 3 2, .cell 3 3, .cell 3 4, .cell 3 5, .cell 5 0, .cell 5 1, .cell 5 2, .cell 5 3, .cell 5 4, .cell 5 5, .cell 5 6, .cell 5 7, .cell 5 8, .cell 5 9, .cell 5 10, .cell 5 11, .cell 5 12, .cell 5 13, .cell 5 14, .cell 5 15, .cell 5 16, .cell 5 17, .cell 5 18, .cell 5 19, .cell 1 0, .cell 1 1, .cell 1 2, .cell 1 3, .cell 1 4, .cell 1 5, .cell 1 6, .cell 0 0, .cell 0 1, .cell 0 2] := h
    have hb : b = 4 ∨ b = 3 ∨ b = 5 ∨ b = 1 ∨ b = 0 := by
      simp at h'
      omega
    rcases hb with rfl | rfl | rfl | rfl | rfl
    · refine ⟨⟨_, _, r4⟩, fun u v hc => ?_⟩
      simp only [World.cell?, r4] at hc
      simp at h'
      rcases h' with rfl | rfl | rfl | rfl | rfl | rfl <;> simp [cells4] at hc
    · refine ⟨⟨_, _, r3⟩, fun u v hc => ?_⟩
      simp only [World.cell?, r3] at hc
      simp at h'
      rcases h' with rfl | rfl | rfl | rfl | rfl | rfl <;> simp [cells3] at hc
    · refine ⟨⟨_, _, r5⟩, fun u v hc => ?_⟩
      simp only [World.cell?, r5] at hc
      simp at h'
      rcases h' with rfl | rfl | rfl | rfl | rfl | rfl | rfl | rfl | rfl | rfl | rfl | rfl | rfl | rfl | rfl | rfl | rfl | rfl | rfl | rfl <;> simp [cells5] at hc
    · refine ⟨⟨_, _, r1⟩, fun u v hc => ?_⟩
      simp only [World.cell?, r1] at hc
      simp at h'
      rcases h' with rfl | rfl | rfl | rfl | rfl | rfl | rfl <;> simp [cells1] at hc
    · refine ⟨⟨_, _, r0⟩, fun u v hc => ?_⟩
      simp only [World.cell?, r0] at hc
      simp at h'
      rcases h' with rfl | rfl | rfl <;> simp [cells0] at hc

end Go.Proofs.YtpgnhohclpjfiaaGreatDoor.RT
