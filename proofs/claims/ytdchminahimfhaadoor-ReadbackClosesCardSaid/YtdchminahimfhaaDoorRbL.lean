/- What is proved here: where the listed package variables read as listed, the memory holds the tables; some memory is so. They ask nothing. -/
import Derived.Test.YtdchminahimfhaaDoorRows
import Derived.Test.YtdchminahimfhaaDoorRbT
import Derived.Test.YtdchminahimfhaaDoorRc
import Derived.ChangeSame
import Derived.JoinedOf
import Derived.RowKit
import Derived.ProofKit
namespace Go.Proofs.YtdchminahimfhaaDoor.RT
open Go Go.R Go.Proofs Go.ChangeShapes Go.WideShapes Go.RowKit

theorem words_named : Tryd.prog.globalNamed "skyway/phrase.words" = some 1 := by kernel_rfl
theorem words_type : (Tryd.prog.globals[1]?).map (·.type) = some 60 := by kernel_rfl
theorem most_named : Tryd.prog.globalNamed "skyway/phrase.most" = some 0 := by kernel_rfl
theorem most_type : (Tryd.prog.globals[0]?).map (·.type) = some 56 := by kernel_rfl
theorem under60 : Tryd.prog.underlying 60 = some (.array 7 9) := by kernel_rfl
theorem under56 : Tryd.prog.underlying 56 = some (.array 3 3) := by kernel_rfl
theorem under9 : Tryd.prog.underlying 9 = some .string := by kernel_rfl
theorem under3 : Tryd.prog.underlying 3 = some (.int .i64) := by kernel_rfl
theorem cells60 : Tryd.prog.cellsOf 60 = 7 := by kernel_rfl
theorem cells56 : Tryd.prog.cellsOf 56 = 3 := by kernel_rfl
theorem cells9 : Tryd.prog.cellsOf 9 = 1 := by kernel_rfl
theorem cells3 : Tryd.prog.cellsOf 3 = 1 := by kernel_rfl

def cellsW : Array Value := #[.string ⟨#[72, 69, 73, 71, 72, 84]⟩, .string ⟨#[72, 69, 65, 68, 73, 78, 71]⟩, .string ⟨#[83, 80, 69, 69, 68]⟩, .string ⟨#[68, 73, 82, 69, 67, 84]⟩, .string ⟨#[72, 79, 76, 68]⟩, .string ⟨#[67, 79, 78, 84, 65, 67, 84]⟩, .string ⟨#[76, 65, 78, 68]⟩]
def cellsM : Array Value := #[.int .i64 60000, .int .i64 4095, .int .i64 400]

theorem int_of_trod {H : Type} {enc : TypeId × Value → H} {P : Program} {w : World} {base : Nat} {sp : Nat → Bool} {held : Bool} {fuel : Nat} {t : TypeId} {k : IntKind} {c : Value} {y : DataW H × List MemPlace}
    (ht : P.underlying t = some (.int k)) (h : DataW.trod enc P w base sp held fuel t [c] = some y) : ∃ n, c = .int k n ∧ y = (.lit (.int k n), []) := by
  cases fuel with
  | zero => simp [DataW.trod] at h
  | succ fuel =>
    cases c <;> simp [DataW.trod, ht] at h
    rename_i k' n
    obtain ⟨⟨rfl, _⟩, rfl⟩ := h
    exact ⟨n, rfl, rfl⟩

theorem str_of_trod {H : Type} {enc : TypeId × Value → H} {P : Program} {w : World} {base : Nat} {sp : Nat → Bool} {held : Bool} {fuel : Nat} {t : TypeId} {c : Value} {y : DataW H × List MemPlace}
    (ht : P.underlying t = some .string) (h : DataW.trod enc P w base sp held fuel t [c] = some y) : ∃ s : ByteArray, c = .string s ∧ y = (.lit (.string s.data.toList), []) := by
  cases fuel with
  | zero => simp [DataW.trod] at h
  | succ fuel =>
    cases c <;> simp [DataW.trod, ht] at h
    rename_i s
    obtain ⟨_, rfl⟩ := h
    exact ⟨s, rfl, rfl⟩

theorem back_str {s : ByteArray} {l : List UInt8} (h : s.data.toList = l) : s = ⟨l.toArray⟩ := by
  subst h
  rfl

def laid : List (String × DataW Unit) := [("skyway/phrase.words", Rows.laid_skyway_phrase_words), ("skyway/phrase.most", Rows.laid_skyway_phrase_most)]

theorem of_laid {W : World} (h : laidMetH Tryd.prog laid W) : W.var? Tryd.prog "skyway/phrase.words" = some cellsW ∧ W.var? Tryd.prog "skyway/phrase.most" = some cellsM := by
  have h : laidMet Tryd.prog laid W := h
  obtain ⟨ps, ⟨g, t, cs, fuel, p, q, hg, ht, hvar, hd, ⟨g', t', cs', fuel', p', q', hg', ht', hvar', hd', _, _⟩, _⟩, _⟩ := h
  obtain rfl := Option.some.inj (words_named.symm.trans hg)
  obtain rfl := Option.some.inj (words_type.symm.trans ht)
  obtain rfl := Option.some.inj (most_named.symm.trans hg')
  obtain rfl := Option.some.inj (most_type.symm.trans ht')
  refine ⟨?_, ?_⟩
  · rw [hvar]
    congr 1
    obtain ⟨l⟩ := cs
    cases fuel with
    | zero => simp [DataW.trod] at hd
    | succ fuel =>
      simp only [DataW.trod, under60, cells60, cells9] at hd
      split at hd
      · rename_i hl
        obtain ⟨c0, c1, c2, c3, c4, c5, c6, rfl⟩ : ∃ c0 c1 c2 c3 c4 c5 c6, l = [c0, c1, c2, c3, c4, c5, c6] := by
          match l, hl with
          | [a, b, c, d, e, f, g], _ => exact ⟨a, b, c, d, e, f, g, rfl⟩
        have e : List.range 7 = [0, 1, 2, 3, 4, 5, 6] := rfl
        rw [e] at hd
        simp only [Option.map_eq_some_iff, List.mapM_cons, List.mapM_nil, Option.bind_eq_bind, Option.bind_eq_some_iff, Option.pure_def, Option.some.injEq] at hd
        obtain ⟨xs, ⟨y0, h0, _, ⟨y1, h1, _, ⟨y2, h2, _, ⟨y3, h3, _, ⟨y4, h4, _, ⟨y5, h5, _, ⟨y6, h6, _, rfl, rfl⟩, rfl⟩, rfl⟩, rfl⟩, rfl⟩, rfl⟩, rfl⟩, hx⟩ := hd
        obtain ⟨n0, rfl, rfl⟩ := str_of_trod under9 h0
        obtain ⟨n1, rfl, rfl⟩ := str_of_trod under9 h1
        obtain ⟨n2, rfl, rfl⟩ := str_of_trod under9 h2
        obtain ⟨n3, rfl, rfl⟩ := str_of_trod under9 h3
        obtain ⟨n4, rfl, rfl⟩ := str_of_trod under9 h4
        obtain ⟨n5, rfl, rfl⟩ := str_of_trod under9 h5
        obtain ⟨n6, rfl, rfl⟩ := str_of_trod under9 h6
        simp only [Rows.laid_skyway_phrase_words, List.map_cons, List.map_nil, Prod.mk.injEq, DataW.agg.injEq, List.cons.injEq, DataW.lit.injEq, Lit.string.injEq, and_true] at hx
        obtain ⟨⟨e0, e1, e2, e3, e4, e5, e6⟩, _⟩ := hx
        rw [back_str e0, back_str e1, back_str e2, back_str e3, back_str e4, back_str e5, back_str e6]
        rfl
      · cases hd
  · rw [hvar']
    congr 1
    obtain ⟨l⟩ := cs'
    cases fuel' with
    | zero => simp [DataW.trod] at hd'
    | succ fuel =>
      simp only [DataW.trod, under56, cells56, cells3] at hd'
      split at hd'
      · rename_i hl
        obtain ⟨c0, c1, c2, rfl⟩ : ∃ c0 c1 c2, l = [c0, c1, c2] := by
          match l, hl with
          | [a, b, c], _ => exact ⟨a, b, c, rfl⟩
        have e : List.range 3 = [0, 1, 2] := rfl
        rw [e] at hd'
        simp only [Option.map_eq_some_iff, List.mapM_cons, List.mapM_nil, Option.bind_eq_bind, Option.bind_eq_some_iff, Option.pure_def, Option.some.injEq] at hd'
        obtain ⟨xs, ⟨y0, h0, _, ⟨y1, h1, _, ⟨y2, h2, _, rfl, rfl⟩, rfl⟩, rfl⟩, hx⟩ := hd'
        obtain ⟨n0, rfl, rfl⟩ := int_of_trod under3 h0
        obtain ⟨n1, rfl, rfl⟩ := int_of_trod under3 h1
        obtain ⟨n2, rfl, rfl⟩ := int_of_trod under3 h2
        simp [Rows.laid_skyway_phrase_most] at hx
        obtain ⟨⟨rfl, rfl, rfl⟩, _⟩ := hx
        rfl
      · cases hd'

theorem glob_ok {W : World} (h : laidMetH Tryd.prog laid W) : GlobOk (memOf W) gt := by
  obtain ⟨h1, h2⟩ := of_laid h
  intro g c hgc
  have fin : ∀ {n : String} {g : Nat} {c : List AV} {cs : Array Value}, Tryd.prog.globalNamed n = some g → W.var? Tryd.prog n = some cs → RepL (memOf W) (fun _ => none) (fun _ => none) c cs.toList → BdL (fun _ => False) c →
      Rep (memOf W) (fun _ => none) (fun _ => none) (.rptr c) (.pointer (some ⟨g, 0, none⟩)) ∧ BdL (fun _ => False) c := fun {n g c cs} hg hv hr hb => by
    refine ⟨?_, hb⟩
    simp only [Rep]
    refine ⟨_, cs.toList, rfl, rfl, hr, fun j u hu => ?_⟩
    rw [Nat.zero_add]
    unfold memOf
    rw [World.var?_cell hg hv j, ← Array.getElem?_toList]
    exact hu
  simp only [gt, List.mem_cons, List.not_mem_nil, or_false, Prod.mk.injEq] at hgc
  rcases hgc with ⟨rfl, rfl⟩ | ⟨rfl, rfl⟩
  · exact fin most_named h2 (by simp [RepL, Rep, cellsM]) (by simp [BdL, Bd])
  · exact fin words_named h1 (by simp [RepL, Rep, cellsW]) (by simp [BdL, Bd])

/-! ### A memory that is so -/

def layCells (cs : Array Value) : Obj → Obj
  | .cells _ t frozen => .cells cs t frozen
  | o => o

noncomputable def laidWorld (os : Os) : World :=
  { World.holding Tryd.prog os ⟨#[], #[], []⟩ with heap := ((World.holding Tryd.prog os ⟨#[], #[], []⟩).heap.modify 0 (layCells cellsM)).modify 1 (layCells cellsW) }

theorem laidWorld_met (os : Os) (args : Array Value)
    (r0 : ((laidWorld os).forCall (fun _ _ => 0) ⟨#[], args, []⟩).memory.heap[0]? = some (.cells cellsM 56 (0, 0)))
    (r1 : ((laidWorld os).forCall (fun _ _ => 0) ⟨#[], args, []⟩).memory.heap[1]? = some (.cells cellsW 60 (0, 0))) : laidMetH Tryd.prog laid ((laidWorld os).forCall (fun _ _ => 0) ⟨#[], args, []⟩).memory := by
  generalize ((laidWorld os).forCall (fun _ _ => 0) ⟨#[], args, []⟩).memory = W at *
  have v1 : W.var? Tryd.prog "skyway/phrase.words" = some cellsW := by simp only [World.var?, words_named, Option.bind_some, r1]
  have v0 : W.var? Tryd.prog "skyway/phrase.most" = some cellsM := by simp only [World.var?, most_named, Option.bind_some, r0]
  show laidMet Tryd.prog laid W
  refine ⟨_, ⟨1, 60, cellsW, 8, [], _, words_named, words_type, v1, ?_, ⟨0, 56, cellsM, 8, [], [], most_named, most_type, v0, ?_, rfl, rfl⟩, rfl⟩, by decide, fun b off h => ?_⟩
  · kernel_rfl
  · kernel_rfl
  · have h' : MemPlace.cell b off ∈ [MemPlace.cell 1 0, .cell 1 1, .cell 1 2, .cell 1 3, .cell 1 4, .cell 1 5, .cell 1 6, .cell 0 0, .cell 0 1, .cell 0 2] := h
    have hb : b = 1 ∨ b = 0 := by
      simp at h'
      omega
    rcases hb with rfl | rfl
    · refine ⟨⟨_, _, r1⟩, fun u v hc => ?_⟩
      simp only [World.cell?, r1] at hc
      simp at h'
      rcases h' with rfl | rfl | rfl | rfl | rfl | rfl | rfl <;> simp [cellsW] at hc
    · refine ⟨⟨_, _, r0⟩, fun u v hc => ?_⟩
      simp only [World.cell?, r0] at hc
      simp at h'
      rcases h' with rfl | rfl | rfl <;> simp [cellsM] at hc

end Go.Proofs.YtdchminahimfhaaDoor.RT
