/- What is proved here: where the listed package variables read as listed, the memory holds the tables; some memory is so. They ask nothing. -/
import Derived.Test.YteeemhihbepppaaDoorRows
import Derived.Test.YteeemhihbepppaaDoorPhT
import Derived.Test.YteeemhihbepppaaDoorRc
import Derived.ChangeSame
import Derived.JoinedOf
import Derived.RowKit
import Derived.ProofKit
import Derived.Lay
namespace Go.Proofs.YteeemhihbepppaaDoor.RT
open Go Go.R Go.Proofs Go.ChangeShapes Go.WideShapes Go.RowKit

theorem named5 : Tryd.prog.globalNamed "internal/strconv.uint64pow10" = some 5 := by kernel_rfl
theorem gtype5 : (Tryd.prog.globals[5]?).map (·.type) = some 99 := by kernel_rfl
def cells5 : Array Value := #[.int .u64 1, .int .u64 10, .int .u64 100, .int .u64 1000, .int .u64 10000, .int .u64 100000, .int .u64 1000000, .int .u64 10000000, .int .u64 100000000, .int .u64 1000000000, .int .u64 10000000000, .int .u64 100000000000, .int .u64 1000000000000, .int .u64 10000000000000, .int .u64 100000000000000, .int .u64 1000000000000000, .int .u64 10000000000000000, .int .u64 100000000000000000, .int .u64 1000000000000000000, .int .u64 10000000000000000000]
theorem gunder5 : Tryd.prog.underlying 99 = some (.array 20 85) := by kernel_rfl
theorem eunder5 : Tryd.prog.underlying 85 = some (.int .u64) := by kernel_rfl
theorem gsz5 : Tryd.prog.cellsOf 99 = 20 := by kernel_rfl
theorem esz5 : Tryd.prog.cellsOf 85 = 1 := by kernel_rfl
theorem named4 : Tryd.prog.globalNamed "strconv.ErrRange" = some 4 := by kernel_rfl
theorem gtype4 : (Tryd.prog.globals[4]?).map (·.type) = some 61 := by kernel_rfl
theorem named3 : Tryd.prog.globalNamed "strconv.ErrSyntax" = some 3 := by kernel_rfl
theorem gtype3 : (Tryd.prog.globals[3]?).map (·.type) = some 61 := by kernel_rfl
theorem named1 : Tryd.prog.globalNamed "skyway/phrase.words" = some 1 := by kernel_rfl
theorem gtype1 : (Tryd.prog.globals[1]?).map (·.type) = some 56 := by kernel_rfl
def cells1 : Array Value := #[.string ⟨#[72, 69, 73, 71, 72, 84]⟩, .string ⟨#[72, 69, 65, 68, 73, 78, 71]⟩, .string ⟨#[83, 80, 69, 69, 68]⟩, .string ⟨#[68, 73, 82, 69, 67, 84]⟩, .string ⟨#[72, 79, 76, 68]⟩, .string ⟨#[67, 79, 78, 84, 65, 67, 84]⟩, .string ⟨#[76, 65, 78, 68]⟩]
theorem gunder1 : Tryd.prog.underlying 56 = some (.array 7 9) := by kernel_rfl
theorem eunder1 : Tryd.prog.underlying 9 = some (.string) := by kernel_rfl
theorem gsz1 : Tryd.prog.cellsOf 56 = 7 := by kernel_rfl
theorem esz1 : Tryd.prog.cellsOf 9 = 1 := by kernel_rfl
theorem named0 : Tryd.prog.globalNamed "skyway/phrase.most" = some 0 := by kernel_rfl
theorem gtype0 : (Tryd.prog.globals[0]?).map (·.type) = some 55 := by kernel_rfl
def cells0 : Array Value := #[.int .i64 60000, .int .i64 4095, .int .i64 400]
theorem gunder0 : Tryd.prog.underlying 55 = some (.array 3 3) := by kernel_rfl
theorem eunder0 : Tryd.prog.underlying 3 = some (.int .i64) := by kernel_rfl
theorem gsz0 : Tryd.prog.cellsOf 55 = 3 := by kernel_rfl
theorem esz0 : Tryd.prog.cellsOf 3 = 1 := by kernel_rfl

theorem int_of_trod {H : Type} {enc : TypeId × Value → H} {P : Program} {w : World} {base : Nat} {sp : Nat → Bool} {held : Bool} {fuel : Nat} {t : TypeId} {k : IntKind} {c : Value} {y : DataW H × List MemPlace}
    (ht : P.underlying t = some (.int k)) (h : DataW.trod enc P w base sp held fuel t [c] = some y) : ∃ n, c = .int k n ∧ y = (.lit (.int k n), []) := by
  cases fuel with
  | zero => simp [DataW.trod] at h
  | succ fuel =>
    cases c <;> simp [DataW.trod, ht] at h
    rename_i k' n
    obtain ⟨⟨rfl, _⟩, rfl⟩ := h
    exact ⟨n, rfl, rfl⟩

theorem str_of_trod {H : Type} {enc : TypeId × Value → H} {P : Program} {w : World} {base : Nat} {sp : Nat → Bool} {held : Bool} {fuel : Nat} {t : TypeId} {c : Value} {y : DataW H × List MemPlace}
    (ht : P.underlying t = some .string) (h : DataW.trod enc P w base sp held fuel t [c] = some y) : ∃ s : ByteArray, c = .string s ∧ y = (.lit (.string s.data.toList), []) := by
  cases fuel with
  | zero => simp [DataW.trod] at h
  | succ fuel =>
    cases c <;> simp [DataW.trod, ht] at h
    rename_i s
    obtain ⟨_, rfl⟩ := h
    exact ⟨s, rfl, rfl⟩

theorem back_str {s : ByteArray} {l : List UInt8} (h : s.data.toList = l) : s = ⟨l.toArray⟩ := by
  subst h
  rfl

theorem iface_of_trod {H : Type} {enc : TypeId × Value → H} {P : Program} {w : World} {base : Nat} {sp : Nat → Bool} {fuel : Nat} {t : TypeId} {ms : Array (String × TypeId)} {cs : Array Value} {nm : String} {d : DataW H} {p : List MemPlace}
    (ht : P.underlying t = some (.interface ms)) (h : DataW.trod enc P w base sp false fuel t cs.toList = some (.iface nm d, p)) : ∃ u v, cs = #[.iface u v] := by
  cases fuel with
  | zero => simp [DataW.trod] at h
  | succ fuel =>
    obtain ⟨l⟩ := cs
    change DataW.trod enc P w base sp false (fuel + 1) t l = some (.iface nm d, p) at h
    rcases l with _ | ⟨c, _ | ⟨c2, r⟩⟩
    · simp [DataW.trod, ht] at h
    · cases c <;> simp [DataW.trod, ht] at h
      rename_i u v
      exact ⟨u, v, rfl⟩
    · simp [DataW.trod, ht] at h

def laid : List (String × DataW Unit) := [("math/bits.deBruijn32tab", Rows.laid_math_bits_deBruijn32tab), ("math/bits.deBruijn64tab", Rows.laid_math_bits_deBruijn64tab), ("internal/strconv.uint64pow10", Rows.laid_internal_strconv_uint64pow10), ("unicode/utf8.acceptRanges", Rows.laid_unicode_utf8_acceptRanges), ("strconv.ErrRange", Rows.laid_strconv_ErrRange), ("strconv.ErrSyntax", Rows.laid_strconv_ErrSyntax), ("skyway/phrase.words", Rows.laid_skyway_phrase_words), ("skyway/phrase.most", Rows.laid_skyway_phrase_most), ("unicode/utf8.first", Rows.laid_unicode_utf8_first)]

theorem of_laid {W : World} (h : laidMetH Tryd.prog laid W) : W.var? Tryd.prog "internal/strconv.uint64pow10" = some cells5 ∧ (∃ u v, W.var? Tryd.prog "strconv.ErrRange" = some #[.iface u v]) ∧ (∃ u v, W.var? Tryd.prog "strconv.ErrSyntax" = some #[.iface u v]) ∧ W.var? Tryd.prog "skyway/phrase.words" = some cells1 ∧ W.var? Tryd.prog "skyway/phrase.most" = some cells0 := by
  have h : laidMet Tryd.prog laid W := h
  obtain ⟨ps, ⟨g8, t8, cs8, fuel8, p8, q8, hg8, ht8, hvar8, hd8, ⟨g9, t9, cs9, fuel9, p9, q9, hg9, ht9, hvar9, hd9, ⟨g5, t5, cs5, fuel5, p5, q5, hg5, ht5, hvar5, hd5, ⟨g7, t7, cs7, fuel7, p7, q7, hg7, ht7, hvar7, hd7, ⟨g4, t4, cs4, fuel4, p4, q4, hg4, ht4, hvar4, hd4, ⟨g3, t3, cs3, fuel3, p3, q3, hg3, ht3, hvar3, hd3, ⟨g1, t1, cs1, fuel1, p1, q1, hg1, ht1, hvar1, hd1, ⟨g0, t0, cs0, fuel0, p0, q0, hg0, ht0, hvar0, hd0, ⟨g6, t6, cs6, fuel6, p6, q6, hg6, ht6, hvar6, hd6, _, _⟩, _⟩, _⟩, _⟩, _⟩, _⟩, _⟩, _⟩, _⟩, _⟩ := h
  obtain rfl := Option.some.inj (named5.symm.trans hg5)
  obtain rfl := Option.some.inj (gtype5.symm.trans ht5)
  obtain rfl := Option.some.inj (named4.symm.trans hg4)
  obtain rfl := Option.some.inj (gtype4.symm.trans ht4)
  obtain rfl := Option.some.inj (named3.symm.trans hg3)
  obtain rfl := Option.some.inj (gtype3.symm.trans ht3)
  obtain rfl := Option.some.inj (named1.symm.trans hg1)
  obtain rfl := Option.some.inj (gtype1.symm.trans ht1)
  obtain rfl := Option.some.inj (named0.symm.trans hg0)
  obtain rfl := Option.some.inj (gtype0.symm.trans ht0)
  refine ⟨?_, ?_, ?_, ?_, ?_⟩
  · rw [hvar5]
    congr 1
    obtain ⟨l⟩ := cs5
    cases fuel5 with
    | zero => simp [DataW.trod] at hd5
    | succ fuel =>
      simp only [DataW.trod, gunder5, gsz5, esz5] at hd5
      split at hd5
      · rename_i hl
        obtain ⟨c0, c1, c2, c3, c4, c5, c6, c7, c8, c9, c10, c11, c12, c13, c14, c15, c16, c17, c18, c19, rfl⟩ : ∃ c0 c1 c2 c3 c4 c5 c6 c7 c8 c9 c10 c11 c12 c13 c14 c15 c16 c17 c18 c19, l = [c0, c1, c2, c3, c4, c5, c6, c7, c8, c9, c10, c11, c12, c13, c14, c15, c16, c17, c18, c19] := by
          match l, hl with
          | [x0, x1, x2, x3, x4, x5, x6, x7, x8, x9, x10, x11, x12, x13, x14, x15, x16, x17, x18, x19], _ => exact ⟨x0, x1, x2, x3, x4, x5, x6, x7, x8, x9, x10, x11, x12, x13, x14, x15, x16, x17, x18, x19, rfl⟩
        have e : List.range 20 = [0, 1, 2, 3, 4, 5, 6, 7, 8, 9, 10, 11, 12, 13, 14, 15, 16, 17, 18, 19] := rfl
        rw [e] at hd5
        simp only [Option.map_eq_some_iff, List.mapM_cons, List.mapM_nil, Option.bind_eq_bind, Option.bind_eq_some_iff, Option.pure_def, Option.some.injEq] at hd5
        obtain ⟨xs, ⟨y0, h0, _, ⟨y1, h1, _, ⟨y2, h2, _, ⟨y3, h3, _, ⟨y4, h4, _, ⟨y5, h5, _, ⟨y6, h6, _, ⟨y7, h7, _, ⟨y8, h8, _, ⟨y9, h9, _, ⟨y10, h10, _, ⟨y11, h11, _, ⟨y12, h12, _, ⟨y13, h13, _, ⟨y14, h14, _, ⟨y15, h15, _, ⟨y16, h16, _, ⟨y17, h17, _, ⟨y18, h18, _, ⟨y19, h19, _, rfl, rfl⟩, rfl⟩, rfl⟩, rfl⟩, rfl⟩, rfl⟩, rfl⟩, rfl⟩, rfl⟩, rfl⟩, rfl⟩, rfl⟩, rfl⟩, rfl⟩, rfl⟩, rfl⟩, rfl⟩, rfl⟩, rfl⟩, rfl⟩, hx⟩ := hd5
        obtain ⟨n0, rfl, rfl⟩ := int_of_trod eunder5 h0
        obtain ⟨n1, rfl, rfl⟩ := int_of_trod eunder5 h1
        obtain ⟨n2, rfl, rfl⟩ := int_of_trod eunder5 h2
        obtain ⟨n3, rfl, rfl⟩ := int_of_trod eunder5 h3
        obtain ⟨n4, rfl, rfl⟩ := int_of_trod eunder5 h4
        obtain ⟨n5, rfl, rfl⟩ := int_of_trod eunder5 h5
        obtain ⟨n6, rfl, rfl⟩ := int_of_trod eunder5 h6
        obtain ⟨n7, rfl, rfl⟩ := int_of_trod eunder5 h7
        obtain ⟨n8, rfl, rfl⟩ := int_of_trod eunder5 h8
        obtain ⟨n9, rfl, rfl⟩ := int_of_trod eunder5 h9
        obtain ⟨n10, rfl, rfl⟩ := int_of_trod eunder5 h10
        obtain ⟨n11, rfl, rfl⟩ := int_of_trod eunder5 h11
        obtain ⟨n12, rfl, rfl⟩ := int_of_trod eunder5 h12
        obtain ⟨n13, rfl, rfl⟩ := int_of_trod eunder5 h13
        obtain ⟨n14, rfl, rfl⟩ := int_of_trod eunder5 h14
        obtain ⟨n15, rfl, rfl⟩ := int_of_trod eunder5 h15
        obtain ⟨n16, rfl, rfl⟩ := int_of_trod eunder5 h16
        obtain ⟨n17, rfl, rfl⟩ := int_of_trod eunder5 h17
        obtain ⟨n18, rfl, rfl⟩ := int_of_trod eunder5 h18
        obtain ⟨n19, rfl, rfl⟩ := int_of_trod eunder5 h19
        simp only [Rows.laid_internal_strconv_uint64pow10, List.map_cons, List.map_nil, Prod.mk.injEq, DataW.agg.injEq, List.cons.injEq, DataW.lit.injEq, Lit.int.injEq, true_and, and_true] at hx
        obtain ⟨⟨rfl, rfl, rfl, rfl, rfl, rfl, rfl, rfl, rfl, rfl, rfl, rfl, rfl, rfl, rfl, rfl, rfl, rfl, rfl, rfl⟩, _⟩ := hx
        rfl
      · cases hd5
  · obtain ⟨u, v, e⟩ := iface_of_trod Tryd.underlying61 hd4
    exact ⟨u, v, by rw [hvar4, e]⟩
  · obtain ⟨u, v, e⟩ := iface_of_trod Tryd.underlying61 hd3
    exact ⟨u, v, by rw [hvar3, e]⟩
  · rw [hvar1]
    congr 1
    obtain ⟨l⟩ := cs1
    cases fuel1 with
    | zero => simp [DataW.trod] at hd1
    | succ fuel =>
      simp only [DataW.trod, gunder1, gsz1, esz1] at hd1
      split at hd1
      · rename_i hl
        obtain ⟨c0, c1, c2, c3, c4, c5, c6, rfl⟩ : ∃ c0 c1 c2 c3 c4 c5 c6, l = [c0, c1, c2, c3, c4, c5, c6] := by
          match l, hl with
          | [x0, x1, x2, x3, x4, x5, x6], _ => exact ⟨x0, x1, x2, x3, x4, x5, x6, rfl⟩
        have e : List.range 7 = [0, 1, 2, 3, 4, 5, 6] := rfl
        rw [e] at hd1
        simp only [Option.map_eq_some_iff, List.mapM_cons, List.mapM_nil, Option.bind_eq_bind, Option.bind_eq_some_iff, Option.pure_def, Option.some.injEq] at hd1
        obtain ⟨xs, ⟨y0, h0, _, ⟨y1, h1, _, ⟨y2, h2, _, ⟨y3, h3, _, ⟨y4, h4, _, ⟨y5, h5, _, ⟨y6, h6, _, rfl, rfl⟩, rfl⟩, rfl⟩, rfl⟩, rfl⟩, rfl⟩, rfl⟩, hx⟩ := hd1
        obtain ⟨n0, rfl, rfl⟩ := str_of_trod eunder1 h0
        obtain ⟨n1, rfl, rfl⟩ := str_of_trod eunder1 h1
        obtain ⟨n2, rfl, rfl⟩ := str_of_trod eunder1 h2
        obtain ⟨n3, rfl, rfl⟩ := str_of_trod eunder1 h3
        obtain ⟨n4, rfl, rfl⟩ := str_of_trod eunder1 h4
        obtain ⟨n5, rfl, rfl⟩ := str_of_trod eunder1 h5
        obtain ⟨n6, rfl, rfl⟩ := str_of_trod eunder1 h6
        simp only [Rows.laid_skyway_phrase_words, List.map_cons, List.map_nil, Prod.mk.injEq, DataW.agg.injEq, List.cons.injEq, DataW.lit.injEq, Lit.string.injEq, and_true] at hx
        obtain ⟨⟨e0, e1, e2, e3, e4, e5, e6⟩, _⟩ := hx
        rw [back_str e0, back_str e1, back_str e2, back_str e3, back_str e4, back_str e5, back_str e6]
        rfl
      · cases hd1
  · rw [hvar0]
    congr 1
    obtain ⟨l⟩ := cs0
    cases fuel0 with
    | zero => simp [DataW.trod] at hd0
    | succ fuel =>
      simp only [DataW.trod, gunder0, gsz0, esz0] at hd0
      split at hd0
      · rename_i hl
        obtain ⟨c0, c1, c2, rfl⟩ : ∃ c0 c1 c2, l = [c0, c1, c2] := by
          match l, hl with
          | [x0, x1, x2], _ => exact ⟨x0, x1, x2, rfl⟩
        have e : List.range 3 = [0, 1, 2] := rfl
        rw [e] at hd0
        simp only [Option.map_eq_some_iff, List.mapM_cons, List.mapM_nil, Option.bind_eq_bind, Option.bind_eq_some_iff, Option.pure_def, Option.some.injEq] at hd0
        obtain ⟨xs, ⟨y0, h0, _, ⟨y1, h1, _, ⟨y2, h2, _, rfl, rfl⟩, rfl⟩, rfl⟩, hx⟩ := hd0
        obtain ⟨n0, rfl, rfl⟩ := int_of_trod eunder0 h0
        obtain ⟨n1, rfl, rfl⟩ := int_of_trod eunder0 h1
        obtain ⟨n2, rfl, rfl⟩ := int_of_trod eunder0 h2
        simp only [Rows.laid_skyway_phrase_most, List.map_cons, List.map_nil, Prod.mk.injEq, DataW.agg.injEq, List.cons.injEq, DataW.lit.injEq, Lit.int.injEq, true_and, and_true] at hx
        obtain ⟨⟨rfl, rfl, rfl⟩, _⟩ := hx
        rfl
      · cases hd0

theorem glob_ok {W : World} (h : laidMetH Tryd.prog laid W) : GlobOk (memOf W) gt := by
  obtain ⟨v5, ⟨u4, w4, v4⟩, ⟨u3, w3, v3⟩, v1, v0⟩ := of_laid h
  intro g c hgc
  have fin : ∀ {n : String} {g : Nat} {c : List AV} {cs : Array Value}, Tryd.prog.globalNamed n = some g → W.var? Tryd.prog n = some cs → RepL (memOf W) (fun _ => none) (fun _ => none) c cs.toList → BdL (fun _ => False) c → 0 < cs.size → cs.size = c.length →
      GlobAt (memOf W) g c := fun {n g c cs} hg hv hr hb h0 hl => by
    refine ⟨?_, hb, 0, cs[0], ?_, ?_⟩
    · simp only [Rep]
      refine ⟨_, cs.toList, rfl, rfl, hr, fun j u hu => ?_⟩
      rw [Nat.zero_add]
      unfold memOf
      rw [World.var?_cell hg hv j, ← Array.getElem?_toList]
      exact hu
    · unfold memOf
      rw [World.var?_cell hg hv 0]
      exact Array.getElem?_eq_getElem h0
    · unfold memOf
      rw [World.var?_cell hg hv c.length, ← hl]
      exact Array.getElem?_eq_none (Nat.le_refl _)
  simp only [gt, List.mem_cons, List.not_mem_nil, or_false, Prod.mk.injEq] at hgc
  rcases hgc with ⟨rfl, rfl⟩ | ⟨rfl, rfl⟩ | ⟨rfl, rfl⟩ | ⟨rfl, rfl⟩ | ⟨rfl, rfl⟩
  · exact fin named0 v0 (by simp [RepL, Rep, cells0]) (by simp [BdL, Bd]) (by decide) rfl
  · exact fin named1 v1 (by simp [RepL, Rep, cells1]) (by simp [BdL, Bd]) (by decide) rfl
  · exact fin named3 v3 (by simp [RepL, Rep]) (by simp [BdL, Bd]) (by simp) rfl
  · exact fin named4 v4 (by simp [RepL, Rep]) (by simp [BdL, Bd]) (by simp) rfl
  · exact fin named5 v5 (by simp [RepL, Rep, cells5]) (by simp [BdL, Bd]) (by decide) rfl

/-! ### A memory that is so -/

noncomputable def laidWorld (os : Os) : World := World.laidAll Tryd.prog os laid

theorem laidWorld_met (os : Os) (args : Array Value) : laidMetH Tryd.prog laid ((laidWorld os).forCall (fun _ _ => 0) ⟨#[], args, []⟩).memory := by
  show laidMet Tryd.prog laid ((World.laidAll Tryd.prog os laid).forCall (fun _ _ => 0) ⟨#[], args, []⟩).memory
  exact laidMet_laidAll args (by kernel_rfl) (by kernel_rfl)


end Go.Proofs.YteeemhihbepppaaDoor.RT
