/- What is proved here: functions of the library that change a row in its place, by the kit's contracts; a tool for the claim's proof. It asks nothing. -/
import Derived.Test.YtdchminahimfhaaRc
import Derived.Sort.Grow
import Derived.Shelf.SlicesE.Reverse
/- Rows that are changed in their place: a row as the kit's sort knows it. -/
namespace Go.R
open Go

section
variable {P : Program} {M : Mem} {w : World}

/-- An element of a row: the datum, its cells. -/
abbrev Elt (M : Mem) (t : Ty) (xs : List (Dat t)) : Type := { p : Dat t × List Value // RepS M t p.1 p.2 ∧ p.1 ∈ xs }

theorem elts_of_row {t : Ty} {xs : List (Dat t)} {cur : Array Value} (h : RowIn M t xs cur) : ∃ d : List (Elt M t xs), d.map (·.1.1) = xs ∧ ∀ (i : Nat) (p : Elt M t xs), d[i]? = some p → ∀ (j : Nat) (u : Value), p.1.2[j]? = some u → cur[i * t.sz + j]? = some u := by
  obtain ⟨d, hl, hd⟩ := list_choose (Q := fun i (p : Elt M t xs) => xs[i]? = some p.1.1 ∧ ∀ (j : Nat) (u : Value), p.1.2[j]? = some u → cur[i * t.sz + j]? = some u) xs.length fun i hi => by
    obtain ⟨cs, h1, h2⟩ := h i xs[i] (List.getElem?_eq_getElem hi)
    exact ⟨⟨(xs[i], cs), h1, List.getElem_mem hi⟩, List.getElem?_eq_getElem hi, h2⟩
  refine ⟨d, List.ext_getElem? fun i => ?_, fun i p hp => (hd i p hp).2⟩
  rw [List.getElem?_map]
  cases hp : d[i]? with
  | none =>
    rw [List.getElem?_eq_none_iff] at hp
    rw [Option.map_none, List.getElem?_eq_none_iff.2 (by omega)]
  | some p => rw [Option.map_some, (hd i p hp).1]

theorem cells_put {cur Fl : Array Value} (hs : Fl.size ≤ cur.size) {o : Nat} {u : Value} (h : Fl[o]? = some u) : (Sort.putCells id 0 Fl cur)[o]? = some u := by
  have ho : o < Fl.size := (Array.getElem?_eq_some_iff.1 h).1
  have e : Fl[o]! = u := by rw [getElem!_pos Fl o ho]; exact (Array.getElem?_eq_some_iff.1 h).2
  unfold Sort.putCells
  rw [Array.getElem?_mapIdx, Array.getElem?_eq_getElem (by omega)]
  simp only [Option.map_some, Nat.zero_le, Nat.zero_add, true_and, ho, if_true, Nat.sub_zero, id, e]

theorem heap_put {g : Nat} {cur Fl : Array Value} {e : TypeId} (hg : w.heap[g]? = some (.cells cur e (0, 0))) (n : Nat) (os : Array Obj) : (Sort.grow (Sort.putRow id (Sort.ahead w n) g 0 Fl) os).heap[g]? = some (.cells (Sort.putCells id 0 Fl cur) e (0, 0)) := by
  have hlt : g < w.heap.size := (Array.getElem?_eq_some_iff.1 hg).1
  rw [Sort.heap_grow_old _ _ (by rw [Sort.size_putRow]; exact hlt)]
  simp only [Sort.putRow, Sort.mapBlock, Array.getElem?_modify, if_true, Sort.heap_ahead, hg, Option.map_some, Sort.onCells]

theorem heap_put_other {g k : Nat} {Fl : Array Value} (hk : k ≠ g) (n : Nat) (os : Array Obj) (hlt : k < w.heap.size) : (Sort.grow (Sort.putRow id (Sort.ahead w n) g 0 Fl) os).heap[k]? = w.heap[k]? := by
  rw [Sort.heap_grow_old _ _ (by rw [Sort.size_putRow]; exact hlt)]
  simp only [Sort.putRow, Sort.mapBlock, Array.getElem?_modify, if_neg (Ne.symm hk), Sort.heap_ahead]

/-- A world that the sort goes through: all but the row is as it was. -/
theorem put_world (hm : MemOk M w) {g : Nat} (hM : ∀ o, M g o = none) (Fl : Array Value) (n : Nat) (os : Array Obj) :
    MemOk M (Sort.grow (Sort.putRow id (Sort.ahead w n) g 0 Fl) os) ∧ Kp w (Sort.grow (Sort.putRow id (Sort.ahead w n) g 0 Fl) os) (· ∈ [g]) := by
  refine ⟨fun b o v hv => ?_, rfl, rfl, rfl, ?_, Nat.le_add_right _ _, fun k hk hg => heap_put_other (by simpa using hg) n os hk⟩
  · have hb : b ≠ g := fun e => by subst e; rw [hM o] at hv; cases hv
    have h0 := hm b o v hv
    have hlt := hm.lt hv
    rw [← h0]
    exact World.cell?_of_block (a := ⟨b, o, none⟩) (heap_put_other hb n os hlt)
  · rw [Sort.size_grow, Sort.size_putRow]; exact Nat.le_add_right _ _

/-- The row behind it. -/
theorem put_row {g c : Nat} {cur Fl : Array Value} {e : TypeId} {t : Ty} (hg : w.heap[g]? = some (.cells cur e (0, 0))) (hM : ∀ o, M g o = none) (hpos : 0 < t.sz) {ys : List (Dat t)} (h1 : ys.length ≤ c) (h2 : c ≤ maxLen) (h3 : cur.size = c * t.sz) (hs : Fl.size ≤ cur.size)
    (hF : ∀ (i : Nat) (x : Dat t), ys[i]? = some x → ∃ cs, RepS M t x cs ∧ ∀ (j : Nat) (u : Value), cs[j]? = some u → Fl[i * t.sz + j]? = some u) (n : Nat) (os : Array Obj) :
    RowV M (Sort.grow (Sort.putRow id (Sort.ahead w n) g 0 Fl) os) (fun _ => True) e t ys (.slice (some ⟨g, 0, none⟩) ys.length c) [g] :=
  ⟨_, c, rfl, .inr ⟨g, _, rfl, rfl, trivial, hM, hpos, heap_put hg n os, h1, h2, by rw [← h3]; simp [Sort.putCells], fun i x hx => let ⟨cs, a, b⟩ := hF i x hx; ⟨cs, a, fun j u hu => cells_put hs (b j u hu)⟩⟩⟩

/-- The cells of the kit's row are those of ours. -/
theorem holds_row {g : Nat} {cur Fl : Array Value} {e : TypeId} (hg : w.heap[g]? = some (.cells cur e (0, 0))) (h : ∀ (o : Nat) (u : Value), Fl[o]? = some u → cur[o]? = some u) : Sort.Holds id w g 0 Fl := fun j hj => by
  refine ⟨?_, by simp only [World.frozen?, hg]; simp⟩
  have := h j Fl[j] (Array.getElem?_eq_getElem hj)
  simp only [World.cell?, hg, Nat.zero_add, Option.isSome_none, Bool.false_eq_true, if_false, this]
  rw [getElem!_pos Fl j hj]; rfl

/-! ### A sorted list -/

/-- A comparison: it tells an order. -/
structure CmpOk {α : Type} (cf : α → α → Int) : Prop where
  neg : ∀ x y, cf y x = - cf x y
  trans : ∀ x y z, cf x y < 0 → cf y z < 0 → cf x z < 0
  ntrans : ∀ x y z, 0 ≤ cf x y → 0 ≤ cf y z → 0 ≤ cf x z

/-- 'ys' is 'xs' in the order that 'cmp' tells, which parts all of them. -/
def SortedBy {α : Type} (cmp : α → α → Option Int) (xs ys : List α) : Prop :=
  xs.length < 4611686018427387904 ∧ ∃ cf : α → α → Int, CmpOk cf ∧ (∀ x ∈ xs, ∀ y ∈ xs, cmp x y = some (cf x y)) ∧ xs.Pairwise (fun x y => cf x y ≠ 0) ∧ ys.Perm xs ∧ ys.Pairwise (fun x y => cf x y < 0)

open Classical in
noncomputable def sortO {α : Type} (cmp : α → α → Option Int) (xs : List α) : Option (List α) := if h : ∃ ys, SortedBy cmp xs ys then some h.choose else none

theorem SortedBy.unique {α : Type} {cmp : α → α → Option Int} {xs ys zs : List α} (h : SortedBy cmp xs ys) (g : SortedBy cmp xs zs) : ys = zs := by
  obtain ⟨_, cf, c1, c2, c3, c4, c5⟩ := h
  obtain ⟨_, cg, d1, d2, d3, d4, d5⟩ := g
  refine List.Perm.eq_of_pairwise (le := fun x y => cf x y < 0) (fun a b _ _ h1 h2 => ?_) c5 (d5.imp_of_mem fun {a b} ha hb hab => ?_) (c4.trans d4.symm)
  · have := c1.neg a b; omega
  · have e1 := c2 a (d4.mem_iff.1 ha) b (d4.mem_iff.1 hb)
    rw [d2 a (d4.mem_iff.1 ha) b (d4.mem_iff.1 hb)] at e1
    rw [← Option.some.inj e1]
    exact hab

theorem sortO_some {α : Type} {cmp : α → α → Option Int} {xs ys : List α} (h : sortO cmp xs = some ys) : SortedBy cmp xs ys := by
  unfold sortO at h
  split at h
  · rename_i hx
    cases h
    exact hx.choose_spec
  · cases h

theorem sortO_eq {α : Type} {cmp : α → α → Option Int} {xs ys : List α} (h : SortedBy cmp xs ys) : sortO cmp xs = some ys := by
  unfold sortO
  rw [dif_pos ⟨ys, h⟩]
  exact congrArg some ((Exists.choose_spec (p := fun ys => SortedBy cmp xs ys) ⟨ys, h⟩).unique h)

/-- Whatever a comparison parts can be sorted. -/
theorem sorted_exists {α : Type} {cmp : α → α → Option Int} {cf : α → α → Int} (hc : CmpOk cf) {xs : List α} (hl : xs.length < 4611686018427387904) (he : ∀ x ∈ xs, ∀ y ∈ xs, cmp x y = some (cf x y)) (hd : xs.Pairwise (fun x y => cf x y ≠ 0)) : ∃ ys, SortedBy cmp xs ys := by
  have hp := List.mergeSort_perm xs (fun x y => decide (cf x y ≤ 0))
  refine ⟨xs.mergeSort fun x y => decide (cf x y ≤ 0), hl, cf, hc, he, hd, hp, ?_⟩
  have hs := List.pairwise_mergeSort (le := fun x y => decide (cf x y ≤ 0)) (fun a b c h1 h2 => by
    simp only [decide_eq_true_eq] at *
    have := hc.neg a c
    have := hc.neg a b
    have := hc.neg b c
    have := hc.ntrans c b a (by omega) (by omega)
    omega) (fun a b => by
    simp only [Bool.or_eq_true, decide_eq_true_eq]
    have := hc.neg a b
    omega) xs
  have hd2 := hd.perm hp.symm (fun {x y} h => by have := hc.neg x y; omega)
  refine (hs.and hd2).imp fun {x y} h => ?_
  have := of_decide_eq_true h.1
  have := h.2
  omega

end
end Go.R

/- slices.Reverse at elements of one cell, by the kit's contract, as a call that changes a row in its place. -/
namespace Go.R
open Go Go.Proofs Go.Shelf Go.RowKit Go.Sort

section
variable {P : Program} {gt : List (Nat × List AV)}

theorem rev_map {α : Type} [Inhabited α] (enc : α → Value) (w : World) (b o : Nat) (d : Array α) : putRow enc w b o d = putRow id w b o (d.map enc) := by
  unfold putRow
  congr 1
  funext c
  unfold putCells
  apply Array.ext_getElem?
  intro k
  simp only [Array.getElem?_mapIdx, Array.size_map]
  cases c[k]? with
  | none => rfl
  | some v =>
    simp only [Option.map_some]
    split
    · rename_i hk
      rw [getElem!_pos d (k - o) (by omega), getElem!_pos (d.map enc) (k - o) (by simpa using (by omega : k - o < d.size))]
      simp
    · rfl

/-- slices.Reverse. -/
def revCal (f : FuncId) (e : TypeId) (t : Ty) : MCal := ⟨f, e, t, none, [], fun xs _ => some (List.reverse xs)⟩

theorem rev1_ok {ρ : Ren} (L : SlLaysE.n35 P ρ) {e : TypeId} {t : Ty} (h1t : t.sz = 1) : MCalOk P gt (revCal (ρ.f 35) e t) := by
  refine ⟨L.f35.enters rfl, fun xs x ys h => by cases h; exact List.length_reverse, fun M w (xs : List (Dat t)) x v cvs gs (ys : List (Dat t)) hm hg hrow hargs hF => ?_⟩
  have hF : xs.reverse = ys := Option.some.inj hF
  subst hF
  change RowV M w (fun _ => True) e t xs v gs at hrow
  show Calls P (ρ.f 35) #[v] w fun e' w' => e' = .returned (.tuple #[]) ∧ MemOk M w' ∧ Kp w w' (· ∈ gs) ∧ RowV M w' (fun _ => True) e t xs.reverse v gs
  have hrow0 := hrow
  obtain ⟨A, c, rfl, hcase⟩ := hrow
  by_cases hx : xs = []
  · subst hx
    refine (AnyE.slices_Reverse_empty L A c w).mono fun e' w' h => ?_
    obtain ⟨rfl, rfl⟩ := h
    exact ⟨rfl, hm, Kp.refl _ _, hrow0⟩
  rcases hcase with ⟨_, h, _⟩ | ⟨gb, cur, rfl, rfl, _, hM, hpos, hgc, h1, h2, h3, h4⟩
  · exact absurd h hx
  obtain ⟨d, hdx, hdc⟩ := elts_of_row h4
  have hdl : d.length = xs.length := by have := congrArg List.length hdx; rwa [List.length_map] at this
  haveI : Inhabited (Elt M t xs) := ⟨d[0]'(by rw [hdl]; exact List.length_pos_iff.2 hx)⟩
  have hk : ∀ p : Elt M t xs, p.1.2.length = 1 := fun p => by rw [p.2.1.len, h1t]
  have hone : ∀ p : Elt M t xs, p.1.2 = [oneV false p.1.2] := fun p => by
    have := hk p
    match h : p.1.2, this with
    | [u], _ => rfl
  have hmem : ∀ p : Elt M t xs, oneV false p.1.2 ∈ p.1.2 := fun p => List.mem_of_getElem? (i := 0) (by
    have := congrArg (·[0]?) (hone p)
    exact this)
  have hH : Holds (fun p : Elt M t xs => oneV false p.1.2) w gb 0 d.toArray := fun j hj => by
    have hj' : j < d.length := by simpa using hj
    have hc0 := hdc j d[j] (List.getElem?_eq_getElem hj') 0 (oneV false d[j].1.2) (by rw [hone d[j]]; rfl)
    rw [h1t, Nat.mul_one, Nat.add_zero] at hc0
    refine ⟨?_, by simp only [World.frozen?, hgc]; simp⟩
    simp only [World.cell?, hgc, Nat.zero_add, Option.isSome_none, Bool.false_eq_true, if_false, hc0]
    rw [getElem!_pos d.toArray j hj]
    rfl
  have hcon := AnyE.slices_Reverse L (fun p : Elt M t xs => oneV false p.1.2) (fun p => p.2.1.one _ (hmem p)) gb 0 c d w hH (by rw [hdl]; exact Nat.le_trans h1 h2)
  rw [hdl] at hcon
  refine hcon.mono fun e' w' h => ?_
  obtain ⟨rfl, n, rfl⟩ := h
  have hw := put_world hm hM (d.reverse.toArray.map fun p : Elt M t xs => oneV false p.1.2) n #[]
  rw [rev_map]
  rw [grow_empty] at hw
  refine ⟨rfl, hw.1, hw.2, ?_⟩
  have hr := put_row (c := c) (ys := xs.reverse) (Fl := d.reverse.toArray.map fun p : Elt M t xs => oneV false p.1.2) hgc hM hpos (by rw [List.length_reverse]; exact h1) h2 h3 (by rw [Array.size_map, List.size_toArray, List.length_reverse, hdl, h3, h1t, Nat.mul_one]; exact h1) (fun i y hy => by
    have hy2 : (d.reverse.map (·.1.1))[i]? = some y := by rw [← hy, List.map_reverse, hdx]
    rw [List.getElem?_map] at hy2
    cases hq : d.reverse[i]? with
    | none => rw [hq] at hy2; cases hy2
    | some p =>
      rw [hq] at hy2
      cases hy2
      refine ⟨p.1.2, p.2.1, fun j u hu => ?_⟩
      have hj : j = 0 := by have := (List.getElem?_eq_some_iff.1 hu).1; have := hk p; omega
      subst hj
      rw [hone p] at hu
      rw [h1t, Nat.mul_one, Nat.add_zero, Array.getElem?_map, show d.reverse.toArray[i]? = some p by simpa using hq]
      simpa using hu) n #[]
  rw [grow_empty, List.length_reverse] at hr
  exact hr

end
end Go.R
