/- What is proved here: functions of the library that change a row in its place, by the kit's contracts; a tool for the claim's proof. It asks nothing. -/
import Derived.Test.YtkcphennphabgaaRc
import Derived.Sort.Grow
import Derived.Shelf.Small.Strs
import Derived.Shelf.SlSortCmp.NoneTotal
import Derived.Shelf.Sort.Plain
import Derived.Shelf.Slices.In.SortNone
/- Rows that are changed in their place: a row as the kit's sort knows it. -/
namespace Go.R
open Go

section
variable {P : Program} {M : Mem} {w : World}

/-- An element of a row: the datum, its cells. -/
abbrev Elt (M : Mem) (t : Ty) (xs : List (Dat t)) : Type := { p : Dat t × List Value // RepS M t p.1 p.2 ∧ p.1 ∈ xs }

theorem elts_of_row {t : Ty} {xs : List (Dat t)} {cur : Array Value} (h : RowIn M t xs cur) : ∃ d : List (Elt M t xs), d.map (·.1.1) = xs ∧ ∀ (i : Nat) (p : Elt M t xs), d[i]? = some p → ∀ (j : Nat) (u : Value), p.1.2[j]? = some u → cur[i * t.sz + j]? = some u := by
  obtain ⟨d, hl, hd⟩ := list_choose (Q := fun i (p : Elt M t xs) => xs[i]? = some p.1.1 ∧ ∀ (j : Nat) (u : Value), p.1.2[j]? = some u → cur[i * t.sz + j]? = some u) xs.length fun i hi => by
    obtain ⟨cs, h1, h2⟩ := h i xs[i] (List.getElem?_eq_getElem hi)
    exact ⟨⟨(xs[i], cs), h1, List.getElem_mem hi⟩, List.getElem?_eq_getElem hi, h2⟩
  refine ⟨d, List.ext_getElem? fun i => ?_, fun i p hp => (hd i p hp).2⟩
  rw [List.getElem?_map]
  cases hp : d[i]? with
  | none =>
    rw [List.getElem?_eq_none_iff] at hp
    rw [Option.map_none, List.getElem?_eq_none_iff.2 (by omega)]
  | some p => rw [Option.map_some, (hd i p hp).1]

theorem cells_put {cur Fl : Array Value} (hs : Fl.size ≤ cur.size) {o : Nat} {u : Value} (h : Fl[o]? = some u) : (Sort.putCells id 0 Fl cur)[o]? = some u := by
  have ho : o < Fl.size := (Array.getElem?_eq_some_iff.1 h).1
  have e : Fl[o]! = u := by rw [getElem!_pos Fl o ho]; exact (Array.getElem?_eq_some_iff.1 h).2
  unfold Sort.putCells
  rw [Array.getElem?_mapIdx, Array.getElem?_eq_getElem (by omega)]
  simp only [Option.map_some, Nat.zero_le, Nat.zero_add, true_and, ho, if_true, Nat.sub_zero, id, e]

theorem heap_put {g : Nat} {cur Fl : Array Value} {e : TypeId} (hg : w.heap[g]? = some (.cells cur e (0, 0))) (n : Nat) (os : Array Obj) : (Sort.grow (Sort.putRow id (Sort.ahead w n) g 0 Fl) os).heap[g]? = some (.cells (Sort.putCells id 0 Fl cur) e (0, 0)) := by
  have hlt : g < w.heap.size := (Array.getElem?_eq_some_iff.1 hg).1
  rw [Sort.heap_grow_old _ _ (by rw [Sort.size_putRow]; exact hlt)]
  simp only [Sort.putRow, Sort.mapBlock, Array.getElem?_modify, if_true, Sort.heap_ahead, hg, Option.map_some, Sort.onCells]

theorem heap_put_other {g k : Nat} {Fl : Array Value} (hk : k ≠ g) (n : Nat) (os : Array Obj) (hlt : k < w.heap.size) : (Sort.grow (Sort.putRow id (Sort.ahead w n) g 0 Fl) os).heap[k]? = w.heap[k]? := by
  rw [Sort.heap_grow_old _ _ (by rw [Sort.size_putRow]; exact hlt)]
  simp only [Sort.putRow, Sort.mapBlock, Array.getElem?_modify, if_neg (Ne.symm hk), Sort.heap_ahead]

/-- A world that the sort goes through: all but the row is as it was. -/
theorem put_world (hm : MemOk M w) {g : Nat} (hM : ∀ o, M g o = none) (Fl : Array Value) (n : Nat) (os : Array Obj) :
    MemOk M (Sort.grow (Sort.putRow id (Sort.ahead w n) g 0 Fl) os) ∧ Kp w (Sort.grow (Sort.putRow id (Sort.ahead w n) g 0 Fl) os) (· ∈ [g]) := by
  refine ⟨fun b o v hv o' => ?_, rfl, rfl, rfl, ?_, DrawLe.of (Nat.le_add_right _ _), fun k hk hg => heap_put_other (by simpa using hg) n os hk⟩
  · have hb : b ≠ g := fun e => by subst e; rw [hM o] at hv; cases hv
    have h0 := hm b o v hv o'
    have hlt := hm.lt hv
    rw [← h0]
    exact World.cell?_of_block (a := ⟨b, o', none⟩) (heap_put_other hb n os hlt)
  · rw [Sort.size_grow, Sort.size_putRow]; exact Nat.le_add_right _ _

/-- The row behind it. -/
theorem put_row {g c : Nat} {cur Fl : Array Value} {e : TypeId} {t : Ty} (hg : w.heap[g]? = some (.cells cur e (0, 0))) (hM : ∀ o, M g o = none) (hpos : 0 < t.sz) {ys : List (Dat t)} (h1 : ys.length ≤ c) (h2 : c ≤ maxLen) (h3 : cur.size = c * t.sz) (hs : Fl.size ≤ cur.size)
    (hF : ∀ (i : Nat) (x : Dat t), ys[i]? = some x → ∃ cs, RepS M t x cs ∧ ∀ (j : Nat) (u : Value), cs[j]? = some u → Fl[i * t.sz + j]? = some u) (n : Nat) (os : Array Obj) :
    RowV M (Sort.grow (Sort.putRow id (Sort.ahead w n) g 0 Fl) os) (fun _ => True) e t ys (.slice (some ⟨g, 0, none⟩) ys.length c) [g] :=
  ⟨_, c, rfl, .inr ⟨g, _, rfl, rfl, trivial, hM, hpos, heap_put hg n os, h1, h2, by rw [← h3]; simp [Sort.putCells], fun i x hx => let ⟨cs, a, b⟩ := hF i x hx; ⟨cs, a, fun j u hu => cells_put hs (b j u hu)⟩⟩⟩

/-- The cells of the kit's row are those of ours. -/
theorem holds_row {g : Nat} {cur Fl : Array Value} {e : TypeId} (hg : w.heap[g]? = some (.cells cur e (0, 0))) (h : ∀ (o : Nat) (u : Value), Fl[o]? = some u → cur[o]? = some u) : Sort.Holds id w g 0 Fl := fun j hj => by
  refine ⟨?_, by simp only [World.frozen?, hg]; simp⟩
  have := h j Fl[j] (Array.getElem?_eq_getElem hj)
  simp only [World.cell?, hg, Nat.zero_add, Option.isSome_none, Bool.false_eq_true, if_false, this]
  rw [getElem!_pos Fl j hj]; rfl

/-! ### A sorted list -/

/-- A comparison: it tells an order. -/
structure CmpOk {α : Type} (cf : α → α → Int) : Prop where
  neg : ∀ x y, cf y x = - cf x y
  trans : ∀ x y z, cf x y < 0 → cf y z < 0 → cf x z < 0
  ntrans : ∀ x y z, 0 ≤ cf x y → 0 ≤ cf y z → 0 ≤ cf x z

/-- 'ys' is 'xs' in the order that 'cmp' tells, which parts all of them. -/
def SortedBy {α : Type} (cmp : α → α → Option Int) (xs ys : List α) : Prop :=
  xs.length < 4611686018427387904 ∧ ∃ cf : α → α → Int, CmpOk cf ∧ (∀ x ∈ xs, ∀ y ∈ xs, cmp x y = some (cf x y)) ∧ xs.Pairwise (fun x y => cf x y ≠ 0) ∧ ys.Perm xs ∧ ys.Pairwise (fun x y => cf x y < 0)

open Classical in
noncomputable def sortO {α : Type} (cmp : α → α → Option Int) (xs : List α) : Option (List α) := if h : ∃ ys, SortedBy cmp xs ys then some h.choose else none

theorem SortedBy.unique {α : Type} {cmp : α → α → Option Int} {xs ys zs : List α} (h : SortedBy cmp xs ys) (g : SortedBy cmp xs zs) : ys = zs := by
  obtain ⟨_, cf, c1, c2, c3, c4, c5⟩ := h
  obtain ⟨_, cg, d1, d2, d3, d4, d5⟩ := g
  refine List.Perm.eq_of_pairwise (le := fun x y => cf x y < 0) (fun a b _ _ h1 h2 => ?_) c5 (d5.imp_of_mem fun {a b} ha hb hab => ?_) (c4.trans d4.symm)
  · have := c1.neg a b; omega
  · have e1 := c2 a (d4.mem_iff.1 ha) b (d4.mem_iff.1 hb)
    rw [d2 a (d4.mem_iff.1 ha) b (d4.mem_iff.1 hb)] at e1
    rw [← Option.some.inj e1]
    exact hab

theorem sortO_some {α : Type} {cmp : α → α → Option Int} {xs ys : List α} (h : sortO cmp xs = some ys) : SortedBy cmp xs ys := by
  unfold sortO at h
  split at h
  · rename_i hx
    cases h
    exact hx.choose_spec
  · cases h

theorem sortO_eq {α : Type} {cmp : α → α → Option Int} {xs ys : List α} (h : SortedBy cmp xs ys) : sortO cmp xs = some ys := by
  unfold sortO
  rw [dif_pos ⟨ys, h⟩]
  exact congrArg some ((Exists.choose_spec (p := fun ys => SortedBy cmp xs ys) ⟨ys, h⟩).unique h)

/-- Whatever a comparison parts can be sorted. -/
theorem sorted_exists {α : Type} {cmp : α → α → Option Int} {cf : α → α → Int} (hc : CmpOk cf) {xs : List α} (hl : xs.length < 4611686018427387904) (he : ∀ x ∈ xs, ∀ y ∈ xs, cmp x y = some (cf x y)) (hd : xs.Pairwise (fun x y => cf x y ≠ 0)) : ∃ ys, SortedBy cmp xs ys := by
  have hp := List.mergeSort_perm xs (fun x y => decide (cf x y ≤ 0))
  refine ⟨xs.mergeSort fun x y => decide (cf x y ≤ 0), hl, cf, hc, he, hd, hp, ?_⟩
  have hs := List.pairwise_mergeSort (le := fun x y => decide (cf x y ≤ 0)) (fun a b c h1 h2 => by
    simp only [decide_eq_true_eq] at *
    have := hc.neg a c
    have := hc.neg a b
    have := hc.neg b c
    have := hc.ntrans c b a (by omega) (by omega)
    omega) (fun a b => by
    simp only [Bool.or_eq_true, decide_eq_true_eq]
    have := hc.neg a b
    omega) xs
  have hd2 := hd.perm hp.symm (fun {x y} h => by have := hc.neg x y; omega)
  refine (hs.and hd2).imp fun {x y} h => ?_
  have := of_decide_eq_true h.1
  have := h.2
  omega

end
end Go.R

/- strings.Compare by the kit's contract. -/
namespace Go.R
open Go Go.Proofs Go.Shelf Go.RowKit

section
variable {P : Program} {gt : List (Nat × List AV)}

/-- A function that hands back a number, and leaves the world as it is. -/
theorem num_ret {M : Mem} {w : World} {k : IntKind} {n : Int} (hm : MemOk M w) : RetOk M w [] M w [⟨false, .int k, []⟩] n (.int k n) :=
  ⟨Mem.le_refl _, hm, Kp.refl _ _, fun _ _ _ h => .inl h, [.int k n], [], rfl, List.nodup_nil, _, rfl, [.int k n], rfl, fun _ => rfl, rfl, rfl, rfl⟩

theorem compare_ok {ρ : Ren} (L : Lays.n106 P ρ) : CalOk P gt ⟨ρ.f 106, [.ro false .str, .ro false .str], [⟨false, .int .i64, []⟩], fun x => some (Lib.compareBytes x.1.data.toList x.2.data.toList)⟩ := by
  refine ⟨enters_of L.f106 (by kernel_rfl) rfl, fun M w (x : ByteArray × ByteArray) vs gs (r : Int) hm _ hargs _ hF => ?_⟩
  obtain ⟨v1, l1, g1, g2, rfl, rfl, ⟨rfl, u1, rfl, _, h1⟩, v2, rfl, ⟨rfl, u2, rfl, _, h2⟩⟩ := hargs
  have h1 : u1 = [.string x.1] := h1
  have h2 : u2 = [.string x.2] := h2
  subst h1 h2
  have hF : Lib.compareBytes x.1.data.toList x.2.data.toList = r := Option.some.inj hF
  subst hF
  refine (Any.strings_Compare L x.1 x.2 w).mono fun e w' h => ?_
  obtain ⟨rfl, rfl⟩ := h
  exact ⟨_, M, rfl, num_ret hm⟩

end
end Go.R

/- slices.SortFunc by the kit's contract, as a call that changes a row in its place. -/
namespace Go.R
open Go Go.Proofs Go.Shelf Go.RowKit Go.Sort

section
variable {P : Program} {gt : List (Nat × List AV)}

def cmpArgs {agg : Bool} {t : Ty} : (cts : List PTy) → Dat t → Dat t → DatPs cts → DatPs (.ro agg t :: .ro agg t :: cts)
  | [], x, y, _ => (x, y)
  | _ :: _, x, y, z => (x, y, z)

/-- slices.SortFunc with the comparison g. -/
noncomputable def sortCal (f : FuncId) (e : TypeId) (agg : Bool) (t : Ty) (g : FuncId) (cts : List PTy) (F : DatPs (.ro agg t :: .ro agg t :: cts) → Option Int) : MCal :=
  ⟨f, e, t, some g, cts, fun xs x => sortO (fun a b => F (cmpArgs cts a b x)) xs⟩

theorem cmp_args {M : Mem} {w : World} {agg : Bool} {t : Ty} {cts : List PTy} {x y : Dat t} {z : DatPs cts} {cvs vx vy : List Value} (hx : RepS M t x vx) (hy : RepS M t y vy) (h1 : agg = false → t.sz = 1) (hz : ArgsP M w cts z cvs []) :
    ArgsP M w (.ro agg t :: .ro agg t :: cts) (cmpArgs cts x y z) ([oneV agg vx, oneV agg vy] ++ cvs) [] := by
  have ax : ArgP M w (.ro agg t) x (oneV agg vx) [] := ⟨rfl, vx, rfl, fun e => by rw [hx.len]; exact h1 e, hx⟩
  have ay : ArgP M w (.ro agg t) y (oneV agg vy) [] := ⟨rfl, vy, rfl, fun e => by rw [hy.len]; exact h1 e, hy⟩
  cases cts with
  | nil =>
    simp only [ArgsP] at hz
    obtain ⟨rfl, _⟩ := hz
    exact ⟨_, _, [], [], rfl, rfl, ax, _, rfl, ay⟩
  | cons p ps => exact ⟨_, _, [], [], rfl, rfl, ax, _, _, [], [], rfl, rfl, ay, hz⟩

theorem args_world {M : Mem} {w w' : World} : {cts : List PTy} → {z : DatPs cts} → {cvs : List Value} → ArgsP M w cts z cvs [] → (cts.all fun p => match p with | .ro _ _ | .pt _ => true | .mv _ _ | .mvn _ _ => false) = true → ArgsP M w' cts z cvs []
  | [], _, _, h, _ => h
  | [.ro _ _], _, _, h, _ => h
  | [.mv _ _], _, _, _, hk => by simp at hk
  | [.mvn _ _], _, _, _, hk => by simp at hk
  | .ro _ _ :: q :: ps, z, cvs, h, hk => by
    simp only [ArgsP] at h ⊢
    obtain ⟨v, vs', g1, g2, e1, e2, h1, h2⟩ := h
    obtain ⟨rfl, rfl⟩ : g1 = [] ∧ g2 = [] := by simpa using e2.symm
    exact ⟨v, vs', [], [], e1, rfl, h1, args_world h2 (by simpa using hk)⟩
  | .mv _ _ :: _ :: _, _, _, _, hk => by simp at hk
  | .mvn _ _ :: _ :: _, _, _, _, hk => by simp at hk
  | [.pt _], _, _, h, _ => h
  | .pt _ :: q :: ps, z, cvs, h, hk => by
    simp only [ArgsP] at h ⊢
    obtain ⟨v, vs', g1, g2, e1, e2, h1, h2⟩ := h
    obtain ⟨rfl, rfl⟩ : g1 = [] ∧ g2 = [] := by simpa using e2.symm
    exact ⟨v, vs', [], [], e1, rfl, h1, args_world h2 (by simpa using hk)⟩

/-- A world that has only grown. -/
theorem grown_eq {W W' : World} (h : Kp W W' (· ∈ ([] : List Nat))) : ∃ q os', W' = Sort.grow (W.drewN q) os' := by
  refine ⟨W'.drawn - W.drawn, W'.heap.extract W.heap.size W'.heap.size, ?_⟩
  have hh : W'.heap = W.heap ++ W'.heap.extract W.heap.size W'.heap.size := by
    apply Array.ext_getElem?
    intro k
    rw [Array.getElem?_append]
    split
    · rename_i hk; exact h.block k hk (by simp)
    · rename_i hk
      rw [Array.getElem?_extract]
      have := h.size
      split
      · congr 1; omega
      · rw [Array.getElem?_eq_none_iff]; omega
  have hd : W.drawn ≤ W'.drawn := h.drawn
  cases W' with
  | mk heap tape drawn os output =>
    have h1 := h.os; have h2 := h.tape; have h3 := h.output
    simp only at h1 h2 h3 hd hh
    subst h1 h2 h3
    simp only [Sort.grow, World.drewN, World.mk.injEq, true_and, and_true]
    exact ⟨hh, by omega⟩

/-- What the comparison does in a world that the sort goes through. -/
theorem cmp_calls {agg : Bool} {t : Ty} {g : FuncId} {cts : List PTy} {F : DatPs (.ro agg t :: .ro agg t :: cts) → Option Int} (hC : CalOk P gt ⟨g, .ro agg t :: .ro agg t :: cts, [⟨false, .int .i64, []⟩], F⟩) (h1 : agg = false → t.sz = 1)
    (hro : (cts.all fun p => match p with | .ro _ _ | .pt _ => true | .mv _ _ | .mvn _ _ => false) = true) {M : Mem} {w W : World} (hm : MemOk M W) (hg : GlobOk M gt) {z : DatPs cts} {cvs : List Value} (hz : ArgsP M w cts z cvs []) {x y : Dat t} {vx vy : List Value} (hx : RepS M t x vx) (hy : RepS M t y vy) {r : Int} (hr : F (cmpArgs cts x y z) = some r) :
    Calls P g (#[oneV agg vx, oneV agg vy] ++ cvs.toArray) W fun e w' => e = .returned (.int .i64 r) ∧ ∃ q os', w' = Sort.grow (W.drewN q) os' := by
  have := hC.run M W (cmpArgs cts x y z) _ [] r hm hg (cmp_args hx hy h1 (args_world hz hro)) List.nodup_nil hr
  have e1 : ([oneV agg vx, oneV agg vy] ++ cvs).toArray = #[oneV agg vx, oneV agg vy] ++ cvs.toArray := by simp
  rw [e1] at this
  refine Calls.mono this fun e w' h => ?_
  obtain ⟨v, M', rfl, hret⟩ := h
  obtain ⟨vs, hs, hv, _, ho⟩ := hret.out
  obtain ⟨u, hu, us, hus, _, ho⟩ := ho
  obtain ⟨ho, _⟩ := ho
  refine ⟨?_, grown_eq hret.kp⟩
  rw [hv, hu, hus, ho]
  rfl

theorem CmpOk.swo {α β : Type} {cf : α → α → Int} (h : CmpOk cf) (f : β → α) : SWO (ltOf fun x y => cf (f x) (f y)) where
  irrefl x := by have := h.neg (f x) (f x); simp only [ltOf, decide_eq_false_iff_not]; omega
  trans x y z h1 h2 := by simp only [ltOf, decide_eq_true_eq] at *; exact h.trans _ _ _ h1 h2
  ntrans x y z h1 h2 := by simp only [ltOf, decide_eq_false_iff_not, Int.not_lt] at *; exact h.ntrans _ _ _ h1 h2

/-- What the kit's sort leaves is the list in order. -/
theorem sorted_of_kit {M : Mem} {t : Ty} {xs : List (Dat t)} [Inhabited (Elt M t xs)] {cmp : Dat t → Dat t → Option Int} {ys : List (Dat t)} {cf : Dat t → Dat t → Int} (hl : xs.length < 4611686018427387904) (hc : CmpOk cf) (he : ∀ x ∈ xs, ∀ y ∈ xs, cmp x y = some (cf x y)) (hd : xs.Pairwise (fun x y => cf x y ≠ 0)) (hF : sortO cmp xs = some ys)
    {d : List (Elt M t xs)} (hdx : d.map (·.1.1) = xs) {d' : Array (Elt M t xs)} (hp : PermIn 0 d.toArray.size d.toArray d') (hs : SortedIn (ltOf fun x y : Elt M t xs => cf x.1.1 y.1.1) 0 d.toArray.size d') : d'.toList.map (·.1.1) = ys := by
  have hperm : d'.toList.Perm d := by
    have := hp.2.2
    have e1 : d'.extract 0 d.toArray.size = d' := by rw [← hp.1]; exact Array.extract_size
    rw [e1, Array.extract_size] at this
    simpa using this
  have hpm : (d'.toList.map (·.1.1)).Perm xs := by
    have := hperm.map (·.1.1)
    rwa [hdx] at this
  have hd2 := hd.perm hpm.symm (fun {x y} h => by have := hc.neg x y; omega)
  refine SortedBy.unique (cmp := cmp) (xs := xs) ⟨hl, cf, hc, he, hd, hpm, ?_⟩ (sortO_some hF)
  rw [List.pairwise_iff_getElem] at hd2 ⊢
  intro i j hi hj hij
  have h1 := hd2 i j hi hj hij
  simp only [List.length_map, Array.length_toList] at hi hj
  have h2 := hs i j (Nat.zero_le _) hij (by rw [← hp.1]; exact hj)
  rw [getElem!_pos d' i hi, getElem!_pos d' j hj] at h2
  simp only [ltOf, decide_eq_false_iff_not, Int.not_lt] at h2
  simp only [List.getElem_map, Array.getElem_toList] at h1 ⊢
  have := hc.neg d'[i].1.1 d'[j].1.1
  omega

theorem flat_cells {α : Type} [Inhabited α] {enc : α → List Value} {k : Nat} (hk : ∀ x, (enc x).length = k) {d : Array α} {i : Nat} {p : α} (hp : d[i]? = some p) {j : Nat} {u : Value} (hu : (enc p)[j]? = some u) : (flatK enc k d)[i * k + j]? = some u := by
  have hi := (Array.getElem?_eq_some_iff.1 hp).1
  have hj : j < k := by rw [← hk p]; exact (List.getElem?_eq_some_iff.1 hu).1
  have hlt : i * k + j < d.size * k := by
    have := Nat.mul_le_mul_right k (show i + 1 ≤ d.size from hi)
    rw [Nat.add_mul, Nat.one_mul] at this
    omega
  rw [getElem?_pos _ _ (by rw [size_flatK]; exact hlt)]
  have := get_flatK enc k d _ hlt
  rw [getElem!_pos _ _ (by rw [size_flatK]; exact hlt)] at this
  have k0 : 0 < k := by omega
  have e1 : (i * k + j) / k = i := by rw [Nat.mul_comm, Nat.mul_add_div k0, Nat.div_eq_of_lt hj, Nat.add_zero]
  have e2 : (i * k + j) % k = j := by rw [Nat.mul_comm, Nat.mul_add_mod, Nat.mod_eq_of_lt hj]
  rw [this, e1, e2, getElem!_pos d i hi]
  have e3 : d[i] = p := (Array.getElem?_eq_some_iff.1 hp).2
  rw [e3, getElem!_pos (enc p) j (by rw [hk]; exact hj)]
  exact congrArg some (List.getElem?_eq_some_iff.1 hu).2

theorem flat_inv {α : Type} [Inhabited α] {enc : α → List Value} {k : Nat} (hk : ∀ x, (enc x).length = k) {d : Array α} {o : Nat} {u : Value} (h : (flatK enc k d)[o]? = some u) : ∃ p, d[o / k]? = some p ∧ (enc p)[o % k]? = some u ∧ o = o / k * k + o % k := by
  have ho := (Array.getElem?_eq_some_iff.1 h).1
  have ho' : o < d.size * k := by rwa [size_flatK] at ho
  have k0 : 0 < k := by rcases Nat.eq_zero_or_pos k with h | h; · subst h; simp at ho'
                        · exact h
  have hi : o / k < d.size := Nat.div_lt_of_lt_mul (by rwa [Nat.mul_comm] at ho')
  have hj : o % k < k := Nat.mod_lt _ k0
  have e := get_flatK enc k d o ho'
  rw [getElem!_pos (flatK enc k d) o ho, (Array.getElem?_eq_some_iff.1 h).2, getElem!_pos d (o / k) hi, getElem!_pos (enc d[o / k]) (o % k) (by rw [hk]; exact hj)] at e
  exact ⟨d[o / k], Array.getElem?_eq_getElem hi, by rw [e]; exact List.getElem?_eq_getElem _, (Nat.div_add_mod' o k).symm⟩

/-- slices.SortFunc at structs. -/
theorem sortK_ok {ρ : Ren} (L : SlLaysF0.n6 P ρ) {e : TypeId} {t : Ty} {g : FuncId} {cts : List PTy} {F : DatPs (.ro true t :: .ro true t :: cts) → Option Int} (aE : ∀ w, (isAgg (ρ.t 24)).run P w = .ok true w) (zE : ∀ w, (Go.sizeOf (ρ.t 24)).run P w = .ok t.sz w)
    (hC : CalOk P gt ⟨g, .ro true t :: .ro true t :: cts, [⟨false, .int .i64, []⟩], F⟩) (hro : (cts.all fun p => match p with | .ro _ _ | .pt _ => true | .mv _ _ | .mvn _ _ => false) = true) : MCalOk P gt (sortCal (ρ.f 6) e true t g cts F) := by
  refine ⟨L.f6.enters rfl, fun xs x ys h => (sortO_some h).2.choose_spec.2.2.2.1.length_eq, fun M w (xs : List (Dat t)) (x : DatPs cts) v cvs gs (ys : List (Dat t)) hm hg hrow hargs hF => ?_⟩
  obtain ⟨hl, cf, hc, he, hd, hperm, _⟩ := sortO_some hF
  change RowV M w (fun _ => True) e t xs v gs at hrow
  show Calls P (ρ.f 6) #[v, .func (.func g) #[] cvs.toArray] w fun e' w' => e' = .returned (.tuple #[]) ∧ MemOk M w' ∧ Kp w w' (· ∈ gs) ∧ RowV M w' (fun _ => True) e t ys v gs
  have hrow0 := hrow
  obtain ⟨A, c, rfl, hcase⟩ := hrow
  by_cases hx : xs = []
  · subst hx
    have hy : ys = [] := hperm.eq_nil
    subst hy
    refine (AnyF.slices_SortFunc_none L A c _ w).mono fun e' w' h => ?_
    obtain ⟨rfl, rfl⟩ := h
    exact ⟨rfl, hm, Kp.refl _ _, hrow0⟩
  rcases hcase with ⟨_, h, _⟩ | ⟨gb, cur, rfl, rfl, _, hM, hpos, hgc, h1, h2, h3, h4⟩
  · exact absurd h hx
  obtain ⟨d, hdx, hdc⟩ := elts_of_row h4
  have hdl : d.length = xs.length := by have := congrArg List.length hdx; rwa [List.length_map] at this
  haveI : Inhabited (Elt M t xs) := ⟨d[0]'(by rw [hdl]; exact List.length_pos_iff.2 hx)⟩
  have hk : ∀ p : Elt M t xs, p.1.2.length = t.sz := fun p => p.2.1.len
  have hcmp : CmpLays P g cvs.toArray (fun p : Elt M t xs => p.1.2) t.sz (fun p q => cf p.1.1 q.1.1) gb 0 d.toArray.size w := fun m os dk _ p q =>
    cmp_calls hC (by simp) hro (put_world hm hM (flatK (fun p : Elt M t xs => p.1.2) t.sz dk) m os).1 hg hargs p.2.1 q.2.1 (he _ p.2.2 _ q.2.2)
  have hH : HoldsK (fun p : Elt M t xs => p.1.2) t.sz w gb 0 d.toArray := holds_row hgc fun o u hu => by
    obtain ⟨p, h1, h2, h3⟩ := flat_inv hk hu
    rw [h3]
    exact hdc _ p (by simpa using h1) _ u h2
  have hcon := AnyQ.slices_SortFunc L t.sz aE zE (fun p : Elt M t xs => p.1.2) hk (fun p => p.2.1.one) (fun p q => cf p.1.1 q.1.1) (hc.swo _) g cvs.toArray gb 0 c d.toArray w hC.enter hcmp hH (Array.getElem?_eq_some_iff.1 hgc).1 (by rw [List.size_toArray, hdl]; exact hl)
  have hsz : d.toArray.size = xs.length := by rw [List.size_toArray]; exact hdl
  rw [hsz] at hcon
  refine hcon.mono fun e' w' h => ?_
  obtain ⟨rfl, d', n, os, hp, hs, rfl⟩ := h
  rw [← hsz] at hp hs
  have hys := sorted_of_kit hl hc he hd hF hdx hp hs
  have hlen : ys.length = xs.length := hperm.length_eq
  have hd' : d'.size = xs.length := by rw [hp.1, hsz]
  refine ⟨rfl, (put_world hm hM _ n os).1, (put_world hm hM _ n os).2, ?_⟩
  rw [← hlen]
  refine put_row hgc hM hpos (by omega) h2 h3 (by rw [size_flatK, hd', h3]; exact Nat.mul_le_mul_right _ h1) (fun i y hy => ?_) n os
  rw [← hys, List.getElem?_map] at hy
  cases hq : d'.toList[i]? with
  | none => rw [hq] at hy; cases hy
  | some p =>
    rw [hq] at hy
    cases hy
    exact ⟨p.1.2, p.2.1, fun j u hu => flat_cells hk (by simpa using hq) hu⟩

theorem putRow_map {α : Type} [Inhabited α] (enc : α → Value) (w : World) (b o : Nat) (d : Array α) : putRow enc w b o d = putRow id w b o (d.map enc) := by
  unfold putRow
  congr 1
  funext c
  unfold putCells
  apply Array.ext_getElem?
  intro k
  simp only [Array.getElem?_mapIdx, Array.size_map]
  cases c[k]? with
  | none => rfl
  | some v =>
    simp only [Option.map_some]
    split
    · rename_i hk
      rw [getElem!_pos d (k - o) (by omega), getElem!_pos (d.map enc) (k - o) (by simpa using (by omega : k - o < d.size))]
      simp
    · rfl

/-- slices.SortFunc at elements of one cell. -/
theorem sort1_ok {ρ : Ren} (L : SlLaysF.n6 P ρ) {e : TypeId} {t : Ty} {g : FuncId} {cts : List PTy} {F : DatPs (.ro false t :: .ro false t :: cts) → Option Int} (h1t : t.sz = 1)
    (hC : CalOk P gt ⟨g, .ro false t :: .ro false t :: cts, [⟨false, .int .i64, []⟩], F⟩) (hro : (cts.all fun p => match p with | .ro _ _ | .pt _ => true | .mv _ _ | .mvn _ _ => false) = true) : MCalOk P gt (sortCal (ρ.f 6) e false t g cts F) := by
  refine ⟨L.f6.enters rfl, fun xs x ys h => (sortO_some h).2.choose_spec.2.2.2.1.length_eq, fun M w (xs : List (Dat t)) (x : DatPs cts) v cvs gs (ys : List (Dat t)) hm hg hrow hargs hF => ?_⟩
  obtain ⟨hl, cf, hc, he, hd, hperm, _⟩ := sortO_some hF
  change RowV M w (fun _ => True) e t xs v gs at hrow
  show Calls P (ρ.f 6) #[v, .func (.func g) #[] cvs.toArray] w fun e' w' => e' = .returned (.tuple #[]) ∧ MemOk M w' ∧ Kp w w' (· ∈ gs) ∧ RowV M w' (fun _ => True) e t ys v gs
  have hrow0 := hrow
  obtain ⟨A, c, rfl, hcase⟩ := hrow
  by_cases hx : xs = []
  · subst hx
    have hy : ys = [] := hperm.eq_nil
    subst hy
    refine (AnyF.slices_SortFunc_none { L with } A c _ w).mono fun e' w' h => ?_
    obtain ⟨rfl, rfl⟩ := h
    exact ⟨rfl, hm, Kp.refl _ _, hrow0⟩
  rcases hcase with ⟨_, h, _⟩ | ⟨gb, cur, rfl, rfl, _, hM, hpos, hgc, h1, h2, h3, h4⟩
  · exact absurd h hx
  obtain ⟨d, hdx, hdc⟩ := elts_of_row h4
  have hdl : d.length = xs.length := by have := congrArg List.length hdx; rwa [List.length_map] at this
  haveI : Inhabited (Elt M t xs) := ⟨d[0]'(by rw [hdl]; exact List.length_pos_iff.2 hx)⟩
  have hk : ∀ p : Elt M t xs, p.1.2.length = 1 := fun p => by rw [p.2.1.len, h1t]
  have hone : ∀ p : Elt M t xs, p.1.2 = [oneV false p.1.2] := fun p => by
    have := hk p
    match h : p.1.2, this with
    | [u], _ => rfl
  have hmem : ∀ p : Elt M t xs, oneV false p.1.2 ∈ p.1.2 := fun p => List.mem_of_getElem? (i := 0) (by
    have := congrArg (·[0]?) (hone p)
    exact this)
  have hcmp : CmpLays1 P g cvs.toArray (fun p : Elt M t xs => oneV false p.1.2) (fun p q => cf p.1.1 q.1.1) gb 0 d.toArray.size w := fun m os dk _ p q => by
    have := put_world hm hM (dk.map fun p : Elt M t xs => oneV false p.1.2) m os
    rw [← putRow_map] at this
    exact cmp_calls hC (fun _ => h1t) hro this.1 hg hargs p.2.1 q.2.1 (he _ p.2.2 _ q.2.2)
  have hH : Holds (fun p : Elt M t xs => oneV false p.1.2) w gb 0 d.toArray := fun j hj => by
    have hj' : j < d.length := by simpa using hj
    have hc0 := hdc j d[j] (List.getElem?_eq_getElem hj') 0 (oneV false d[j].1.2) (by rw [hone d[j]]; rfl)
    rw [h1t, Nat.mul_one, Nat.add_zero] at hc0
    refine ⟨?_, by simp only [World.frozen?, hgc]; simp⟩
    simp only [World.cell?, hgc, Nat.zero_add, Option.isSome_none, Bool.false_eq_true, if_false, hc0]
    rw [getElem!_pos d.toArray j hj]
    rfl
  have hcon := Any.slices_SortFunc L (fun p : Elt M t xs => oneV false p.1.2) (fun p => p.2.1.one _ (hmem p)) (fun p q => cf p.1.1 q.1.1) (hc.swo _) g cvs.toArray gb 0 c d.toArray w hC.enter hcmp hH (Array.getElem?_eq_some_iff.1 hgc).1 (by rw [List.size_toArray, hdl]; exact hl)
  have hsz : d.toArray.size = xs.length := by rw [List.size_toArray]; exact hdl
  rw [hsz] at hcon
  refine hcon.mono fun e' w' h => ?_
  obtain ⟨rfl, d', n, os, hp, hs, rfl⟩ := h
  rw [← hsz] at hp hs
  have hys := sorted_of_kit hl hc he hd hF hdx hp hs
  have hlen : ys.length = xs.length := hperm.length_eq
  have hd' : d'.size = xs.length := by rw [hp.1, hsz]
  have hw := put_world hm hM (d'.map fun p : Elt M t xs => oneV false p.1.2) n os
  unfold sortWorld
  rw [putRow_map]
  refine ⟨rfl, hw.1, hw.2, ?_⟩
  rw [← hlen]
  refine put_row hgc hM hpos (by omega) h2 h3 (by rw [Array.size_map, hd', h3, h1t, Nat.mul_one]; exact h1) (fun i y hy => ?_) n os
  rw [← hys, List.getElem?_map] at hy
  cases hq : d'.toList[i]? with
  | none => rw [hq] at hy; cases hy
  | some p =>
    rw [hq] at hy
    cases hy
    refine ⟨p.1.2, p.2.1, fun j u hu => ?_⟩
    have hj : j = 0 := by have := (List.getElem?_eq_some_iff.1 hu).1; have := hk p; omega
    subst hj
    rw [hone p] at hu
    rw [h1t, Nat.mul_one, Nat.add_zero, Array.getElem?_map, show d'[i]? = some p by simpa using hq]
    simpa using hu

end
end Go.R

/- slices.Sort at strings, by the kit's contract, as a call that changes a row in its place. -/
namespace Go.R
open Go Go.Proofs Go.Shelf Go.RowKit Go.Sort

section
variable {P : Program} {gt : List (Nat × List AV)}

/-- Strings in order. -/
def strSort (xs : List ByteArray) : List ByteArray := ((xs.map (·.toList)).mergeSort fun x y => decide (x ≤ y)).map fun l => ⟨l.toArray⟩

def strSortO (xs : List ByteArray) : Option (List ByteArray) := cond (Nat.blt xs.length 4611686018427387904) (some (strSort xs)) none

theorem strSort_length (xs : List ByteArray) : (strSort xs).length = xs.length := by simp [strSort]

theorem strSortO_inv {xs ys : List ByteArray} (h : strSortO xs = some ys) : xs.length < 4611686018427387904 ∧ ys = strSort xs := by
  unfold strSortO at h
  cases hb : Nat.blt xs.length 4611686018427387904 with
  | false => rw [hb] at h; cases h
  | true =>
    rw [hb] at h
    have hl : xs.length ≤ 4611686018427387903 := by simpa [Nat.blt] using hb
    exact ⟨by omega, (Option.some.inj h).symm⟩

def sortSCal (f : FuncId) (e : TypeId) : MCal := ⟨f, e, .str, none, [], fun xs _ => strSortO xs⟩

theorem str_back (a : ByteArray) : (⟨a.toList.toArray⟩ : ByteArray) = a := by
  rw [ByteArray.toList_eq]

theorem put_map {α : Type} [Inhabited α] (enc : α → Value) (w : World) (b o : Nat) (d : Array α) : putRow enc w b o d = putRow id w b o (d.map enc) := by
  unfold putRow
  congr 1
  funext c
  unfold putCells
  apply Array.ext_getElem?
  intro k
  simp only [Array.getElem?_mapIdx, Array.size_map]
  cases c[k]? with
  | none => rfl
  | some v =>
    simp only [Option.map_some]
    split
    · rename_i hk
      rw [getElem!_pos d (k - o) (by omega), getElem!_pos (d.map enc) (k - o) (by simpa using (by omega : k - o < d.size))]
      simp
    · rfl

theorem sortS_ok {ρ : Ren} (L : Lays.n190 P ρ) {e : TypeId} : MCalOk P gt (sortSCal (ρ.f 190) e) := by
  refine ⟨enters_of L.f190 (by kernel_rfl) rfl, fun xs x ys h => (strSortO_inv h).2 ▸ strSort_length xs, fun M w (xs : List (Dat .str)) x v cvs gs (ys : List (Dat .str)) hm hg hrow hargs hF => ?_⟩
  obtain ⟨hlen, hF⟩ := strSortO_inv (xs := xs) (ys := ys) hF
  subst hF
  change RowV M w (fun _ => True) e .str xs v gs at hrow
  show Calls P (ρ.f 190) #[v] w fun e' w' => e' = .returned (.tuple #[]) ∧ MemOk M w' ∧ Kp w w' (· ∈ gs) ∧ RowV M w' (fun _ => True) e .str (strSort xs) v gs
  have hrow0 := hrow
  obtain ⟨A, c, rfl, hcase⟩ := hrow
  by_cases hx : xs = []
  · subst hx
    refine (Any.slices_Sort_string_none L A c w).mono fun e' w' h => ?_
    obtain ⟨rfl, rfl⟩ := h
    exact ⟨rfl, hm, Kp.refl _ _, by rw [show strSort [] = [] by simp [strSort]]; exact hrow0⟩
  rcases hcase with ⟨_, h, _⟩ | ⟨gb, cur, rfl, rfl, _, hM, hpos, hgc, h1, h2, h3, h4⟩
  · exact absurd h hx
  have hcell : ∀ (j : Nat) (s : ByteArray), xs[j]? = some s → cur[j]? = some (.string s) := fun j s hs => by
    obtain ⟨us, hr, hu⟩ := h4 j s hs
    have hus : us = [.string s] := by simpa [RepS] using hr
    have := hu 0 (.string s) (by rw [hus]; rfl)
    simpa [Ty.sz] using this
  have hss : (xs.map (·.toList)).length = xs.length := List.length_map _
  have hH : Holds encStr w gb 0 (xs.map (·.toList)).toArray := fun j hj => by
    have hj' : j < xs.length := by simpa using hj
    have hc0 := hcell j xs[j] (List.getElem?_eq_getElem hj')
    refine ⟨?_, by simp only [World.frozen?, hgc]; simp⟩
    simp only [World.cell?, hgc, Nat.zero_add, Option.isSome_none, Bool.false_eq_true, if_false, hc0]
    rw [getElem!_pos _ j hj]
    simp only [List.getElem_toArray, List.getElem_map]
    rw [show encStr xs[j].toList = Value.string ⟨xs[j].toList.toArray⟩ from rfl, str_back]
  have hblk : gb < w.heap.size := (Array.getElem?_eq_some_iff.1 hgc).1
  have hcon := Any.slices_Sort_string L gb 0 c (xs.map (·.toList)) w hH hblk (by rw [hss]; exact hlen)
  rw [hss] at hcon
  refine hcon.mono fun e' w' h => ?_
  obtain ⟨rfl, n, os, rfl⟩ := h
  rw [put_map]
  have hw := put_world hm hM ((((xs.map (·.toList)).mergeSort fun x y => decide (x ≤ y)).toArray).map encStr) n os
  refine ⟨rfl, hw.1, hw.2, ?_⟩
  have hr := put_row (c := c) (ys := strSort xs) (Fl := (((xs.map (·.toList)).mergeSort fun x y => decide (x ≤ y)).toArray).map encStr) hgc hM hpos (by rw [strSort_length]; exact h1) h2 h3 (by rw [Array.size_map, List.size_toArray, List.length_mergeSort, hss, h3]; simpa [Ty.sz] using h1) (fun i y hy => by
    unfold strSort at hy
    rw [List.getElem?_map] at hy
    cases hq : ((xs.map (·.toList)).mergeSort fun x y => decide (x ≤ y))[i]? with
    | none => rw [hq] at hy; cases hy
    | some l =>
      rw [hq] at hy
      cases hy
      refine ⟨[.string ⟨l.toArray⟩], by simp [RepS], fun j u hu => ?_⟩
      have hj : j = 0 := by have := (List.getElem?_eq_some_iff.1 hu).1; simpa using this
      subst hj
      have hu : u = .string ⟨l.toArray⟩ := by simpa using hu.symm
      subst hu
      rw [Array.getElem?_map, show (((xs.map (·.toList)).mergeSort fun x y => decide (x ≤ y)).toArray)[i * (Ty.str).sz + 0]? = some l by simpa [Ty.sz] using hq]
      rfl) n os
  rw [strSort_length] at hr
  exact hr

end
end Go.R
