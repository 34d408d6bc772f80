/- What is proved here: functions of the library that change a row in its place, by the kit's contracts; a tool for the claim's proof. It asks nothing. -/
import Derived.Test.YtlaejfnmhfkdpaaRc
import Derived.Test.YtlaejfnmhfkdpaaJoW
import Derived.Sort.Grow
import Derived.Lib.Walk
import Derived.Lib.SliceRun
import Derived.Lib.AppendZerosOnto
import Derived.Lib.Overlaps
import Derived.Laws.Externs
import Derived.Shelf.RegionOpenPlain
import Derived.Shelf.SlSortCmp.NoneTotal
/- Rows that are changed in their place: a row as the kit's sort knows it. -/
namespace Go.R
open Go

section
variable {P : Program} {M : Mem} {w : World}

/-- An element of a row: the datum, its cells. -/
abbrev Elt (M : Mem) (t : Ty) (xs : List (Dat t)) : Type := { p : Dat t × List Value // RepS M t p.1 p.2 ∧ p.1 ∈ xs }

theorem elts_of_row {t : Ty} {xs : List (Dat t)} {cur : Array Value} (h : RowIn M t xs cur) : ∃ d : List (Elt M t xs), d.map (·.1.1) = xs ∧ ∀ (i : Nat) (p : Elt M t xs), d[i]? = some p → ∀ (j : Nat) (u : Value), p.1.2[j]? = some u → cur[i * t.sz + j]? = some u := by
  obtain ⟨d, hl, hd⟩ := list_choose (Q := fun i (p : Elt M t xs) => xs[i]? = some p.1.1 ∧ ∀ (j : Nat) (u : Value), p.1.2[j]? = some u → cur[i * t.sz + j]? = some u) xs.length fun i hi => by
    obtain ⟨cs, h1, h2⟩ := h i xs[i] (List.getElem?_eq_getElem hi)
    exact ⟨⟨(xs[i], cs), h1, List.getElem_mem hi⟩, List.getElem?_eq_getElem hi, h2⟩
  refine ⟨d, List.ext_getElem? fun i => ?_, fun i p hp => (hd i p hp).2⟩
  rw [List.getElem?_map]
  cases hp : d[i]? with
  | none =>
    rw [List.getElem?_eq_none_iff] at hp
    rw [Option.map_none, List.getElem?_eq_none_iff.2 (by omega)]
  | some p => rw [Option.map_some, (hd i p hp).1]

theorem cells_put {cur Fl : Array Value} (hs : Fl.size ≤ cur.size) {o : Nat} {u : Value} (h : Fl[o]? = some u) : (Sort.putCells id 0 Fl cur)[o]? = some u := by
  have ho : o < Fl.size := (Array.getElem?_eq_some_iff.1 h).1
  have e : Fl[o]! = u := by rw [getElem!_pos Fl o ho]; exact (Array.getElem?_eq_some_iff.1 h).2
  unfold Sort.putCells
  rw [Array.getElem?_mapIdx, Array.getElem?_eq_getElem (by omega)]
  simp only [Option.map_some, Nat.zero_le, Nat.zero_add, true_and, ho, if_true, Nat.sub_zero, id, e]

theorem heap_put {g : Nat} {cur Fl : Array Value} {e : TypeId} (hg : w.heap[g]? = some (.cells cur e (0, 0))) (n : Nat) (os : Array Obj) : (Sort.grow (Sort.putRow id (Sort.ahead w n) g 0 Fl) os).heap[g]? = some (.cells (Sort.putCells id 0 Fl cur) e (0, 0)) := by
  have hlt : g < w.heap.size := (Array.getElem?_eq_some_iff.1 hg).1
  rw [Sort.heap_grow_old _ _ (by rw [Sort.size_putRow]; exact hlt)]
  simp only [Sort.putRow, Sort.mapBlock, Array.getElem?_modify, if_true, Sort.heap_ahead, hg, Option.map_some, Sort.onCells]

theorem heap_put_other {g k : Nat} {Fl : Array Value} (hk : k ≠ g) (n : Nat) (os : Array Obj) (hlt : k < w.heap.size) : (Sort.grow (Sort.putRow id (Sort.ahead w n) g 0 Fl) os).heap[k]? = w.heap[k]? := by
  rw [Sort.heap_grow_old _ _ (by rw [Sort.size_putRow]; exact hlt)]
  simp only [Sort.putRow, Sort.mapBlock, Array.getElem?_modify, if_neg (Ne.symm hk), Sort.heap_ahead]

/-- A world that the sort goes through: all but the row is as it was. -/
theorem put_world (hm : MemOk M w) {g : Nat} (hM : ∀ o, M g o = none) (Fl : Array Value) (n : Nat) (os : Array Obj) :
    MemOk M (Sort.grow (Sort.putRow id (Sort.ahead w n) g 0 Fl) os) ∧ Kp w (Sort.grow (Sort.putRow id (Sort.ahead w n) g 0 Fl) os) (· ∈ [g]) := by
  refine ⟨fun b o v hv o' => ?_, rfl, rfl, rfl, ?_, DrawLe.of (Nat.le_add_right _ _), fun k hk hg => heap_put_other (by simpa using hg) n os hk⟩
  · have hb : b ≠ g := fun e => by subst e; rw [hM o] at hv; cases hv
    have h0 := hm b o v hv o'
    have hlt := hm.lt hv
    rw [← h0]
    exact World.cell?_of_block (a := ⟨b, o', none⟩) (heap_put_other hb n os hlt)
  · rw [Sort.size_grow, Sort.size_putRow]; exact Nat.le_add_right _ _

/-- The row behind it. -/
theorem put_row {g c : Nat} {cur Fl : Array Value} {e : TypeId} {t : Ty} (hg : w.heap[g]? = some (.cells cur e (0, 0))) (hM : ∀ o, M g o = none) (hpos : 0 < t.sz) {ys : List (Dat t)} (h1 : ys.length ≤ c) (h2 : c ≤ maxLen) (h3 : cur.size = c * t.sz) (hs : Fl.size ≤ cur.size)
    (hF : ∀ (i : Nat) (x : Dat t), ys[i]? = some x → ∃ cs, RepS M t x cs ∧ ∀ (j : Nat) (u : Value), cs[j]? = some u → Fl[i * t.sz + j]? = some u) (n : Nat) (os : Array Obj) :
    RowV M (Sort.grow (Sort.putRow id (Sort.ahead w n) g 0 Fl) os) (fun _ => True) e t ys (.slice (some ⟨g, 0, none⟩) ys.length c) [g] :=
  ⟨_, c, rfl, .inr ⟨g, _, rfl, rfl, trivial, hM, hpos, heap_put hg n os, h1, h2, by rw [← h3]; simp [Sort.putCells], fun i x hx => let ⟨cs, a, b⟩ := hF i x hx; ⟨cs, a, fun j u hu => cells_put hs (b j u hu)⟩⟩⟩

/-- The cells of the kit's row are those of ours. -/
theorem holds_row {g : Nat} {cur Fl : Array Value} {e : TypeId} (hg : w.heap[g]? = some (.cells cur e (0, 0))) (h : ∀ (o : Nat) (u : Value), Fl[o]? = some u → cur[o]? = some u) : Sort.Holds id w g 0 Fl := fun j hj => by
  refine ⟨?_, by simp only [World.frozen?, hg]; simp⟩
  have := h j Fl[j] (Array.getElem?_eq_getElem hj)
  simp only [World.cell?, hg, Nat.zero_add, Option.isSome_none, Bool.false_eq_true, if_false, this]
  rw [getElem!_pos Fl j hj]; rfl

/-! ### A sorted list -/

/-- A comparison: it tells an order. -/
structure CmpOk {α : Type} (cf : α → α → Int) : Prop where
  neg : ∀ x y, cf y x = - cf x y
  trans : ∀ x y z, cf x y < 0 → cf y z < 0 → cf x z < 0
  ntrans : ∀ x y z, 0 ≤ cf x y → 0 ≤ cf y z → 0 ≤ cf x z

/-- 'ys' is 'xs' in the order that 'cmp' tells, which parts all of them. -/
def SortedBy {α : Type} (cmp : α → α → Option Int) (xs ys : List α) : Prop :=
  xs.length < 4611686018427387904 ∧ ∃ cf : α → α → Int, CmpOk cf ∧ (∀ x ∈ xs, ∀ y ∈ xs, cmp x y = some (cf x y)) ∧ xs.Pairwise (fun x y => cf x y ≠ 0) ∧ ys.Perm xs ∧ ys.Pairwise (fun x y => cf x y < 0)

open Classical in
noncomputable def sortO {α : Type} (cmp : α → α → Option Int) (xs : List α) : Option (List α) := if h : ∃ ys, SortedBy cmp xs ys then some h.choose else none

theorem SortedBy.unique {α : Type} {cmp : α → α → Option Int} {xs ys zs : List α} (h : SortedBy cmp xs ys) (g : SortedBy cmp xs zs) : ys = zs := by
  obtain ⟨_, cf, c1, c2, c3, c4, c5⟩ := h
  obtain ⟨_, cg, d1, d2, d3, d4, d5⟩ := g
  refine List.Perm.eq_of_pairwise (le := fun x y => cf x y < 0) (fun a b _ _ h1 h2 => ?_) c5 (d5.imp_of_mem fun {a b} ha hb hab => ?_) (c4.trans d4.symm)
  · have := c1.neg a b; omega
  · have e1 := c2 a (d4.mem_iff.1 ha) b (d4.mem_iff.1 hb)
    rw [d2 a (d4.mem_iff.1 ha) b (d4.mem_iff.1 hb)] at e1
    rw [← Option.some.inj e1]
    exact hab

theorem sortO_some {α : Type} {cmp : α → α → Option Int} {xs ys : List α} (h : sortO cmp xs = some ys) : SortedBy cmp xs ys := by
  unfold sortO at h
  split at h
  · rename_i hx
    cases h
    exact hx.choose_spec
  · cases h

theorem sortO_eq {α : Type} {cmp : α → α → Option Int} {xs ys : List α} (h : SortedBy cmp xs ys) : sortO cmp xs = some ys := by
  unfold sortO
  rw [dif_pos ⟨ys, h⟩]
  exact congrArg some ((Exists.choose_spec (p := fun ys => SortedBy cmp xs ys) ⟨ys, h⟩).unique h)

/-- Whatever a comparison parts can be sorted. -/
theorem sorted_exists {α : Type} {cmp : α → α → Option Int} {cf : α → α → Int} (hc : CmpOk cf) {xs : List α} (hl : xs.length < 4611686018427387904) (he : ∀ x ∈ xs, ∀ y ∈ xs, cmp x y = some (cf x y)) (hd : xs.Pairwise (fun x y => cf x y ≠ 0)) : ∃ ys, SortedBy cmp xs ys := by
  have hp := List.mergeSort_perm xs (fun x y => decide (cf x y ≤ 0))
  refine ⟨xs.mergeSort fun x y => decide (cf x y ≤ 0), hl, cf, hc, he, hd, hp, ?_⟩
  have hs := List.pairwise_mergeSort (le := fun x y => decide (cf x y ≤ 0)) (fun a b c h1 h2 => by
    simp only [decide_eq_true_eq] at *
    have := hc.neg a c
    have := hc.neg a b
    have := hc.neg b c
    have := hc.ntrans c b a (by omega) (by omega)
    omega) (fun a b => by
    simp only [Bool.or_eq_true, decide_eq_true_eq]
    have := hc.neg a b
    omega) xs
  have hd2 := hd.perm hp.symm (fun {x y} h => by have := hc.neg x y; omega)
  refine (hs.and hd2).imp fun {x y} h => ?_
  have := of_decide_eq_true h.1
  have := h.2
  omega

end
end Go.R

/- slices.Insert: its contract out of a walk of its code. -/
namespace Go.R
open Go

section
variable {P : Program} {M : Mem} {w : World}

/-! ### 'copy' whose run is known -/

theorem wp_copy_eq (w : World) {o : Oper} {a : Act} {K : Act → World → Prop} {Q : Exit → Act → World → Prop} (d s : Operand) (t t' : TypeId)
    (ho : o.op = .call { callee := .builtin .copy, args := #[d, s], argTypes := #[t, t'] }) (v u : Value) (hd : a.eval d = v) (hs : a.eval s = u) {v' : Value} {w' : World}
    (hr : (Builtin.copy_ #[t, t'] o.type #[v, u]).run P w = .ok v' w') (h : K (a.put o.dst v') w') : o.wp P a w K Q := by
  unfold Oper.wp
  simp only [execOp, ho, resolve, invoke, builtin, Sem.run_bind, Sem.run_pure, Result.andThen_ok, List.map_toArray, List.map_cons, List.map_nil, hd, hs, hr]
  exact h

theorem wpList_copy_eq (w : World) {ops : Array Oper} {rest : List Oper} {o : Oper} {a : Act} {Q : Exit → Act → World → Prop} (hgd : o.guard = none) (d s : Operand) (t t' : TypeId)
    (ho : o.op = .call { callee := .builtin .copy, args := #[d, s], argTypes := #[t, t'] }) (v u : Value) (hd : a.eval d = v) (hs : a.eval s = u) {v' : Value} {w' : World}
    (hr : (Builtin.copy_ #[t, t'] o.type #[v, u]).run P w = .ok v' w') (h : wpList P ops Q rest (a.put o.dst v') w') : wpList P ops Q (o :: rest) a w :=
  wpList_plain hgd fun _ hK => wp_copy_eq w d s t t' ho v u hd hs hr (hK _ _ h)

theorem step_copy_eq {ops : Array Oper} {o : Oper} {a : Act} {w : World} {K : Act → World → Prop} {Q : Exit → Act → World → Prop} {E : Prop}
    (hg : o.guard = none) (d x : Operand) (dT sT : TypeId) (hop : o.op = Op.call { callee := Callee.builtin Builtin.copy, args := #[d, x], argTypes := #[dT, sT] })
    (v u : Value) (hd : a.eval d = v) (hx : a.eval x = u) {v' : Value} {w' : World} (hr : (Builtin.copy_ #[dT, sT] o.type #[v, u]).run P w = .ok v' w') (hK : K (a.put o.dst v') w') :
    if Region.wanted o (yielded ops a.tmps) = true then Oper.wp P o a w K Q else E := by
  rw [if_pos (by simp [Region.wanted, hg])]
  exact wp_copy_eq w d x dT sT hop v u hd hx hr hK

/-- A copy into a row, elements of several cells. -/
theorem run_copy_k (w : World) {dT sT ty e : TypeId} {g o dLen dCap : Nat} {a : Addr} {sLen sCap : Nat} {cur : Array Value} {t : TypeId} {cs : List Value} {i : TypeInfo}
    (hu : P.underlying dT = some (.slice e)) (hi : P.info? e = some i) (hg : w.heap[g]? = some (.cells cur t (0, 0))) (hn : cs.length = Nat.min sLen dLen * i.size)
    (hsrc : ∀ j v, cs[j]? = some v → w.cell? (a.add j) = some v) (hfit : o + cs.length ≤ cur.size) (h1 : ∀ v ∈ cs, v.oneCell' = true) :
    (Builtin.copy_ #[dT, sT] ty #[.slice (some ⟨g, o, none⟩) dLen dCap, .slice (some a) sLen sCap]).run P w =
      .ok (goInt (Nat.min sLen dLen)) (w.setRow g (cur.toList.take o ++ cs ++ cur.toList.drop (o + cs.length)).toArray) := by
  have hl := run_loadCells_list (P := P) w a cs hsrc
  have hst := run_storeCells_at P g o t cs 0 cur w hg (by simpa using hfit) h1
  simp [Builtin.copy_, run_underlying hu, Builtin.lenOf, Builtin.firstCells, sizeOf, typeInfo, hi, ← hn, hl, hst]

/-! ### A world in which only rows that were handed over have changed -/

structure Good (M : Mem) (w : World) (gs : List Nat) (W : World) : Prop where
  mem : MemOk M W
  kp : Kp w W (· ∈ gs)

theorem Good.refl (h : MemOk M w) (gs : List Nat) : Good M w gs w := ⟨h, Kp.refl _ _⟩

theorem Good.drew {gs : List Nat} {W : World} (h : Good M w gs W) : Good M w gs W.drew :=
  ⟨h.mem, h.kp.os, h.kp.tape, h.kp.output, h.kp.size, DrawLe.trans h.kp.drawn (DrawLe.succ _), h.kp.block⟩

theorem Good.alloc {gs : List Nat} {W : World} (h : Good M w gs W) (o : Obj) : Good M w gs (W.alloc o) :=
  ⟨fun b q v hv q' => by rw [World.cell?_alloc_lt _ _ _ (show (⟨b, q', none⟩ : Addr).block < _ from h.mem.lt hv)]; exact h.mem b q v hv q', h.kp.grown (World.grownBy_alloc W _ none) (DrawLe.refl _) (fun k hk => by cases hk)⟩

theorem Good.setRow {gs : List Nat} {W : World} (h : Good M w gs W) {g : Nat} {cur : Array Value} (hg : w.heap.size ≤ g ∨ g ∈ gs) (hM : ∀ o, M g o = none) : Good M w gs (W.setRow g cur) := by
  refine ⟨fun b o v hv o' => ?_, h.kp.grown (row := some g) ⟨rfl, rfl, rfl, by simp, fun k _ hk => setRow_other W g k _ (fun e => hk (by rw [e]))⟩ (DrawLe.refl _) (fun k hk => by cases hk; exact hg)⟩
  rw [cell_setRow_other]
  · exact h.mem b o v hv o'
  · intro eb
    have eb : b = g := eb
    subst eb
    rw [hM o] at hv
    cases hv

theorem mem_new (h : MemOk M w) {g : Nat} (hg : w.heap.size ≤ g) : ∀ o, M g o = none := fun o => by
  cases hm : M g o with
  | none => rfl
  | some v => exact absurd (h.lt hm) (Nat.not_lt.2 hg)

/-! ### Rows as lists of cells -/

/-- The cells of a list's elements, one behind the other. -/
structure Flat (M : Mem) (t : Ty) (xs : List (Dat t)) (X : List Value) : Prop where
  len : X.length = xs.length * t.sz
  one : ∀ u ∈ X, u.oneCell' = true
  row : ∀ (i : Nat) (x : Dat t), xs[i]? = some x → ∃ us, RepS M t x us ∧ ∀ (j : Nat) (u : Value), us[j]? = some u → X[i * t.sz + j]? = some u

theorem Flat.take {t : Ty} {xs : List (Dat t)} {X : List Value} (h : Flat M t xs X) (n : Nat) : Flat M t (xs.take n) (X.take (n * t.sz)) := by
  refine ⟨?_, fun u hu => h.one u (List.mem_of_mem_take hu), fun i x hx => ?_⟩
  · rw [List.length_take, List.length_take, h.len]
    rcases Nat.le_total n xs.length with q | q
    · rw [Nat.min_eq_left q, Nat.min_eq_left (Nat.mul_le_mul_right _ q)]
    · rw [Nat.min_eq_right q, Nat.min_eq_right (Nat.mul_le_mul_right _ q)]
  · rw [List.getElem?_take] at hx
    split at hx
    · rename_i hi
      obtain ⟨us, a, b⟩ := h.row i x hx
      refine ⟨us, a, fun j u hu => ?_⟩
      have hj : j < t.sz := by rw [← a.len]; exact (List.getElem?_eq_some_iff.1 hu).1
      have : (i + 1) * t.sz ≤ n * t.sz := Nat.mul_le_mul_right _ hi
      rw [Nat.add_mul, Nat.one_mul] at this
      rw [List.getElem?_take, if_pos (by omega)]
      exact b j u hu
    · cases hx

theorem Flat.drop {t : Ty} {xs : List (Dat t)} {X : List Value} (h : Flat M t xs X) (n : Nat) : Flat M t (xs.drop n) (X.drop (n * t.sz)) := by
  refine ⟨?_, fun u hu => h.one u (List.mem_of_mem_drop hu), fun i x hx => ?_⟩
  · rw [List.length_drop, List.length_drop, h.len, Nat.sub_mul]
  · rw [List.getElem?_drop] at hx
    obtain ⟨us, a, b⟩ := h.row (n + i) x hx
    refine ⟨us, a, fun j u hu => ?_⟩
    rw [List.getElem?_drop, show n * t.sz + (i * t.sz + j) = (n + i) * t.sz + j by rw [Nat.add_mul]; omega]
    exact b j u hu

theorem Flat.append {t : Ty} {xs ys : List (Dat t)} {X Y : List Value} (h : Flat M t xs X) (g : Flat M t ys Y) : Flat M t (xs ++ ys) (X ++ Y) := by
  refine ⟨?_, fun u hu => ?_, fun i x hx => ?_⟩
  · rw [List.length_append, List.length_append, h.len, g.len, Nat.add_mul]
  · rcases List.mem_append.1 hu with hu | hu
    · exact h.one u hu
    · exact g.one u hu
  · have := RowIn.join (M := M) (t := t) h.len h.row g.row (cur := (X ++ Y).toArray) (rest := []) (by simp) i x hx
    obtain ⟨us, a, b⟩ := this
    exact ⟨us, a, fun j u hu => by have := b j u hu; simpa using this⟩

theorem Flat.rowIn {t : Ty} {xs : List (Dat t)} {X : List Value} (h : Flat M t xs X) {rest : List Value} {cur : Array Value} (hc : cur.toList = X ++ rest) : RowIn M t xs cur := by
  have := RowIn.join (M := M) (t := t) (ys := []) (news := []) (rest := rest) h.len h.row (by simp) (cur := cur) (by simpa using hc)
  simpa using this

/-- The cells of a row that is handed over. -/
theorem flat_of_row {g : Nat} {cur : Array Value} {e : TypeId} {t : Ty} {xs : List (Dat t)} {c : Nat} (hg : w.heap[g]? = some (.cells cur e (0, 0))) (hr : RowIn M t xs cur) (hl : xs.length ≤ c) (hs : cur.size = c * t.sz) :
    ∃ X, Flat M t xs X ∧ cur.toList = X ++ cur.toList.drop (xs.length * t.sz) ∧ ∀ j u, X[j]? = some u → w.cell? ⟨g, j, none⟩ = some u := by
  obtain ⟨X, n1, n2, n3, n4⟩ := flat_rows (M := M) (w := w) (b := g) xs 0 (fun i x hx => by
    obtain ⟨us, a, b⟩ := hr i x hx
    exact ⟨us, a, fun j u hu => by rw [cell_of_row w g _ cur e (0, 0) hg, Nat.zero_add]; exact b j u hu⟩)
  have hcell : ∀ j u, X[j]? = some u → w.cell? ⟨g, j, none⟩ = some u := fun j u hu => by have := n2 j u hu; rwa [Nat.zero_add] at this
  refine ⟨X, ⟨n1, n3, n4⟩, ?_, hcell⟩
  have hcl : cur.toList.length = c * t.sz := by rw [← hs]; exact Array.length_toList
  have hle : xs.length * t.sz ≤ c * t.sz := Nat.mul_le_mul_right _ hl
  have : X = cur.toList.take (xs.length * t.sz) := by
    apply List.ext_getElem?
    intro j
    rw [List.getElem?_take]
    by_cases hj : j < xs.length * t.sz
    · rw [if_pos hj, List.getElem?_eq_getElem (by rw [n1]; exact hj)]
      have := hcell j _ (List.getElem?_eq_getElem (by rw [n1]; exact hj))
      rw [cell_of_row w g _ cur e (0, 0) hg] at this
      rw [Array.getElem?_toList]
      exact this.symm
    · rw [if_neg hj, List.getElem?_eq_none_iff.2 (by rw [n1]; omega)]
  rw [this, List.take_append_drop]

/-! ### slices.Insert -/

/-- What a walk of the code shows: S, I: the types []e and int; O: slices.overlaps; k: an element's cells. -/
structure InsWalks (P : Program) (f O : FuncId) (S T I : TypeId) (k : Nat) : Prop where
  enter : ∀ args w, (callFunc f args).run P w = .ok (.enter f args) w
  ends : ∀ {A : Option Addr} {n c m c2 g2 : Nat} {w W : World} {r : Value}, 0 < m → (∀ ty, (Builtin.append_ #[S, T] ty #[.slice A n c, .slice (some ⟨g2, 0, none⟩) m c2]).run P w = .ok r W) →
    Calls P f #[.slice A n c, .int .i64 n, .slice (some ⟨g2, 0, none⟩) m c2] w fun e w' => e = .returned r ∧ w' = W
  grow : ∀ {g h i n c m c2 g2 G : Nat} {w W1 W2 W3 : World} {r1 r2 : Value}, 0 < m → i < n → n ≤ c → c < n + m → n + m ≤ G → G ≤ 9223372036854775807 →
    (∀ ty, (Builtin.append_ #[S, I] ty #[.slice (some ⟨g, 0, none⟩) i c, .int .i64 ((n : Int) + (m : Int) - (i : Int))]).run P w = .ok (.slice (some ⟨h, 0, none⟩) (n + m) G) W1) →
    (∀ ty dc, (Builtin.copy_ #[S, T] ty #[.slice (some ⟨h, i * k, none⟩) (n + m - i) dc, .slice (some ⟨g2, 0, none⟩) m c2]).run P W1 = .ok r1 W2) →
    (∀ ty dc sc, (Builtin.copy_ #[S, S] ty #[.slice (some ⟨h, (i + m) * k, none⟩) (n + m - (i + m)) dc, .slice (some ⟨g, i * k, none⟩) (n - i) sc]).run P W2.drew = .ok r2 W3) →
    Calls P f #[.slice (some ⟨g, 0, none⟩) n c, .int .i64 i, .slice (some ⟨g2, 0, none⟩) m c2] w fun e w' => e = .returned (.slice (some ⟨h, 0, none⟩) (n + m) G) ∧ w' = W3
  shift : ∀ {g i n c m c2 g2 : Nat} {w W1 W2 : World} {r1 r2 : Value}, 0 < m → i < n → n + m ≤ c → c ≤ 9223372036854775807 →
    (∀ lb cb, (callFunc O #[.slice (some ⟨g2, 0, none⟩) m c2, .slice (some ⟨g, (i + m) * k, none⟩) lb cb]).run P w = .ok (.value (.bool false)) w) →
    (∀ ty dc sc, (Builtin.copy_ #[S, S] ty #[.slice (some ⟨g, (i + m) * k, none⟩) (n + m - (i + m)) dc, .slice (some ⟨g, i * k, none⟩) (n + m - i) sc]).run P w.drew = .ok r1 W1) →
    (∀ ty dc, (Builtin.copy_ #[S, T] ty #[.slice (some ⟨g, i * k, none⟩) (n + m - i) dc, .slice (some ⟨g2, 0, none⟩) m c2]).run P W1 = .ok r2 W2) →
    Calls P f #[.slice (some ⟨g, 0, none⟩) n c, .int .i64 i, .slice (some ⟨g2, 0, none⟩) m c2] w fun e w' => e = .returned (.slice (some ⟨g, 0, none⟩) (n + m) c) ∧ w' = W2

/-- slices.Insert as a function of lists. -/
def insF {α : Type} (bytes : Nat) (xs : List α) (i : Int) (vs : List α) : Option (List α) :=
  bif decide (0 ≤ i) && decide (i ≤ xs.length) && Nat.ble 1 vs.length && Nat.ble ((xs.length + vs.length) * bytes) 140737488355328 then some (xs.take i.toNat ++ vs ++ xs.drop i.toNat) else none

def insCal (f : FuncId) (e : TypeId) (t : Ty) (bytes : Nat) : Cal := ⟨f, [.mv e t, .ro false (.int .i64), .mv e t], [⟨false, .slice t, [e]⟩], fun x => insF bytes x.1 x.2.1 x.2.2⟩

theorem ins_ret {gs : List Nat} {W : World} {e : TypeId} {t : Ty} {ys : List (Dat t)} {v : Value} {g c : Nat} {cur : Array Value} (hgd : Good M w gs W) (hg : w.heap.size ≤ g ∨ g ∈ gs) (hM : ∀ o, M g o = none) (hpos : 0 < t.sz) (hv : v = .slice (some ⟨g, 0, none⟩) ys.length c)
    (hh : W.heap[g]? = some (.cells cur e (0, 0))) (h1 : ys.length ≤ c) (h2 : c ≤ maxLen) (h3 : cur.size = c * t.sz) (h4 : RowIn M t ys cur) : RetOk M w gs M W [⟨false, .slice t, [e]⟩] ys v :=
  ⟨Mem.le_refl _, hgd.mem, hgd.kp, fun _ _ _ h => .inl h, [v], [g], rfl, by simp, v, rfl, [v], rfl, fun _ => rfl, e, v, rfl, rfl, _, c, hv, .inr ⟨g, cur, rfl, rfl, hg, hM, hpos, hh, h1, h2, h3, h4⟩⟩

theorem setRow_size (W : World) (g : Nat) (cur : Array Value) : (W.setRow g cur).heap.size = W.heap.size := by simp

theorem append_ty {P : Program} {S T e ty : TypeId} (hS : P.underlying S = some (.slice e)) (hT : P.underlying T = some (.slice e)) (base : Option Addr) (n c : Nat) (b : Value) (w : World) :
    (Builtin.append_ #[S, T] ty #[.slice base n c, b]).run P w = (Builtin.append_ #[S, S] ty #[.slice base n c, b]).run P w := by
  simp [Builtin.append_, Sem.run_bind, run_underlying hS, run_underlying hT]

theorem ins_ok {gt : List (Nat × List AV)} {f O : FuncId} {S T I B e : TypeId} {t : Ty} {bytes : Nat} {kn : IntKind} (hw : InsWalks P f O S T I t.sz) (hS : tyElem P S = some e) (hT : tyElem P T = some e) (hI : P.underlying I = some (.int kn)) (he : elemIs P e t bytes = true)
    (hO : ∀ args w, (callFunc O args).run P w = ((Extern.SlicesOverlaps.overlaps #[T, T] #[B] args).run P w).andThen fun v w' => .ok (.value v) w') : CalOk P gt (insCal f e t bytes) := by
  refine ⟨hw.enter, fun M w (x : List (Dat t) × Int × List (Dat t)) vs0 gs (r : List (Dat t)) hm _ hargs hnd hF => ?_⟩
  obtain ⟨xs, iv, vs⟩ := x
  change insF bytes xs iv vs = some r at hF
  obtain ⟨sv, l1, g1, gr, rfl, rfl, hs, l2, l3, g4, g5, rfl, rfl, hi, vv, rfl, hv⟩ := hargs
  obtain ⟨rfl, us, rfl, _, hi⟩ := hi
  have hi : us = [.int .i64 iv] := hi
  subst hi
  change RowV M w (fun _ => True) e t xs sv g1 at hs
  change RowV M w (fun _ => True) e t vs vv g5 at hv
  unfold insF at hF
  cases hc : (decide (0 ≤ iv) && decide (iv ≤ (xs.length : Int)) && Nat.ble 1 vs.length && Nat.ble ((xs.length + vs.length) * bytes) 140737488355328) with
  | false => rw [hc] at hF; cases hF
  | true =>
    rw [hc] at hF
    simp only [cond_true, Option.some.injEq] at hF
    simp only [Bool.and_eq_true, decide_eq_true_eq] at hc
    obtain ⟨⟨⟨hi0, hi1⟩, hm1⟩, hlim⟩ := hc
    have hm0 : 0 < vs.length := Nat.le_of_ble_eq_true hm1
    have hlim := Nat.le_of_ble_eq_true hlim
    obtain ⟨i, rfl⟩ : ∃ i : Nat, iv = i := ⟨iv.toNat, by omega⟩
    rw [Int.toNat_natCast] at hF
    subst hF
    have hin : i ≤ xs.length := by omega
    obtain ⟨ti, z, hti, hsz, hby, hpos, hb0, hz, hzl, hzs⟩ := elem_run he
    have hu := elem_ty hS
    have huT := elem_ty hT
    have hsz' : tySz P e = some t.sz := by simp [tySz, hti, hsz]
    have hneed : xs.length + vs.length ≤ 140737488355328 := Nat.le_trans (Nat.le_mul_of_pos_right _ hb0) hlim
    have hylen : (xs.take i ++ vs ++ xs.drop i).length = xs.length + vs.length := by simp; omega
    -- the values
    obtain ⟨A2, c2, rfl, hv⟩ := hv
    rcases hv with ⟨_, hv0, _⟩ | ⟨g2, cur2, rfl, rfl, _, hM2, _, hg2, hv1, hv2, hv3, hv4⟩
    · rw [hv0] at hm0; simp at hm0
    obtain ⟨V, hV, hVc, hVm⟩ := flat_of_row hg2 hv4 hv1 hv3
    have hbig : maxLen = 9223372036854775807 := rfl
    -- the row
    obtain ⟨A, c, rfl, hs⟩ := hs
    show Calls P f #[.slice A xs.length c, .int .i64 i, .slice (some ⟨g2, 0, none⟩) vs.length c2] w fun e' w' => ∃ v M', e' = .returned v ∧ RetOk M w (g1 ++ ([] ++ [g2])) M' w' [⟨false, .slice t, [e]⟩] (xs.take i ++ vs ++ xs.drop i) v
    have hsrc : Go.Src P ti.size S (.slice (some ⟨g2, 0, none⟩) vs.length c2) vs.length V w := Go.Src.ofSlice w hu ⟨g2, 0, none⟩ vs.length c2 V (by rw [hsz]; exact hV.len) (fun j u hj => by rw [addr_add, Nat.zero_add]; exact hVm j u hj) hV.one
    -- a new row at the end
    have newEnd : ∀ {X : List Value}, i = xs.length → Flat M t xs X → c < xs.length + vs.length → (Builtin.firstCells ti.size xs.length (.slice A xs.length c)).run P w.drew = .ok X.toArray w.drew → xs.length ≤ c →
        Calls P f #[.slice A xs.length c, .int .i64 i, .slice (some ⟨g2, 0, none⟩) vs.length c2] w fun e' w' => ∃ v M', e' = .returned v ∧ RetOk M w (g1 ++ ([] ++ [g2])) M' w' [⟨false, .slice t, [e]⟩] (xs.take i ++ vs ++ xs.drop i) v := by
      intro X hin' hX hlt hfc hnc
      subst hin'
      have hr := fun ty => run_append_grow_src (P := P) w S S ty e ti z hu hti hz A xs.length c X hfc _ _ V hsrc hlt (by omega) (growslice_fits hlt (by rw [hby]; exact hlim))
      have hge := grownCap_ge w (xs.length + vs.length) c e
      have hle := grownCap_le_maxLen w (xs.length + vs.length) c e (by rw [hbig]; omega)
      have hcall := hw.ends hm0 (fun ty => (append_ty hu huT _ _ _ _ _).trans (hr ty))
      refine hcall.mono fun e' w' h => ?_
      obtain ⟨rfl, rfl⟩ := h
      have hys : xs.take xs.length ++ vs ++ xs.drop xs.length = xs ++ vs := by rw [List.take_length, List.drop_length, List.append_nil]
      rw [hys]
      refine ⟨_, M, rfl, ins_ret ((Good.refl hm _).drew.alloc _) (.inl (Nat.le_refl _)) (mem_new hm (Nat.le_refl _)) hpos (c := grownCap w (xs.length + vs.length) c e) (by rw [List.length_append]) (heap_alloc_new w.drew _) (by rw [List.length_append]; exact hge) hle ?_ ((hX.append hV).rowIn (rest := (Builtin.zeroCells z.cells (grownCap w (xs.length + vs.length) c e - (xs.length + vs.length))).toList) (by simp))⟩
      rw [Array.size_append, size_zeroCells, hzs, List.size_toArray, List.length_append, hX.len, hV.len, ← Nat.add_mul, ← Nat.add_mul]
      congr 1
      omega
    rcases hs with ⟨rfl, rfl, rfl⟩ | ⟨g, cur, rfl, rfl, _, hM1, _, hg, h1, h2, h3, h4⟩
    · -- an empty row without a block
      have hi00 : i = 0 := by simpa using hin
      refine newEnd (X := []) (by simpa using hi00) ⟨by simp, by simp, by simp⟩ (by simpa using hm0) ?_ (Nat.le_refl _)
      cases A <;> simp [Builtin.firstCells, loadCells, loadCellsFrom]
    · obtain ⟨X, hX, hXc, hXm⟩ := flat_of_row hg h4 h1 h3
      have hcl : cur.toList.length = c * t.sz := by rw [← h3]; exact Array.length_toList
      have hXl : X.length = xs.length * t.sz := hX.len
      have hdis : g ≠ g2 := by
        intro e0
        subst e0
        simp at hnd
      have hgs : g ∈ [g] ++ ([] ++ [g2]) := by simp
      have hglt : g < w.heap.size := (Array.getElem?_eq_some_iff.1 hg).1
      have hg2lt : g2 < w.heap.size := (Array.getElem?_eq_some_iff.1 hg2).1
      by_cases hend : i = xs.length
      · subst hend
        by_cases hroom : xs.length + vs.length ≤ c
        · have hfit : xs.length * ti.size + V.length ≤ cur.size := by
            rw [hsz, hV.len, h3, ← Nat.add_mul]
            exact Nat.mul_le_mul_right _ hroom
          have hr := fun ty => run_append_room (P := P) w S ty e ti hu hti g xs.length c cur hg ⟨g2, 0, none⟩ vs.length c2 V (by rw [hsz]; exact hV.len) (fun j u hj => by rw [addr_add, Nat.zero_add]; exact hVm j u hj) hV.one hroom hfit
          have hcall := hw.ends hm0 (fun ty => (append_ty hu huT _ _ _ _ _).trans (hr ty))
          rw [hsz] at hcall hfit
          refine hcall.mono fun e' w' h => ?_
          obtain ⟨rfl, rfl⟩ := h
          have hys : xs.take xs.length ++ vs ++ xs.drop xs.length = xs ++ vs := by rw [List.take_length, List.drop_length, List.append_nil]
          rw [hys]
          obtain ⟨s1, _, _⟩ := splice_cur (cur := cur) (o := xs.length * t.sz) (us := V) hfit
          refine ⟨_, M, rfl, ins_ret ((Good.refl hm _).setRow (.inr hgs) hM1) (.inr hgs) hM1 hpos (c := c) (by rw [List.length_append]) (setRow_heap w g cur _ e (0, 0) hg) (by rw [List.length_append]; exact hroom) h2 (by rw [s1, h3]) ((hX.append hV).rowIn (rest := cur.toList.drop (xs.length * t.sz + V.length)) ?_)⟩
          have hX2 : cur.toList.take (xs.length * t.sz) = X := by rw [hXc, List.take_append_of_le_length (by omega), ← hXl, List.take_length]
          simp only [hX2]
        · refine newEnd rfl hX (by omega) ?_ h1
          exact run_firstCells_some (P := P) w.drew ti.size xs.length ⟨g, 0, none⟩ xs.length c X (by rw [hXl, hsz]) (fun j v hj => by rw [addr_add, Nat.zero_add]; exact hXm j v hj)
      · have hilt : i < xs.length := by omega
        have hik : i * t.sz ≤ xs.length * t.sz := Nat.mul_le_mul_right _ hin
        have hdl : (X.drop (i * t.sz)).length = (xs.length - i) * t.sz := by rw [List.length_drop, hXl, Nat.sub_mul]
        have htl : (X.take (i * t.sz)).length = i * t.sz := by rw [List.length_take, hXl]; exact Nat.min_eq_left hik
        have hone : ∀ v ∈ X.drop (i * t.sz), v.oneCell' = true := fun v hv => hX.one v (List.mem_of_mem_drop hv)
        have himn : (i + vs.length) * t.sz + (xs.length - i) * t.sz = (xs.length + vs.length) * t.sz := by rw [← Nat.add_mul]; congr 1; omega
        have him : (i + vs.length) * t.sz = i * t.sz + V.length := by rw [hV.len, Nat.add_mul]
        have hflat := ((hX.take i).append hV).append (hX.drop i)
        have hres : ∀ {W : World} {h G : Nat} {cur' : Array Value} {rest : List Value}, Good M w ([g] ++ ([] ++ [g2])) W → (w.heap.size ≤ h ∨ h ∈ [g] ++ ([] ++ [g2])) → (∀ o, M h o = none) → W.heap[h]? = some (.cells cur' e (0, 0)) → xs.length + vs.length ≤ G → G ≤ maxLen → cur'.size = G * t.sz →
            cur'.toList = X.take (i * t.sz) ++ V ++ X.drop (i * t.sz) ++ rest → ∃ v M', Ending.returned (.slice (some ⟨h, 0, none⟩) (xs.length + vs.length) G) = .returned v ∧ RetOk M w ([g] ++ ([] ++ [g2])) M' W [⟨false, .slice t, [e]⟩] (xs.take i ++ vs ++ xs.drop i) v :=
          fun hgd hh hMh hW hG1 hG2 hsize hl => ⟨_, M, rfl, ins_ret hgd hh hMh hpos (by rw [hylen]) hW (by rw [hylen]; exact hG1) hG2 hsize (hflat.rowIn hl)⟩
        by_cases hroom : xs.length + vs.length ≤ c
        · -- in its place
          have hk1 : (xs.length + vs.length) * t.sz ≤ c * t.sz := Nat.mul_le_mul_right _ hroom
          have hov : ∀ lb cb, (callFunc O #[.slice (some ⟨g2, 0, none⟩) vs.length c2, .slice (some ⟨g, (i + vs.length) * t.sz, none⟩) lb cb]).run P w = .ok (.value (.bool false)) w := fun lb cb => by
            rw [hO, Lib.run_overlaps_apart w T B e huT t.sz (fun w => run_sz hsz' w) ⟨g2, 0, none⟩ ⟨g, (i + vs.length) * t.sz, none⟩ vs.length c2 lb cb (Ne.symm hdis) e e cur2.size cur.size (by simp [World.shape?, hg2]) (by simp [World.shape?, hg]) (by rw [h3]; have := Nat.mul_le_mul_right t.sz hroom; have : 0 < (xs.length + vs.length) * t.sz := Nat.mul_pos (by omega) hpos; omega) (by simp [World.frozen?, hg2]) (by simp [World.frozen?, hg2])]
            rfl
          have hmin1 : Nat.min (xs.length + vs.length - i) (xs.length + vs.length - (i + vs.length)) = xs.length - i := by simp only [Nat.min_def]; split <;> omega
          have hmin2 : Nat.min vs.length (xs.length + vs.length - i) = vs.length := by simp only [Nat.min_def]; split <;> omega
          have hc1 := fun ty dc sc => run_copy_k (P := P) w.drew (dT := S) (sT := S) (ty := ty) (dCap := dc) (sCap := sc) (o := (i + vs.length) * t.sz) (a := ⟨g, i * t.sz, none⟩) (sLen := xs.length + vs.length - i) (dLen := xs.length + vs.length - (i + vs.length)) (cs := X.drop (i * t.sz)) hu hti hg (by rw [hmin1, hdl, hsz])
            (fun j v hj => by rw [addr_add]; exact hXm _ v (by rwa [List.getElem?_drop] at hj)) (by rw [hdl, himn, h3]; exact hk1) hone
          have hg' := setRow_heap w.drew g cur (cur.toList.take ((i + vs.length) * t.sz) ++ X.drop (i * t.sz) ++ cur.toList.drop ((i + vs.length) * t.sz + (X.drop (i * t.sz)).length)).toArray e (0, 0) hg
          obtain ⟨s1, _, _⟩ := splice_cur (cur := cur) (o := (i + vs.length) * t.sz) (us := X.drop (i * t.sz)) (by rw [hdl, himn, h3]; exact hk1)
          have hc2 := fun ty dc => run_copy_k (P := P) (w.drew.setRow g (cur.toList.take ((i + vs.length) * t.sz) ++ X.drop (i * t.sz) ++ cur.toList.drop ((i + vs.length) * t.sz + (X.drop (i * t.sz)).length)).toArray) (dT := S) (sT := T) (ty := ty) (dCap := dc) (sCap := c2) (o := i * t.sz) (a := ⟨g2, 0, none⟩) (sLen := vs.length) (dLen := xs.length + vs.length - i) (cs := V) hu hti hg' (by rw [hmin2, hV.len, hsz])
            (fun j v hj => by rw [addr_add, Nat.zero_add, cell_setRow_other _ _ _ _ (Ne.symm hdis)]; exact hVm j v hj) (by rw [s1, h3, ← him]; have : (i + vs.length) * t.sz ≤ (xs.length + vs.length) * t.sz := Nat.mul_le_mul_right _ (by omega); omega) hV.one
          refine (hw.shift hm0 hilt hroom (by rw [hbig] at h2; exact h2) hov hc1 hc2).mono fun e' w' h => ?_
          obtain ⟨rfl, rfl⟩ := h
          obtain ⟨s2, _, _⟩ := splice_cur (cur := (cur.toList.take ((i + vs.length) * t.sz) ++ X.drop (i * t.sz) ++ cur.toList.drop ((i + vs.length) * t.sz + (X.drop (i * t.sz)).length)).toArray) (o := i * t.sz) (us := V) (by rw [s1, h3, ← him]; have : (i + vs.length) * t.sz ≤ (xs.length + vs.length) * t.sz := Nat.mul_le_mul_right _ (by omega); omega)
          refine hres (((Good.refl hm _).drew.setRow (.inr hgs) hM1).setRow (.inr hgs) hM1) (.inr hgs) hM1 (setRow_heap _ g _ _ e (0, 0) hg') hroom h2 (by rw [s2, s1, h3]) (rest := cur.toList.drop ((i + vs.length) * t.sz + (X.drop (i * t.sz)).length)) ?_
          have ht1 : (cur.toList.take ((i + vs.length) * t.sz)).length = (i + vs.length) * t.sz := by
            rw [List.length_take, hcl]; exact Nat.min_eq_left (Nat.mul_le_mul_right _ (by omega))
          have hd1 : (cur.toList.take ((i + vs.length) * t.sz) ++ X.drop (i * t.sz) ++ cur.toList.drop ((i + vs.length) * t.sz + (X.drop (i * t.sz)).length)).drop (i * t.sz + V.length) = X.drop (i * t.sz) ++ cur.toList.drop ((i + vs.length) * t.sz + (X.drop (i * t.sz)).length) := by
            rw [← him, List.append_assoc, List.drop_append_of_le_length (by rw [ht1]; exact Nat.le_refl _), List.drop_eq_nil_of_le (by rw [ht1]; exact Nat.le_refl _), List.nil_append]
          have hd2 : (cur.toList.take ((i + vs.length) * t.sz) ++ X.drop (i * t.sz) ++ cur.toList.drop ((i + vs.length) * t.sz + (X.drop (i * t.sz)).length)).take (i * t.sz) = X.take (i * t.sz) := by
            rw [List.append_assoc, List.take_append_of_le_length (by rw [ht1]; exact Nat.mul_le_mul_right _ (by omega)), List.take_take, Nat.min_eq_left (Nat.mul_le_mul_right _ (by omega)), hXc, List.take_append_of_le_length (by omega)]
          show List.take (i * t.sz) (cur.toList.take ((i + vs.length) * t.sz) ++ X.drop (i * t.sz) ++ cur.toList.drop ((i + vs.length) * t.sz + (X.drop (i * t.sz)).length)) ++ V ++ List.drop (i * t.sz + V.length) (cur.toList.take ((i + vs.length) * t.sz) ++ X.drop (i * t.sz) ++ cur.toList.drop ((i + vs.length) * t.sz + (X.drop (i * t.sz)).length)) = _
          rw [hd1, hd2]
          simp only [List.append_assoc]
        · -- a new row
          have hlt : c < xs.length + vs.length := by omega
          have hge := grownCap_ge w (xs.length + vs.length) c e
          have hle := grownCap_le_maxLen w (xs.length + vs.length) c e (by rw [hbig]; omega)
          have hold : (Builtin.firstCells ti.size i (.slice (some ⟨g, 0, none⟩) i c)).run P w.drew = .ok (X.take (i * t.sz)).toArray w.drew :=
            run_firstCells_some (P := P) w.drew ti.size i ⟨g, 0, none⟩ i c _ (by rw [htl, hsz]) (fun j v hj => by
              rw [addr_add, Nat.zero_add]
              rw [List.getElem?_take] at hj
              split at hj
              · exact hXm j v hj
              · cases hj)
          have hz0 := fun ty => Lib.run_append_grow_zeros w S I ty e ti z .i64 kn hu hI hti hz (some ⟨g, 0, none⟩) i c _ hold (xs.length + vs.length - i) (by omega) (by omega) (by omega) (by omega) (by rw [hby]; have := Nat.mul_le_mul_right bytes (show xs.length + vs.length - i ≤ xs.length + vs.length by omega); omega) (by rw [hby, show i + (xs.length + vs.length - i) = xs.length + vs.length by omega]; exact growslice_fits hlt hlim)
          rw [show i + (xs.length + vs.length - i) = xs.length + vs.length by omega, show ((xs.length + vs.length - i : Nat) : Int) = (xs.length : Int) + (vs.length : Int) - (i : Int) by omega] at hz0
          generalize hG : grownCap w (xs.length + vs.length) c e = G at *
          have hsz1 : ((X.take (i * t.sz)).toArray ++ Builtin.zeroCells z.cells (xs.length + vs.length - i) ++ Builtin.zeroCells z.cells (G - (xs.length + vs.length))).size = G * t.sz := by
            rw [Array.size_append, Array.size_append, size_zeroCells, size_zeroCells, hzs, List.size_toArray, htl, ← Nat.add_mul, ← Nat.add_mul]
            congr 1
            omega
          have htk : ((X.take (i * t.sz)).toArray ++ Builtin.zeroCells z.cells (xs.length + vs.length - i) ++ Builtin.zeroCells z.cells (G - (xs.length + vs.length))).toList.take (i * t.sz) = X.take (i * t.sz) := by
            simp only [Array.toList_append, List.append_assoc]
            rw [List.take_append_of_le_length (by rw [htl]; exact Nat.le_refl _), List.take_of_length_le (by rw [htl]; exact Nat.le_refl _)]
          generalize hC1 : (X.take (i * t.sz)).toArray ++ Builtin.zeroCells z.cells (xs.length + vs.length - i) ++ Builtin.zeroCells z.cells (G - (xs.length + vs.length)) = C1 at *
          have hh1 : (w.drew.alloc (.cells C1 e)).heap[w.heap.size]? = some (.cells C1 e (0, 0)) := heap_alloc_new w.drew _
          have hkG : (xs.length + vs.length) * t.sz ≤ G * t.sz := Nat.mul_le_mul_right _ hge
          have hkI : (i + vs.length) * t.sz ≤ (xs.length + vs.length) * t.sz := Nat.mul_le_mul_right _ (by omega)
          have hmin1 : Nat.min vs.length (xs.length + vs.length - i) = vs.length := by simp only [Nat.min_def]; split <;> omega
          have hmin2 : Nat.min (xs.length - i) (xs.length + vs.length - (i + vs.length)) = xs.length - i := by simp only [Nat.min_def]; split <;> omega
          have hc1 := fun ty dc => run_copy_k (P := P) (w.drew.alloc (.cells C1 e)) (dT := S) (sT := T) (ty := ty) (dCap := dc) (sCap := c2) (o := i * t.sz) (a := ⟨g2, 0, none⟩) (sLen := vs.length) (dLen := xs.length + vs.length - i) (cs := V) hu hti hh1 (by rw [hmin1, hV.len, hsz])
            (fun j v hj => by rw [addr_add, Nat.zero_add, World.cell?_alloc_lt _ _ _ hg2lt]; exact hVm j v hj) (by rw [hsz1, ← him]; omega) hV.one
          obtain ⟨s1, _, _⟩ := splice_cur (cur := C1) (o := i * t.sz) (us := V) (by rw [hsz1, ← him]; omega)
          rw [htk] at hc1 s1
          generalize hC2 : (X.take (i * t.sz) ++ V ++ C1.toList.drop (i * t.sz + V.length)).toArray = C2 at *
          have hh2 := setRow_heap (w.drew.alloc (.cells C1 e)) w.heap.size C1 C2 e (0, 0) hh1
          have hc2 := fun ty dc sc => run_copy_k (P := P) ((w.drew.alloc (.cells C1 e)).setRow w.heap.size C2).drew (dT := S) (sT := S) (ty := ty) (dCap := dc) (sCap := sc) (o := (i + vs.length) * t.sz) (a := ⟨g, i * t.sz, none⟩) (sLen := xs.length - i) (dLen := xs.length + vs.length - (i + vs.length)) (cs := X.drop (i * t.sz)) hu hti hh2 (by rw [hmin2, hdl, hsz])
            (fun j v hj => by
              show ((w.drew.alloc (.cells C1 e)).setRow w.heap.size C2).cell? _ = _
              rw [addr_add, cell_setRow_other _ _ _ _ (by show g ≠ w.heap.size; omega), World.cell?_alloc_lt _ _ _ hglt]
              exact hXm _ v (by rwa [List.getElem?_drop] at hj)) (by rw [s1, hsz1, hdl, himn]; exact hkG) hone
          refine (hw.grow hm0 hilt h1 hlt hge (by rw [hbig] at hle; exact hle) hz0 hc1 hc2).mono fun e' w' h => ?_
          obtain ⟨rfl, rfl⟩ := h
          obtain ⟨s2, _, _⟩ := splice_cur (cur := C2) (o := (i + vs.length) * t.sz) (us := X.drop (i * t.sz)) (by rw [s1, hsz1, hdl, himn]; exact hkG)
          have hnew := mem_new hm (Nat.le_refl w.heap.size)
          refine hres (((((Good.refl hm _).drew.alloc _).setRow (.inl (Nat.le_refl _)) hnew).drew).setRow (.inl (Nat.le_refl _)) hnew) (.inl (Nat.le_refl _)) hnew (setRow_heap _ w.heap.size C2 _ e (0, 0) hh2) hge hle (by rw [s2, s1, hsz1]) (rest := C2.toList.drop ((i + vs.length) * t.sz + (X.drop (i * t.sz)).length)) ?_
          have : C2.toList.take ((i + vs.length) * t.sz) = X.take (i * t.sz) ++ V := by
            rw [← hC2]
            simp only
            rw [List.take_append_of_le_length (by rw [List.length_append, htl, him]; exact Nat.le_refl _), List.take_of_length_le (by rw [List.length_append, htl, him]; exact Nat.le_refl _)]
          simp only [this, List.append_assoc]

end
end Go.R

/- slices.SortFunc by the kit's contract, as a call that changes a row in its place. -/
namespace Go.R
open Go Go.Proofs Go.Shelf Go.RowKit Go.Sort

section
variable {P : Program} {gt : List (Nat × List AV)}

def cmpArgs {agg : Bool} {t : Ty} : (cts : List PTy) → Dat t → Dat t → DatPs cts → DatPs (.ro agg t :: .ro agg t :: cts)
  | [], x, y, _ => (x, y)
  | _ :: _, x, y, z => (x, y, z)

/-- slices.SortFunc with the comparison g. -/
noncomputable def sortCal (f : FuncId) (e : TypeId) (agg : Bool) (t : Ty) (g : FuncId) (cts : List PTy) (F : DatPs (.ro agg t :: .ro agg t :: cts) → Option Int) : MCal :=
  ⟨f, e, t, some g, cts, fun xs x => sortO (fun a b => F (cmpArgs cts a b x)) xs⟩

theorem cmp_args {M : Mem} {w : World} {agg : Bool} {t : Ty} {cts : List PTy} {x y : Dat t} {z : DatPs cts} {cvs vx vy : List Value} (hx : RepS M t x vx) (hy : RepS M t y vy) (h1 : agg = false → t.sz = 1) (hz : ArgsP M w cts z cvs []) :
    ArgsP M w (.ro agg t :: .ro agg t :: cts) (cmpArgs cts x y z) ([oneV agg vx, oneV agg vy] ++ cvs) [] := by
  have ax : ArgP M w (.ro agg t) x (oneV agg vx) [] := ⟨rfl, vx, rfl, fun e => by rw [hx.len]; exact h1 e, hx⟩
  have ay : ArgP M w (.ro agg t) y (oneV agg vy) [] := ⟨rfl, vy, rfl, fun e => by rw [hy.len]; exact h1 e, hy⟩
  cases cts with
  | nil =>
    simp only [ArgsP] at hz
    obtain ⟨rfl, _⟩ := hz
    exact ⟨_, _, [], [], rfl, rfl, ax, _, rfl, ay⟩
  | cons p ps => exact ⟨_, _, [], [], rfl, rfl, ax, _, _, [], [], rfl, rfl, ay, hz⟩

theorem args_world {M : Mem} {w w' : World} : {cts : List PTy} → {z : DatPs cts} → {cvs : List Value} → ArgsP M w cts z cvs [] → (cts.all fun p => match p with | .ro _ _ | .pt _ => true | .mv _ _ | .mvn _ _ => false) = true → ArgsP M w' cts z cvs []
  | [], _, _, h, _ => h
  | [.ro _ _], _, _, h, _ => h
  | [.mv _ _], _, _, _, hk => by simp at hk
  | [.mvn _ _], _, _, _, hk => by simp at hk
  | .ro _ _ :: q :: ps, z, cvs, h, hk => by
    simp only [ArgsP] at h ⊢
    obtain ⟨v, vs', g1, g2, e1, e2, h1, h2⟩ := h
    obtain ⟨rfl, rfl⟩ : g1 = [] ∧ g2 = [] := by simpa using e2.symm
    exact ⟨v, vs', [], [], e1, rfl, h1, args_world h2 (by simpa using hk)⟩
  | .mv _ _ :: _ :: _, _, _, _, hk => by simp at hk
  | .mvn _ _ :: _ :: _, _, _, _, hk => by simp at hk
  | [.pt _], _, _, h, _ => h
  | .pt _ :: q :: ps, z, cvs, h, hk => by
    simp only [ArgsP] at h ⊢
    obtain ⟨v, vs', g1, g2, e1, e2, h1, h2⟩ := h
    obtain ⟨rfl, rfl⟩ : g1 = [] ∧ g2 = [] := by simpa using e2.symm
    exact ⟨v, vs', [], [], e1, rfl, h1, args_world h2 (by simpa using hk)⟩

/-- A world that has only grown. -/
theorem grown_eq {W W' : World} (h : Kp W W' (· ∈ ([] : List Nat))) : ∃ q os', W' = Sort.grow (W.drewN q) os' := by
  refine ⟨W'.drawn - W.drawn, W'.heap.extract W.heap.size W'.heap.size, ?_⟩
  have hh : W'.heap = W.heap ++ W'.heap.extract W.heap.size W'.heap.size := by
    apply Array.ext_getElem?
    intro k
    rw [Array.getElem?_append]
    split
    · rename_i hk; exact h.block k hk (by simp)
    · rename_i hk
      rw [Array.getElem?_extract]
      have := h.size
      split
      · congr 1; omega
      · rw [Array.getElem?_eq_none_iff]; omega
  have hd : W.drawn ≤ W'.drawn := h.drawn
  cases W' with
  | mk heap tape drawn os output =>
    have h1 := h.os; have h2 := h.tape; have h3 := h.output
    simp only at h1 h2 h3 hd hh
    subst h1 h2 h3
    simp only [Sort.grow, World.drewN, World.mk.injEq, true_and, and_true]
    exact ⟨hh, by omega⟩

/-- What the comparison does in a world that the sort goes through. -/
theorem cmp_calls {agg : Bool} {t : Ty} {g : FuncId} {cts : List PTy} {F : DatPs (.ro agg t :: .ro agg t :: cts) → Option Int} (hC : CalOk P gt ⟨g, .ro agg t :: .ro agg t :: cts, [⟨false, .int .i64, []⟩], F⟩) (h1 : agg = false → t.sz = 1)
    (hro : (cts.all fun p => match p with | .ro _ _ | .pt _ => true | .mv _ _ | .mvn _ _ => false) = true) {M : Mem} {w W : World} (hm : MemOk M W) (hg : GlobOk M gt) {z : DatPs cts} {cvs : List Value} (hz : ArgsP M w cts z cvs []) {x y : Dat t} {vx vy : List Value} (hx : RepS M t x vx) (hy : RepS M t y vy) {r : Int} (hr : F (cmpArgs cts x y z) = some r) :
    Calls P g (#[oneV agg vx, oneV agg vy] ++ cvs.toArray) W fun e w' => e = .returned (.int .i64 r) ∧ ∃ q os', w' = Sort.grow (W.drewN q) os' := by
  have := hC.run M W (cmpArgs cts x y z) _ [] r hm hg (cmp_args hx hy h1 (args_world hz hro)) List.nodup_nil hr
  have e1 : ([oneV agg vx, oneV agg vy] ++ cvs).toArray = #[oneV agg vx, oneV agg vy] ++ cvs.toArray := by simp
  rw [e1] at this
  refine Calls.mono this fun e w' h => ?_
  obtain ⟨v, M', rfl, hret⟩ := h
  obtain ⟨vs, hs, hv, _, ho⟩ := hret.out
  obtain ⟨u, hu, us, hus, _, ho⟩ := ho
  obtain ⟨ho, _⟩ := ho
  refine ⟨?_, grown_eq hret.kp⟩
  rw [hv, hu, hus, ho]
  rfl

theorem CmpOk.swo {α β : Type} {cf : α → α → Int} (h : CmpOk cf) (f : β → α) : SWO (ltOf fun x y => cf (f x) (f y)) where
  irrefl x := by have := h.neg (f x) (f x); simp only [ltOf, decide_eq_false_iff_not]; omega
  trans x y z h1 h2 := by simp only [ltOf, decide_eq_true_eq] at *; exact h.trans _ _ _ h1 h2
  ntrans x y z h1 h2 := by simp only [ltOf, decide_eq_false_iff_not, Int.not_lt] at *; exact h.ntrans _ _ _ h1 h2

/-- What the kit's sort leaves is the list in order. -/
theorem sorted_of_kit {M : Mem} {t : Ty} {xs : List (Dat t)} [Inhabited (Elt M t xs)] {cmp : Dat t → Dat t → Option Int} {ys : List (Dat t)} {cf : Dat t → Dat t → Int} (hl : xs.length < 4611686018427387904) (hc : CmpOk cf) (he : ∀ x ∈ xs, ∀ y ∈ xs, cmp x y = some (cf x y)) (hd : xs.Pairwise (fun x y => cf x y ≠ 0)) (hF : sortO cmp xs = some ys)
    {d : List (Elt M t xs)} (hdx : d.map (·.1.1) = xs) {d' : Array (Elt M t xs)} (hp : PermIn 0 d.toArray.size d.toArray d') (hs : SortedIn (ltOf fun x y : Elt M t xs => cf x.1.1 y.1.1) 0 d.toArray.size d') : d'.toList.map (·.1.1) = ys := by
  have hperm : d'.toList.Perm d := by
    have := hp.2.2
    have e1 : d'.extract 0 d.toArray.size = d' := by rw [← hp.1]; exact Array.extract_size
    rw [e1, Array.extract_size] at this
    simpa using this
  have hpm : (d'.toList.map (·.1.1)).Perm xs := by
    have := hperm.map (·.1.1)
    rwa [hdx] at this
  have hd2 := hd.perm hpm.symm (fun {x y} h => by have := hc.neg x y; omega)
  refine SortedBy.unique (cmp := cmp) (xs := xs) ⟨hl, cf, hc, he, hd, hpm, ?_⟩ (sortO_some hF)
  rw [List.pairwise_iff_getElem] at hd2 ⊢
  intro i j hi hj hij
  have h1 := hd2 i j hi hj hij
  simp only [List.length_map, Array.length_toList] at hi hj
  have h2 := hs i j (Nat.zero_le _) hij (by rw [← hp.1]; exact hj)
  rw [getElem!_pos d' i hi, getElem!_pos d' j hj] at h2
  simp only [ltOf, decide_eq_false_iff_not, Int.not_lt] at h2
  simp only [List.getElem_map, Array.getElem_toList] at h1 ⊢
  have := hc.neg d'[i].1.1 d'[j].1.1
  omega

theorem flat_cells {α : Type} [Inhabited α] {enc : α → List Value} {k : Nat} (hk : ∀ x, (enc x).length = k) {d : Array α} {i : Nat} {p : α} (hp : d[i]? = some p) {j : Nat} {u : Value} (hu : (enc p)[j]? = some u) : (flatK enc k d)[i * k + j]? = some u := by
  have hi := (Array.getElem?_eq_some_iff.1 hp).1
  have hj : j < k := by rw [← hk p]; exact (List.getElem?_eq_some_iff.1 hu).1
  have hlt : i * k + j < d.size * k := by
    have := Nat.mul_le_mul_right k (show i + 1 ≤ d.size from hi)
    rw [Nat.add_mul, Nat.one_mul] at this
    omega
  rw [getElem?_pos _ _ (by rw [size_flatK]; exact hlt)]
  have := get_flatK enc k d _ hlt
  rw [getElem!_pos _ _ (by rw [size_flatK]; exact hlt)] at this
  have k0 : 0 < k := by omega
  have e1 : (i * k + j) / k = i := by rw [Nat.mul_comm, Nat.mul_add_div k0, Nat.div_eq_of_lt hj, Nat.add_zero]
  have e2 : (i * k + j) % k = j := by rw [Nat.mul_comm, Nat.mul_add_mod, Nat.mod_eq_of_lt hj]
  rw [this, e1, e2, getElem!_pos d i hi]
  have e3 : d[i] = p := (Array.getElem?_eq_some_iff.1 hp).2
  rw [e3, getElem!_pos (enc p) j (by rw [hk]; exact hj)]
  exact congrArg some (List.getElem?_eq_some_iff.1 hu).2

theorem flat_inv {α : Type} [Inhabited α] {enc : α → List Value} {k : Nat} (hk : ∀ x, (enc x).length = k) {d : Array α} {o : Nat} {u : Value} (h : (flatK enc k d)[o]? = some u) : ∃ p, d[o / k]? = some p ∧ (enc p)[o % k]? = some u ∧ o = o / k * k + o % k := by
  have ho := (Array.getElem?_eq_some_iff.1 h).1
  have ho' : o < d.size * k := by rwa [size_flatK] at ho
  have k0 : 0 < k := by rcases Nat.eq_zero_or_pos k with h | h; · subst h; simp at ho'
                        · exact h
  have hi : o / k < d.size := Nat.div_lt_of_lt_mul (by rwa [Nat.mul_comm] at ho')
  have hj : o % k < k := Nat.mod_lt _ k0
  have e := get_flatK enc k d o ho'
  rw [getElem!_pos (flatK enc k d) o ho, (Array.getElem?_eq_some_iff.1 h).2, getElem!_pos d (o / k) hi, getElem!_pos (enc d[o / k]) (o % k) (by rw [hk]; exact hj)] at e
  exact ⟨d[o / k], Array.getElem?_eq_getElem hi, by rw [e]; exact List.getElem?_eq_getElem _, (Nat.div_add_mod' o k).symm⟩

/-- slices.SortFunc at structs. -/
theorem sortK_ok {ρ : Ren} (L : SlLaysF0.n6 P ρ) {e : TypeId} {t : Ty} {g : FuncId} {cts : List PTy} {F : DatPs (.ro true t :: .ro true t :: cts) → Option Int} (aE : ∀ w, (isAgg (ρ.t 24)).run P w = .ok true w) (zE : ∀ w, (Go.sizeOf (ρ.t 24)).run P w = .ok t.sz w)
    (hC : CalOk P gt ⟨g, .ro true t :: .ro true t :: cts, [⟨false, .int .i64, []⟩], F⟩) (hro : (cts.all fun p => match p with | .ro _ _ | .pt _ => true | .mv _ _ | .mvn _ _ => false) = true) : MCalOk P gt (sortCal (ρ.f 6) e true t g cts F) := by
  refine ⟨L.f6.enters rfl, fun xs x ys h => (sortO_some h).2.choose_spec.2.2.2.1.length_eq, fun M w (xs : List (Dat t)) (x : DatPs cts) v cvs gs (ys : List (Dat t)) hm hg hrow hargs hF => ?_⟩
  obtain ⟨hl, cf, hc, he, hd, hperm, _⟩ := sortO_some hF
  change RowV M w (fun _ => True) e t xs v gs at hrow
  show Calls P (ρ.f 6) #[v, .func (.func g) #[] cvs.toArray] w fun e' w' => e' = .returned (.tuple #[]) ∧ MemOk M w' ∧ Kp w w' (· ∈ gs) ∧ RowV M w' (fun _ => True) e t ys v gs
  have hrow0 := hrow
  obtain ⟨A, c, rfl, hcase⟩ := hrow
  by_cases hx : xs = []
  · subst hx
    have hy : ys = [] := hperm.eq_nil
    subst hy
    refine (AnyF.slices_SortFunc_none L A c _ w).mono fun e' w' h => ?_
    obtain ⟨rfl, rfl⟩ := h
    exact ⟨rfl, hm, Kp.refl _ _, hrow0⟩
  rcases hcase with ⟨_, h, _⟩ | ⟨gb, cur, rfl, rfl, _, hM, hpos, hgc, h1, h2, h3, h4⟩
  · exact absurd h hx
  obtain ⟨d, hdx, hdc⟩ := elts_of_row h4
  have hdl : d.length = xs.length := by have := congrArg List.length hdx; rwa [List.length_map] at this
  haveI : Inhabited (Elt M t xs) := ⟨d[0]'(by rw [hdl]; exact List.length_pos_iff.2 hx)⟩
  have hk : ∀ p : Elt M t xs, p.1.2.length = t.sz := fun p => p.2.1.len
  have hcmp : CmpLays P g cvs.toArray (fun p : Elt M t xs => p.1.2) t.sz (fun p q => cf p.1.1 q.1.1) gb 0 d.toArray.size w := fun m os dk _ p q =>
    cmp_calls hC (by simp) hro (put_world hm hM (flatK (fun p : Elt M t xs => p.1.2) t.sz dk) m os).1 hg hargs p.2.1 q.2.1 (he _ p.2.2 _ q.2.2)
  have hH : HoldsK (fun p : Elt M t xs => p.1.2) t.sz w gb 0 d.toArray := holds_row hgc fun o u hu => by
    obtain ⟨p, h1, h2, h3⟩ := flat_inv hk hu
    rw [h3]
    exact hdc _ p (by simpa using h1) _ u h2
  have hcon := AnyQ.slices_SortFunc L t.sz aE zE (fun p : Elt M t xs => p.1.2) hk (fun p => p.2.1.one) (fun p q => cf p.1.1 q.1.1) (hc.swo _) g cvs.toArray gb 0 c d.toArray w hC.enter hcmp hH (Array.getElem?_eq_some_iff.1 hgc).1 (by rw [List.size_toArray, hdl]; exact hl)
  have hsz : d.toArray.size = xs.length := by rw [List.size_toArray]; exact hdl
  rw [hsz] at hcon
  refine hcon.mono fun e' w' h => ?_
  obtain ⟨rfl, d', n, os, hp, hs, rfl⟩ := h
  rw [← hsz] at hp hs
  have hys := sorted_of_kit hl hc he hd hF hdx hp hs
  have hlen : ys.length = xs.length := hperm.length_eq
  have hd' : d'.size = xs.length := by rw [hp.1, hsz]
  refine ⟨rfl, (put_world hm hM _ n os).1, (put_world hm hM _ n os).2, ?_⟩
  rw [← hlen]
  refine put_row hgc hM hpos (by omega) h2 h3 (by rw [size_flatK, hd', h3]; exact Nat.mul_le_mul_right _ h1) (fun i y hy => ?_) n os
  rw [← hys, List.getElem?_map] at hy
  cases hq : d'.toList[i]? with
  | none => rw [hq] at hy; cases hy
  | some p =>
    rw [hq] at hy
    cases hy
    exact ⟨p.1.2, p.2.1, fun j u hu => flat_cells hk (by simpa using hq) hu⟩

theorem putRow_map {α : Type} [Inhabited α] (enc : α → Value) (w : World) (b o : Nat) (d : Array α) : putRow enc w b o d = putRow id w b o (d.map enc) := by
  unfold putRow
  congr 1
  funext c
  unfold putCells
  apply Array.ext_getElem?
  intro k
  simp only [Array.getElem?_mapIdx, Array.size_map]
  cases c[k]? with
  | none => rfl
  | some v =>
    simp only [Option.map_some]
    split
    · rename_i hk
      rw [getElem!_pos d (k - o) (by omega), getElem!_pos (d.map enc) (k - o) (by simpa using (by omega : k - o < d.size))]
      simp
    · rfl

/-- slices.SortFunc at elements of one cell. -/
theorem sort1_ok {ρ : Ren} (L : SlLaysF.n6 P ρ) {e : TypeId} {t : Ty} {g : FuncId} {cts : List PTy} {F : DatPs (.ro false t :: .ro false t :: cts) → Option Int} (h1t : t.sz = 1)
    (hC : CalOk P gt ⟨g, .ro false t :: .ro false t :: cts, [⟨false, .int .i64, []⟩], F⟩) (hro : (cts.all fun p => match p with | .ro _ _ | .pt _ => true | .mv _ _ | .mvn _ _ => false) = true) : MCalOk P gt (sortCal (ρ.f 6) e false t g cts F) := by
  refine ⟨L.f6.enters rfl, fun xs x ys h => (sortO_some h).2.choose_spec.2.2.2.1.length_eq, fun M w (xs : List (Dat t)) (x : DatPs cts) v cvs gs (ys : List (Dat t)) hm hg hrow hargs hF => ?_⟩
  obtain ⟨hl, cf, hc, he, hd, hperm, _⟩ := sortO_some hF
  change RowV M w (fun _ => True) e t xs v gs at hrow
  show Calls P (ρ.f 6) #[v, .func (.func g) #[] cvs.toArray] w fun e' w' => e' = .returned (.tuple #[]) ∧ MemOk M w' ∧ Kp w w' (· ∈ gs) ∧ RowV M w' (fun _ => True) e t ys v gs
  have hrow0 := hrow
  obtain ⟨A, c, rfl, hcase⟩ := hrow
  by_cases hx : xs = []
  · subst hx
    have hy : ys = [] := hperm.eq_nil
    subst hy
    refine (AnyF.slices_SortFunc_none { L with } A c _ w).mono fun e' w' h => ?_
    obtain ⟨rfl, rfl⟩ := h
    exact ⟨rfl, hm, Kp.refl _ _, hrow0⟩
  rcases hcase with ⟨_, h, _⟩ | ⟨gb, cur, rfl, rfl, _, hM, hpos, hgc, h1, h2, h3, h4⟩
  · exact absurd h hx
  obtain ⟨d, hdx, hdc⟩ := elts_of_row h4
  have hdl : d.length = xs.length := by have := congrArg List.length hdx; rwa [List.length_map] at this
  haveI : Inhabited (Elt M t xs) := ⟨d[0]'(by rw [hdl]; exact List.length_pos_iff.2 hx)⟩
  have hk : ∀ p : Elt M t xs, p.1.2.length = 1 := fun p => by rw [p.2.1.len, h1t]
  have hone : ∀ p : Elt M t xs, p.1.2 = [oneV false p.1.2] := fun p => by
    have := hk p
    match h : p.1.2, this with
    | [u], _ => rfl
  have hmem : ∀ p : Elt M t xs, oneV false p.1.2 ∈ p.1.2 := fun p => List.mem_of_getElem? (i := 0) (by
    have := congrArg (·[0]?) (hone p)
    exact this)
  have hcmp : CmpLays1 P g cvs.toArray (fun p : Elt M t xs => oneV false p.1.2) (fun p q => cf p.1.1 q.1.1) gb 0 d.toArray.size w := fun m os dk _ p q => by
    have := put_world hm hM (dk.map fun p : Elt M t xs => oneV false p.1.2) m os
    rw [← putRow_map] at this
    exact cmp_calls hC (fun _ => h1t) hro this.1 hg hargs p.2.1 q.2.1 (he _ p.2.2 _ q.2.2)
  have hH : Holds (fun p : Elt M t xs => oneV false p.1.2) w gb 0 d.toArray := fun j hj => by
    have hj' : j < d.length := by simpa using hj
    have hc0 := hdc j d[j] (List.getElem?_eq_getElem hj') 0 (oneV false d[j].1.2) (by rw [hone d[j]]; rfl)
    rw [h1t, Nat.mul_one, Nat.add_zero] at hc0
    refine ⟨?_, by simp only [World.frozen?, hgc]; simp⟩
    simp only [World.cell?, hgc, Nat.zero_add, Option.isSome_none, Bool.false_eq_true, if_false, hc0]
    rw [getElem!_pos d.toArray j hj]
    rfl
  have hcon := Any.slices_SortFunc L (fun p : Elt M t xs => oneV false p.1.2) (fun p => p.2.1.one _ (hmem p)) (fun p q => cf p.1.1 q.1.1) (hc.swo _) g cvs.toArray gb 0 c d.toArray w hC.enter hcmp hH (Array.getElem?_eq_some_iff.1 hgc).1 (by rw [List.size_toArray, hdl]; exact hl)
  have hsz : d.toArray.size = xs.length := by rw [List.size_toArray]; exact hdl
  rw [hsz] at hcon
  refine hcon.mono fun e' w' h => ?_
  obtain ⟨rfl, d', n, os, hp, hs, rfl⟩ := h
  rw [← hsz] at hp hs
  have hys := sorted_of_kit hl hc he hd hF hdx hp hs
  have hlen : ys.length = xs.length := hperm.length_eq
  have hd' : d'.size = xs.length := by rw [hp.1, hsz]
  have hw := put_world hm hM (d'.map fun p : Elt M t xs => oneV false p.1.2) n os
  unfold sortWorld
  rw [putRow_map]
  refine ⟨rfl, hw.1, hw.2, ?_⟩
  rw [← hlen]
  refine put_row hgc hM hpos (by omega) h2 h3 (by rw [Array.size_map, hd', h3, h1t, Nat.mul_one]; exact h1) (fun i y hy => ?_) n os
  rw [← hys, List.getElem?_map] at hy
  cases hq : d'.toList[i]? with
  | none => rw [hq] at hy; cases hy
  | some p =>
    rw [hq] at hy
    cases hy
    refine ⟨p.1.2, p.2.1, fun j u hu => ?_⟩
    have hj : j = 0 := by have := (List.getElem?_eq_some_iff.1 hu).1; have := hk p; omega
    subst hj
    rw [hone p] at hu
    rw [h1t, Nat.mul_one, Nat.add_zero, Array.getElem?_map, show d'[i]? = some p by simpa using hq]
    simpa using hu

end
end Go.R

/- The root of a whole number: a hand contract. -/
namespace Go.R
/-- The contract of a function whose walk is told. -/
theorem root_ok {P : Program} {gt : List (Nat × List AV)} {f : FuncId} (hent : ∀ args w, (callFunc f args).run P w = .ok (.enter f args) w)
    (hw : ∀ (n : Int) (w : World), n < 70368744177664 → Calls P f #[.int .i64 n] w fun e w' => ∃ r, rootF n = some r ∧ e = .returned (.int .i64 r) ∧ w' = w) :
    CalOk P gt ⟨f, [.ro false (.int .i64)], [⟨false, .int .i64, []⟩], fun x => rootF x⟩ := by
  refine ⟨hent, fun M w x vs gs r hM _ hA _ hF => ?_⟩
  obtain ⟨v, rfl, rfl, us, rfl, h1, hr⟩ := hA
  simp only [RepS] at hr
  subst hr
  have hx : (x : Int) < 70368744177664 := by
    rcases Int.lt_or_le x 70368744177664 with g | g
    · exact g
    · have : rootF x = none := by
        unfold rootF
        rw [decide_eq_false (by omega), decide_eq_false (by omega)]
        rfl
      change rootF x = some r at hF
      rw [this] at hF
      cases hF
  refine Calls.mono (hw x w hx) ?_
  rintro e w' ⟨r', hr', rfl, rfl⟩
  change rootF x = some r at hF
  rw [hr'] at hF
  cases hF
  exact ⟨_, M, rfl, ⟨Mem.le_refl _, hM, Kp.refl _ _, fun _ _ _ h => .inl h, [.int .i64 r], [], rfl, List.nodup_nil, _, rfl, [.int .i64 r], rfl, fun _ => rfl, rfl, rfl, rfl⟩⟩

theorem memOk_alloc {M : Mem} {w : World} (h : MemOk M w) (o : Obj) : MemOk M (w.alloc o) := fun b i v hm => by
  have hlt := h.lt hm
  have e := Go.RowKit.Below.heap_alloc w o b hlt
  have h1 := h b i v hm
  unfold World.cell? at h1 ⊢
  dsimp only at h1 ⊢
  rw [e]
  exact h1

/-- The contract of the angle of a vector: it is told of the vector that has none alone. -/
theorem of_ok {P : Program} {gt : List (Nat × List AV)} {f : FuncId} (hent : ∀ args w, (callFunc f args).run P w = .ok (.enter f args) w)
    (hw : ∀ w : World, Calls P f #[.agg #[.int .i64 0, .int .i64 0]] w fun e w' => e = .returned (.tuple #[.int .i64 0, .int .i64 10]) ∧ ∃ o, w' = w.alloc o) :
    CalOk P gt ⟨f, [.ro true (.pair (.int .i64) (.int .i64))], [⟨false, .int .i64, []⟩, ⟨false, .int .i64, []⟩], fun x => bif x.1 == 0 && x.2 == 0 then some (0, 10) else none⟩ := by
  refine ⟨hent, fun M w x vs gs r hM _ hA _ hF => ?_⟩
  obtain ⟨v, rfl, rfl, us, rfl, _, hr⟩ := hA
  simp only [RepS] at hr
  obtain ⟨v1, v2, rfl, rfl, rfl⟩ := hr
  have hx : x.1 = (0 : Int) ∧ x.2 = (0 : Int) ∧ r = ((0 : Int), (10 : Int)) := by
    change (bif (x.1 : Int) == 0 && (x.2 : Int) == 0 then some ((0 : Int), (10 : Int)) else none) = some r at hF
    by_cases h1 : (x.1 : Int) = 0
    · by_cases h2 : (x.2 : Int) = 0
      · rw [h1, h2] at hF
        exact ⟨h1, h2, (Option.some.inj hF).symm⟩
      · rw [beq_false_of_ne h2, Bool.and_false] at hF
        cases hF
    · rw [beq_false_of_ne h1, Bool.false_and] at hF
      cases hF
  obtain ⟨h1, h2, rfl⟩ := hx
  rw [h1, h2]
  refine Calls.mono (hw w) ?_
  rintro e w' ⟨rfl, o, rfl⟩
  exact ⟨_, M, rfl, ⟨Mem.le_refl _, memOk_alloc hM o, ⟨rfl, rfl, rfl, by simp, Nat.le_refl _, fun k hk _ => Go.RowKit.Below.heap_alloc w o k hk⟩, fun _ _ _ h => .inl h, [.int .i64 0, .int .i64 10], [], rfl, List.nodup_nil, _, _, [], [], rfl, rfl, ⟨[.int .i64 0], rfl, fun _ => rfl, rfl, rfl, rfl⟩, _, rfl, [.int .i64 10], rfl, fun _ => rfl, rfl, rfl, rfl⟩⟩

end Go.R

/- A function that works on a box in its place: its contract. -/
namespace Go.R
open Go

/-- The pieces are aggregates where they are said to be. -/
def aggOk : List (Bool × Nat) → List AV → Bool
  | [], [] => true
  | (b, _) :: r, v :: vs => (b == v.isAgg) && aggOk r vs
  | _, _ => false

def allTmp : List ResultVar → Bool
  | [] => true
  | .tmp _ :: l => allTmp l
  | _ :: _ => false

/-- A row of the box at the end. -/
def backMv (st : St) (e : TypeId) (t : Ty) (v : AV) : Option (List (Dat t) × List Nat) :=
  match v with
  | .nils => some ([], [])
  | .emp => some ([], [])
  | .own i => match look st.store i with
    | some (.row e' u xs) => if h : u = t then cond (Nat.beq e' e) (some (castS h xs, [i])) none else none
    | _ => none
  | .ownv i 0 (some b) => match look st.store i with
    | some (.row e' u xs) => if h : u = t then cond (Nat.beq e' e) (some ((castS h xs).take b, [i])) none else none
    | _ => none
  | _ => none

/-- A row of the box at the end, nil where it is empty. -/
def backMvn (st : St) (e : TypeId) (t : Ty) (v : AV) : Option (List (Dat t) × List Nat) :=
  match v with
  | .nils => some ([], [])
  | .ownn i => match look st.store i with
    | some (.row e' u xs) => if h : u = t then cond (Nat.beq e' e) (some (castS h xs, [i])) none else none
    | _ => none
  | _ => none

/-- A piece of the box at the end. -/
def backP (st : St) (p : PTy) (v : AV) : Option (DatP p × List Nat) :=
  match p with
  | .ro agg t => cond (agg == v.isAgg) (match dec t v.cells with
    | some x => some (x, [])
    | none => none) none
  | .mv e t => backMv st e t v
  | .mvn e t => backMvn st e t v
  | .pt _ => none

def backPs (st : St) : (ps : List PTy) → List AV → Option (DatPs ps × List Nat)
  | [], [] => some ((), [])
  | [p], [v] => backP st p v
  | p :: q :: ps, v :: vs => match backP st p v with
    | some (x, i) => match backPs st (q :: ps) vs with
      | some (y, j) => some ((x, y), i ++ j)
      | none => none
    | none => none
  | _, _ => none

def finishB (fn : Func) (e : TypeId) (sizes : List (Bool × Nat)) (ps : List PTy) (rts : List RTy) (st : St) : Option (DatPs ps × DatRs rts) :=
  match st.fs, look st.store 0, resultsOf st fn.results.toList with
  | [[.ptr 0 0 0]], some (.box e' cs), some vs => cond (Nat.beq e' e && fitS sizes cs.length && cs.all AV.oneCell && allTmp fn.results.toList) (match backPs st ps (groupA sizes cs) with
    | some (y, mv) => match resR st rts vs with
      | some (x, ids) => cond (distinct (mv ++ ids) && !((mv ++ ids).any (Nat.beq 0))) (some (y, x)) none
      | none => none
    | none => none) none
  | _, _, _ => none

def evalFnB (E : Env) (fuel : Nat) (fn : Func) (a : ACode) (e : TypeId) (sizes : List (Bool × Nat)) (ps ats : List PTy) (rts : List RTy) (x : DatPs (ps ++ ats)) : Option (DatPs ps × DatRs rts) :=
  match fn.body with
  | some c => match argsOf 1 (ps ++ ats) x with
    | (vs, d) => cond (aggOk sizes (vs.take sizes.length) && (flatA (vs.take sizes.length)).all AV.oneCell) (exec E fuel a c { norm := finishB fn e sizes ps rts, ret := finishB fn e sizes ps rts, exits := [] }
        { fr := (.ptr 0 0 0 :: vs.drop sizes.length) ++ List.replicate (fn.ntmps - (vs.drop sizes.length).length - 1) .undef, fs := [[.ptr 0 0 0]], store := (0, some (.box e (flatA (vs.take sizes.length)))) :: d, next := 1 + vs.length, dirty := [] }) none
  | none => none

section
variable {P : Program} {E : Env} {w0 : Start} {S G : Nat → Prop} {M : Mem} {ρ : Places} {L L0 : Blks} {w : World} {fr fr0 : List AV} {fs : List (List AV)} {tmps : List Value} {susp : List (List Value)} {n : Nat}

theorem SimM.adoptBox (h : SimM E w0 S G M ρ L w) {n g cap : Nat} (hn : ¬ G n) {cur : Array Value} {e : TypeId} {cs : List AV} (hg : w.heap[g]? = some (.cells cur e (0, 0)))
    (hw : w0.heap.size ≤ g ∨ S g) (hm : ∀ o, M g o = none) (hfree : ∀ id, L id ≠ none → ∀ g' c, ρ id = some (g', c) → g' ≠ g) (hr : RepL M ρ L cs cur.toList) (hb : BdL G cs) :
    SimM E w0 S (fun i => G i ∨ i = n) M (upd ρ n (some (g, cap))) (upd L n (some (.box e cs))) w ∧ Still G ρ L (upd ρ n (some (g, cap))) (upd L n (some (.box e cs))) := by
  have hst := still_fresh hn ρ L (some (g, cap)) (some (.box e cs))
  have hlive : ∀ id, upd L n (some (.box e cs)) id ≠ none → id ≠ n → L id ≠ none := fun id hl e => by rwa [upd_other _ _ e] at hl
  refine ⟨⟨h.mem, h.kp, h.glob, fun id hl g' c hr => ?_, fun id id' hl hl' g' c c' hr hr' => ?_, fun id => ?_, fun id e' cs' hl => ?_, fun id hl => ?_, h.le, h.new⟩, hst⟩
  · by_cases e : id = n
    · subst e; rw [upd_same] at hr; cases hr; exact ⟨hw, hm⟩
    · rw [upd_other _ _ e] at hr; exact h.own id (hlive id hl e) g' c hr
  · by_cases e : id = n
    · by_cases e' : id' = n
      · rw [e, e']
      · subst e
        rw [upd_same] at hr
        cases hr
        rw [upd_other _ _ e'] at hr'
        exact absurd rfl (hfree id' (hlive id' hl' e') g c' hr')
    · by_cases e' : id' = n
      · subst e'
        rw [upd_same] at hr'
        cases hr'
        rw [upd_other _ _ e] at hr
        exact absurd rfl (hfree id (hlive id hl e) g c hr)
      · rw [upd_other _ _ e] at hr
        rw [upd_other _ _ e'] at hr'
        exact h.inj id id' (hlive id hl e) (hlive id' hl' e') g' c c' hr hr'
  · by_cases e' : id = n
    · subst e'
      simp only [BlkOk, upd_same]
      exact ⟨g, cap, cur, rfl, hg, hr.mono (Mem.le_refl _) hst _ _ hb⟩
    · exact (h.blk id).keep (upd_other _ _ e') (upd_other _ _ e') (Mem.le_refl _) hst (h.bbx id) (fun _ _ _ _ => rfl)
  · by_cases e : id = n
    · subst e; rw [upd_same] at hl; cases hl; exact hb.mono (fun _ => .inl)
    · rw [upd_other _ _ e] at hl; exact (h.bbx id e' cs' hl).mono (fun _ => .inl)
  · by_cases e : id = n
    · exact .inr e
    · exact .inl (h.live id (hlive id hl e))

theorem groupV_len : (sz : List (Bool × Nat)) → (vs : List Value) → (groupV sz vs).length = sz.length
  | [], _ => rfl
  | (_, n) :: r, vs => by simp [groupV, groupV_len r]
theorem groupA_len : (sz : List (Bool × Nat)) → (vs : List AV) → (groupA sz vs).length = sz.length
  | [], _ => rfl
  | (_, n) :: r, vs => by simp [groupA, groupA_len r]

theorem cells_one {v : Value} (h : v.cells = #[v]) : v.cells.toList = [v] := by rw [h]

theorem one_of {a : AV} (h : a.isAgg = false) (ho : a.cells.all AV.oneCell = true) : a.oneCell = true := by
  cases a <;> simp_all [AV.cells, AV.isAgg]

theorem flat_args : {sz : List (Bool × Nat)} → {bs0 : List AV} → {vs : List Value} → fitS sz vs.length = true → RepL M ρ L bs0 (groupV sz vs) → aggOk sz bs0 = true → (flatA bs0).all AV.oneCell = true → flatV (groupV sz vs) = vs
  | [], bs0, vs, h, _, _, _ => by
    simp only [fitS] at h
    have := Nat.eq_of_beq_eq_true h
    rw [List.eq_nil_of_length_eq_zero this]
    rfl
  | (agg, n) :: r, bs0, vs, h, hr, ha, ho => by
    simp only [fitS, Bool.and_eq_true, Bool.or_eq_true] at h
    obtain ⟨⟨h1, h2⟩, h3⟩ := h
    have h2 := Nat.le_of_ble_eq_true h2
    simp only [groupV] at hr ⊢
    match bs0, hr, ha, ho with
    | [], hr, _, _ => simp [RepL] at hr
    | a :: bs0', hr, ha, ho =>
      simp only [RepL, List.cons.injEq] at hr
      obtain ⟨u, us, ⟨rfl, rfl⟩, hr1, hr2⟩ := hr
      simp only [aggOk, Bool.and_eq_true, beq_iff_eq] at ha
      simp only [flatA, List.flatMap_cons, List.all_append, Bool.and_eq_true] at ho
      have hA := ha.1
      have hO := ho.1
      have ih := flat_args (vs := vs.drop n) (by rw [List.length_drop]; exact h3) hr2 ha.2 ho.2
      simp only [flatV, List.flatMap_cons] at ih ⊢
      rw [ih]
      have hc : (oneV agg (vs.take n)).cells.toList = vs.take n := by
        cases agg with
        | true => simp [oneV, Value.cells]
        | false =>
          have hn : n = 1 := by
            rcases h1 with h1 | h1
            · cases h1
            · exact Nat.eq_of_beq_eq_true h1
          subst hn
          match vs, h2 with
          | v :: vs', _ =>
            have hone : a.oneCell = true := one_of hA.symm hO
            have e0 : oneV false (List.take 1 (v :: vs')) = v := rfl
            rw [e0] at hr1 ⊢
            rw [(rep_one hr1 hone).2]
            rfl
      rw [hc, List.take_append_drop]

theorem flatV_cells : {sz : List (Bool × Nat)} → {cs : List AV} → {vs : List Value} → fitS sz cs.length = true → RepL M ρ L cs vs → cs.all AV.oneCell = true → flatV (groupV sz vs) = vs
  | [], cs, vs, h, hr, _ => by
    simp only [fitS] at h
    have := Nat.eq_of_beq_eq_true h
    have hl := hr.length
    rw [List.eq_nil_of_length_eq_zero (l := vs) (by omega)]
    rfl
  | (agg, n) :: r, cs, vs, h, hr, ho => by
    simp only [fitS, Bool.and_eq_true, Bool.or_eq_true] at h
    obtain ⟨⟨h1, h2⟩, h3⟩ := h
    have h2 := Nat.le_of_ble_eq_true h2
    have hl := hr.length
    have ho2 : (cs.drop n).all AV.oneCell = true := by
      rw [List.all_eq_true] at ho ⊢
      exact fun x hx => ho x (List.mem_of_mem_drop hx)
    have ih := flatV_cells (sz := r) (cs := cs.drop n) (vs := vs.drop n) (by rw [List.length_drop]; exact h3) (hr.drop n) ho2
    simp only [groupV, flatV, List.flatMap_cons] at ih ⊢
    rw [ih]
    have hc : (oneV agg (vs.take n)).cells.toList = vs.take n := by
      cases agg with
      | true => simp [oneV, Value.cells]
      | false =>
        have hn : n = 1 := by
          rcases h1 with h1 | h1
          · cases h1
          · exact Nat.eq_of_beq_eq_true h1
        subst hn
        match cs, vs, hr, ho, h2, hl with
        | c :: cs', v :: vs', hr, ho, _, _ =>
          simp only [RepL, List.cons.injEq] at hr
          obtain ⟨_, _, ⟨rfl, rfl⟩, hr1, _⟩ := hr
          simp only [List.all_cons, Bool.and_eq_true] at ho
          have e0 : oneV false (List.take 1 (v :: vs')) = v := rfl
          rw [e0, (rep_one hr1 ho.1).2]
          rfl
        | c :: cs', [], _, _, _, hl => simp at hl
        | [], _, _, _, h2, _ => simp at h2
    rw [hc, List.take_append_drop]

theorem outS_mono {F F' : Nat → Prop} : {t : Ty} → {x : Dat t} → {es es' : List TypeId} → {us : List Value} → {gs : List Nat} → OutS M w F t x es es' us gs → (∀ g ∈ gs, F' g) → OutS M w F' t x es es' us gs
  | .int _, _, _, _, _, _, h, _ => by simpa only [OutS] using h
  | .bool, _, _, _, _, _, h, _ => by simpa only [OutS] using h
  | .str, _, _, _, _, _, h, _ => by simpa only [OutS] using h
  | .unit, _, _, _, _, _, h, _ => by simpa only [OutS] using h
  | .nsl _, _, _, _, _, _, h, _ => by simpa only [OutS] using h
  | .err, _, _, _, _, _, h, _ => by simpa only [OutS] using h
  | .slice _, _, _, _, _, _, h, hF => by
    simp only [OutS] at h ⊢
    obtain ⟨e, v, h1, h2, h3⟩ := h
    exact ⟨e, v, h1, h2, h3.mono hF⟩
  | .pair a b, p, _, _, _, _, h, hF => by
    simp only [OutS] at h ⊢
    obtain ⟨em, v1, v2, g1, g2, h1, rfl, h3, h4⟩ := h
    exact ⟨em, v1, v2, g1, g2, h1, rfl, outS_mono h3 (fun g hg => hF g (List.mem_append_left _ hg)), outS_mono h4 (fun g hg => hF g (List.mem_append_right _ hg))⟩

theorem outsP_mono {F F' : Nat → Prop} : {rts : List RTy} → {x : DatRs rts} → {vs : List Value} → {gs : List Nat} → OutsP M w F rts x vs gs → (∀ g ∈ gs, F' g) → OutsP M w F' rts x vs gs
  | [], _, _, _, h, _ => by simpa only [OutsP] using h
  | [r], x, _, _, h, hF => by
    simp only [OutsP] at h ⊢
    obtain ⟨v, h1, us, h2, h3, h4⟩ := h
    exact ⟨v, h1, us, h2, h3, outS_mono h4 hF⟩
  | r :: q :: rs, x, _, _, h, hF => by
    simp only [OutsP] at h ⊢
    obtain ⟨v, vs', g1, g2, h1, rfl, ⟨us, h2, h3, h4⟩, h5⟩ := h
    exact ⟨v, vs', g1, g2, h1, rfl, ⟨us, h2, h3, outS_mono h4 (fun g hg => hF g (List.mem_append_left _ hg))⟩, outsP_mono h5 (fun g hg => hF g (List.mem_append_right _ hg))⟩

theorem resOk_tmp : {l : List ResultVar} → {vs : List AV} → allTmp l = true → ResOk P l vs
  | [], _, _ => by simp [ResOk]
  | .tmp _ :: l, [], _ => by simp [ResOk]
  | .tmp _ :: l, _ :: vs, h => by simp only [ResOk]; exact resOk_tmp (by simpa [allTmp] using h)
  | .cell _ _ :: l, vs, h => by simp [allTmp] at h

/-- The state in which such a function begins. -/
theorem startB_sim {fn : Func} {e : TypeId} {sizes : List (Bool × Nat)} {ats : List PTy} {x : DatPs ats} {g : Nat} {cur : Array Value} {vs : List Value} {gs : List Nat} (hmem : MemOk M w) (hglob : GlobOk M E.gs) (hargs : ArgsP M w ats x (groupV sizes cur.toList ++ vs) gs) (hnd : gs.Nodup) (hgg : g ∉ gs) (hMg : ∀ o, M g o = none)
    (hheap : w.heap[g]? = some (.cells cur e (0, 0))) (hfit : fitS sizes cur.size = true) {avs : List AV} {d : List (Nat × Option Blk)} (hq : argsOf 1 ats x = (avs, d)) (hagg : aggOk sizes (avs.take sizes.length) = true) (hone : (flatA (avs.take sizes.length)).all AV.oneCell = true) :
    SimE E { toWorld := w, m := M } (· ∈ g :: gs) { fr := (.ptr 0 0 0 :: avs.drop sizes.length) ++ List.replicate (fn.ntmps - (avs.drop sizes.length).length - 1) .undef, fs := [[.ptr 0 0 0]], store := (0, some (.box e (flatA (avs.take sizes.length)))) :: d, next := 1 + avs.length, dirty := [] }
      { tmps := (.pointer (some ⟨g, 0, none⟩) :: vs).toArray ++ Array.replicate (fn.ntmps - (Value.pointer (some ⟨g, 0, none⟩) :: vs).toArray.size) undef, defers := [] } [[.pointer (some ⟨g, 0, none⟩)]] w := by
  have h0 : SimM E { toWorld := w, m := M } (· ∈ g :: gs) (fun _ => False) M (fun _ => none) (look []) w :=
    ⟨hmem, Kp.refl w _, hglob, fun id hl => absurd rfl hl, fun id _ hl => absurd rfl hl, fun id => by simp [BlkOk, look], fun id e cs hl => by simp [look] at hl, fun id hl => absurd rfl hl, Mem.le_refl _, fun b o u h => .inl h⟩
  obtain ⟨ρ, k1, k2, k3, k4⟩ := argsOf_in (w0 := { toWorld := w, m := M }) (S := (· ∈ g :: gs)) hargs hnd (fun g' hg => .inr (List.mem_cons_of_mem _ hg)) h0 (fun id hl => absurd rfl hl) (n := 1) (fun i _ h => h) hq
  have hup : ∀ i, grow (fun _ => False) d i → 1 ≤ i ∧ i < 1 + avs.length := fun i hi => by
    rcases hi with hi | ⟨b, hi⟩
    · exact hi.elim
    · exact k4 i _ hi
  have hgl : (groupV sizes cur.toList).length = sizes.length := groupV_len _ _
  have kt := k2.take sizes.length
  have kd := k2.drop sizes.length
  rw [List.take_left' hgl] at kt
  rw [List.drop_left' hgl] at kd
  have hfl := flat_args (by rw [Array.length_toList]; exact hfit) kt hagg hone
  have hrep := rep_flat kt hone
  rw [hfl] at hrep
  obtain ⟨s1, s2⟩ := k1.sim.adoptBox (n := 0) (cap := 0) (fun h => by have := hup 0 h; omega) hheap (.inr (List.mem_cons_self ..)) hMg (fun id hl g' c hr he => by
    rcases k1.places id hl g' c hr with ⟨h1, _⟩ | h1
    · exact absurd rfl h1
    · rw [he] at h1; exact hgg h1) hrep (bd_flat (k3.take _))
  have hlen := kd.length
  have hL : look ((0, some (.box e (flatA (avs.take sizes.length)))) :: d) = upd (ov d (look [])) 0 (some (.box e (flatA (avs.take sizes.length)))) := by
    rw [look_cons, ← look_ov, List.append_nil]
  have hG : ∀ i, (grow (fun _ => False) d i ∨ i = 0) → i < 1 + avs.length := fun i hi => by
    rcases hi with hi | hi
    · exact (hup i hi).2
    · omega
  have hptr : Rep M (upd ρ 0 (some (g, 0))) (upd (ov d (look [])) 0 (some (.box e (flatA (avs.take sizes.length))))) (.ptr 0 0 0) (.pointer (some ⟨g, 0, none⟩)) := by
    simp only [Rep]
    unfold PtrV
    rw [upd_same]
    exact ⟨g, 0, by rw [upd_same], rfl, rfl⟩
  refine ⟨rfl, M, upd ρ 0 (some (g, 0)), ?_⟩
  unfold SimS
  simp only [hL]
  refine { s1 with bbx := fun id e cs hl => (s1.bbx id e cs hl).mono hG, live := fun id hl => hG id (s1.live id hl), frr := ?_, fsr := ?_, bfr := ?_, bfs := ?_ }
  · simp only [Array.toList_append, Array.toList_replicate]
    refine RepL.append ?_ (RepL_undef (by simp [hlen]; omega) fun c hc => List.eq_of_mem_replicate hc)
    simp only [RepL]
    exact ⟨_, _, rfl, hptr, kd.mono (Mem.le_refl _) s2 _ _ (k3.drop _)⟩
  · simp only [RepF]
    exact ⟨_, _, rfl, by simp only [RepL]; exact ⟨_, _, rfl, hptr, rfl⟩, rfl⟩
  · refine BdL.append ?_ (BdL_undef fun c hc => List.eq_of_mem_replicate hc)
    simp only [BdL]
    exact ⟨by simp only [Bd]; omega, (k3.drop _).mono fun i hi => (hup i hi).2⟩
  · simp only [BdF, BdL, Bd]
    exact ⟨⟨by omega, trivial⟩, trivial⟩

theorem frz_self : (cs : List AV) → Frz L cs cs []
  | [] => .nil
  | _ :: cs => .other (frz_self cs)

theorem backP_in {st : St} {p : PTy} {v : AV} {x : DatP p} {mv : List Nat} (h : backP st p v = some (x, mv)) : InP (look st.store) p x v [] mv := by
  cases p with
  | ro agg t =>
    simp only [backP] at h
    cases hc : (agg == v.isAgg) with
    | false => rw [hc] at h; cases h
    | true =>
      rw [hc] at h
      simp only [cond_true] at h
      split at h
      · rename_i y hd
        simp only [Option.some.injEq, Prod.mk.injEq] at h
        obtain ⟨rfl, rfl⟩ := h
        exact ⟨rfl, (eq_of_beq hc).symm, v.cells, frz_self _, hd⟩
      · cases h
  | mv e t =>
    change backMv st e t v = some (x, mv) at h
    unfold backMv at h
    split at h
    · simp only [Option.some.injEq, Prod.mk.injEq] at h; obtain ⟨rfl, rfl⟩ := h
      exact ⟨rfl, .inl ⟨rfl, rfl, .inl rfl⟩⟩
    · simp only [Option.some.injEq, Prod.mk.injEq] at h; obtain ⟨rfl, rfl⟩ := h
      exact ⟨rfl, .inl ⟨rfl, rfl, .inr rfl⟩⟩
    · rename_i i
      split at h
      · rename_i e' u xs hl
        split at h
        · rename_i hu
          subst hu
          cases hc : Nat.beq e' e with
          | false => rw [hc] at h; cases h
          | true =>
            rw [hc] at h
            obtain rfl := Nat.eq_of_beq_eq_true hc
            simp only [cond_true, castS_self, Option.some.injEq, Prod.mk.injEq] at h
            obtain ⟨rfl, rfl⟩ := h
            exact ⟨rfl, .inr (.inl ⟨i, rfl, rfl, hl⟩)⟩
        · cases h
      · cases h
    · rename_i i b
      split at h
      · rename_i e' u xs hl
        split at h
        · rename_i hu
          subst hu
          cases hc : Nat.beq e' e with
          | false => rw [hc] at h; cases h
          | true =>
            rw [hc] at h
            obtain rfl := Nat.eq_of_beq_eq_true hc
            simp only [cond_true, castS_self, Option.some.injEq, Prod.mk.injEq] at h
            obtain ⟨rfl, rfl⟩ := h
            exact ⟨rfl, .inr (.inr ⟨i, b, xs, rfl, rfl, hl, rfl⟩)⟩
        · cases h
      · cases h
    · cases h
  | mvn e t =>
    change backMvn st e t v = some (x, mv) at h
    unfold backMvn at h
    split at h
    · simp only [Option.some.injEq, Prod.mk.injEq] at h; obtain ⟨rfl, rfl⟩ := h
      exact ⟨rfl, .inl ⟨rfl, rfl, rfl⟩⟩
    · rename_i i
      split at h
      · rename_i e' u xs hl
        split at h
        · rename_i hu
          subst hu
          cases hc : Nat.beq e' e with
          | false => rw [hc] at h; cases h
          | true =>
            rw [hc] at h
            obtain rfl := Nat.eq_of_beq_eq_true hc
            simp only [cond_true, castS_self, Option.some.injEq, Prod.mk.injEq] at h
            obtain ⟨rfl, rfl⟩ := h
            exact ⟨rfl, .inr ⟨i, rfl, rfl, hl⟩⟩
        · cases h
      · cases h
    · cases h
  | pt t => cases h

theorem backPs_in {st : St} : {ps : List PTy} → {vs : List AV} → {x : DatPs ps} → {mv : List Nat} → backPs st ps vs = some (x, mv) → InsP (look st.store) ps x vs [] mv
  | [], [], x, mv, h => by
    simp only [backPs, Option.some.injEq, Prod.mk.injEq] at h
    obtain ⟨_, rfl⟩ := h
    exact ⟨rfl, rfl, rfl⟩
  | [p], [v], x, mv, h => by
    simp only [backPs] at h
    exact ⟨v, rfl, backP_in h⟩
  | p :: q :: ps, v :: vs, x, mv, h => by
    simp only [backPs] at h
    cases h1 : backP st p v with
    | none => rw [h1] at h; cases h
    | some r1 =>
      obtain ⟨x1, i1⟩ := r1
      rw [h1] at h
      simp only at h
      cases h2 : backPs st (q :: ps) vs with
      | none => rw [h2] at h; cases h
      | some r2 =>
        obtain ⟨x2, i2⟩ := r2
        rw [h2] at h
        simp only [Option.some.injEq, Prod.mk.injEq] at h
        obtain ⟨rfl, rfl⟩ := h
        exact ⟨v, vs, [], [], i1, i2, rfl, rfl, rfl, backP_in h1, backPs_in h2⟩
  | [], _ :: _, x, mv, h => by simp [backPs] at h
  | [_], [], x, mv, h => by simp [backPs] at h
  | [_], _ :: _ :: _, x, mv, h => by simp [backPs] at h
  | _ :: _ :: _, [], x, mv, h => by simp [backPs] at h

/-- THE CONTRACT OF A FUNCTION THAT WORKS ON A BOX: what the evaluator says of it, its calls do. -/
theorem bcal_sound (hP : ProgOk P E) (hD : DrawOk P E) {fuel : Nat} {fn : Func} {c : Code} {a : ACode} {C : BCal} (hev : ∀ x, evalFnB E fuel fn a C.e C.sizes C.ps C.ats C.rts x = C.F x) (hf : P.funcs[C.f]? = some fn) (hb : fn.body = some c)
    (hent : ∀ args w, (callFunc C.f args).run P w = .ok (.enter C.f args) w) (hk : chkC P E a c = true) : BCalOk P E.gs C := by
  refine ⟨hent, fun M w x g cur vs gs r hmem hglob hargs hnd hgg hMg hheap hfit hF => ?_⟩
  rw [← hev x] at hF
  unfold evalFnB at hF
  rw [hb] at hF
  generalize hq : argsOf 1 (C.ps ++ C.ats) x = q at hF
  obtain ⟨avs, d⟩ := q
  simp only at hF
  cases hc0 : (aggOk C.sizes (avs.take C.sizes.length) && (flatA (avs.take C.sizes.length)).all AV.oneCell) with
  | false => rw [hc0] at hF; cases hF
  | true =>
    rw [hc0] at hF
    simp only [cond_true] at hF
    simp only [Bool.and_eq_true] at hc0
    have hs := startB_sim (fn := fn) hmem hglob hargs hnd hgg hMg hheap hfit hq hc0.1 hc0.2
    refine calls_of_wp hf hb ((wpIn_wide (n := 0)).1 ?_)
    refine exec_sound hP hD fuel a none _ _ c _ _ _ w _ r _ hk hs hF fun st' a' w' h1 h2 => ?_
    have fin : finishB fn C.e C.sizes C.ps C.rts st' = some r → a'.defers = [] ∧ ∃ v, (results fn a'.tmps).run P w' = .ok v w' ∧ ∃ (M' : Mem) (us' vs' : List Value) (hs1 hs2 : List Nat) (cur' : Array Value), Ending.returned v = .returned (retV vs') ∧ RetB M w [g] gs M' w' C.ps r.1 us' C.rts r.2 vs' hs1 hs2 ∧
        w'.heap[g]? = some (.cells cur' C.e (0, 0)) ∧ cur'.toList = flatV us' ∧ ∀ o, M' g o = none := by
      intro h3
      obtain ⟨hd, M', ρ', hs'⟩ := h1
      refine ⟨hd, ?_⟩
      unfold finishB at h3
      split at h3
      · rename_i e' cs avs' hfs hlk hres
        cases hcc : (Nat.beq e' C.e && fitS C.sizes cs.length && cs.all AV.oneCell && allTmp fn.results.toList) with
        | false => rw [hcc] at h3; cases h3
        | true =>
          rw [hcc] at h3
          simp only [cond_true] at h3
          simp only [Bool.and_eq_true] at hcc
          obtain ⟨⟨⟨hee, hfit'⟩, hone'⟩, htmp⟩ := hcc
          obtain rfl := Nat.eq_of_beq_eq_true hee
          cases hpp : backPs st' C.ps (groupA C.sizes cs) with
          | none => rw [hpp] at h3; cases h3
          | some q0 =>
            obtain ⟨y0, mv0⟩ := q0
            rw [hpp] at h3
            simp only at h3
            cases hrr : resR st' C.rts avs' with
            | none => rw [hrr] at h3; cases h3
            | some q =>
              obtain ⟨y, ids⟩ := q
              rw [hrr] at h3
              simp only at h3
              cases hdis : (distinct (mv0 ++ ids) && !((mv0 ++ ids).any (Nat.beq 0))) with
              | false => rw [hdis] at h3; cases h3
              | true =>
                rw [hdis] at h3
                simp only [cond_true, Option.some.injEq] at h3
                subst h3
                simp only [Bool.and_eq_true] at hdis
                -- the box
                have hbk := hs'.blk 0
                unfold BlkOk at hbk
                rw [hlk] at hbk
                dsimp only at hbk
                obtain ⟨g', cap, cur', hρ, hg', hrep⟩ := hbk
                have hgg' : g' = g := by
                  have hfr := hs'.fsr
                  rw [hfs] at hfr
                  simp only [RepF, RepL, List.cons.injEq] at hfr
                  obtain ⟨v1, r1, ⟨rfl, rfl⟩, ⟨v2, r2, ⟨rfl, rfl⟩, hp, _⟩, _⟩ := hfr
                  simp only [Rep] at hp
                  unfold PtrV at hp
                  rw [hlk] at hp
                  dsimp only at hp
                  obtain ⟨g2, cap2, h4, _, h5⟩ := hp
                  rw [hρ] at h4
                  cases h4
                  simp only [Value.pointer.injEq, Option.some.injEq, Addr.mk.injEq] at h5
                  exact h5.1.symm
                subst hgg'
                have hown := hs'.own 0 (by rw [hlk]; simp) g' cap hρ
                obtain ⟨us, r1, r2, r3⟩ := results_run (P := P) hs' hres (resOk_tmp htmp)
                have hgr := rep_group hfit' hrep
                have hnd0 := List.nodup_append.1 (distinct_nodup hdis.1)
                have hin := backPs_in hpp
                have hlv0 := insP_live hin
                obtain ⟨gs1, p1, p2, p3⟩ := insP_args (Mem.le_refl M') hs'.toSimM hin (fun id hid => by simp at hid) (fun id hid g2 c2 hr2 => (hs'.own id (hlv0.2 id hid) g2 c2 hr2).2) hnd0.1 hgr (bd_group (hs'.bbx 0 _ _ hlk))
                obtain ⟨hs2, o1, o2, o3⟩ := resR_out hs'.toSimM hrr hnd0.2.1 r2
                have of1 : Of ρ' (look st'.store) mv0 gs1 := fun q hq => by
                  obtain ⟨i, hi, cc, hr'⟩ := p3 q hq
                  exact ⟨i, hi, cc, hr', hlv0.2 i hi⟩
                have hnot : ∀ {l : List Nat} {hs : List Nat}, Of ρ' (look st'.store) l hs → (∀ i ∈ l, i ∈ mv0 ++ ids) → ∀ q ∈ hs, w.heap.size ≤ q ∨ q ∈ gs := fun {l hs} hof hsub q hq => by
                  obtain ⟨i, hi, cc, hr', hl'⟩ := hof q hq
                  have hi0 : i ≠ 0 := fun e0 => not_any hdis.2 (by rw [← e0]; exact hsub i hi)
                  rcases (hs'.own i hl' q cc hr').1 with h6 | h6
                  · exact .inl h6
                  · rcases List.mem_cons.1 h6 with h6 | h6
                    · subst h6
                      exact absurd (hs'.inj i 0 hl' (by rw [hlk]; simp) q cc cap hr' hρ) hi0
                    · exact .inr h6
                have n1 := hnot of1 (fun i hi => List.mem_append_left _ hi)
                have n2 := hnot o2 (fun i hi => List.mem_append_right _ hi)
                refine ⟨_, r1, M', groupV C.sizes cur'.toList, us, gs1, hs2, cur', rfl, ⟨hs'.le, hs'.mem, hs'.kp, fun b o u hu => ?_, Of.nodup hs'.toSimM of1 o2 p2 o3 (distinct_nodup hdis.1), p1, n1, outsP_mono o1 n2, n2⟩, hg', (flatV_cells hfit' hrep hone').symm, hown.2⟩
                rcases hs'.new b o u hu with h6 | h6 | h6
                · exact .inl h6
                · exact .inr (.inl h6)
                · rcases List.mem_cons.1 h6 with h6 | h6
                  · subst h6
                    rw [hown.2 o] at hu
                    cases hu
                  · exact .inr (.inr h6)
      · cases h3
    refine ⟨fun h3 => fin h3, fun h3 => fin h3, fun id h3 => ?_⟩
    simp [goExit] at h3

/-- A contract that tells nothing. -/
theorem bstub_ok {gl : List (Nat × List AV)} {C : BCal} (hent : ∀ args w, (callFunc C.f args).run P w = .ok (.enter C.f args) w) (h : ∀ x, C.F x = none) : BCalOk P gl C :=
  ⟨hent, fun _ _ x _ _ _ _ _ _ _ _ _ _ _ _ _ hF => by rw [h x] at hF; cases hF⟩

end
end Go.R

/- A table of rows that are filled in their places: the steps of such a walk (a box holds the rows; one of them is a row of the call's own). -/
namespace Go.R
open Go

section
variable {P : Program} {E : Env} {w0 : Start} {S G : Nat → Prop} {M : Mem} {ρ : Places} {w : World} {susp : List (List Value)}

/-- What an operation is, its place apart. -/
def core (o : Oper) : Option Nat × Op × Option (Nat × Bool) := (o.dst, o.op, o.guard)

theorem SimE.congr {st st' : St} {a : Act} (h : SimE E w0 S st a susp w) (h1 : st'.fr = st.fr) (h2 : st'.fs = st.fs) (h3 : st'.next = st.next) (h4 : look st'.store = look st.store) : SimE E w0 S st' a susp w := by
  obtain ⟨hd, M, ρ, h⟩ := h
  refine ⟨hd, M, ρ, ?_⟩
  unfold SimS at h ⊢
  rw [h1, h2, h3, h4]
  exact h

/-- Slots are forgotten. -/
theorem SimE.mask {st : St} {a : Act} (h : SimE E w0 S st a susp w) (ts : List Nat) (d : List Nat) : SimE E w0 S { st with fr := maskAll st.fr ts, dirty := d } a susp w := by
  have hok := h.ctxOk
  obtain ⟨hd, M, ρ, h⟩ := h
  have hm := maskAll_spec ts st.fr
  refine ⟨hd, M, ρ, ctx_sim (c := { st with fr := maskAll st.fr ts, dirty := d }) h ⟨BdL.of_get fun t b hb => ?_, hok.fs, hok.bbx, hok.live⟩ hm.1 (fun t b hb => ?_) rfl (fun id => .inr (.inl rfl))⟩
  · rcases hm.2 t b hb with rfl | ⟨_, h2⟩
    · simp [Bd]
    · exact hok.fr.get h2
  · rcases hm.2 t b hb with h | ⟨_, h2⟩
    · exact .inl h
    · exact .inr h2

theorem stepR (hP : ProgOk P E) {all : Array Oper} {i : Nat} {rest : List Nat} {Q : Exit → Act → World → Prop} {st : St} {act : Act} (hs : SimE E w0 S st act susp w) {o : Oper} (ho : all[i]? = some o) {dst : Option Nat} {op : Op} (hc : core o = (dst, op, none)) {an : An} (hk : chkOp P an op = true)
    {v : AV} {d : List (Nat × Option Blk)} (h : (opQ E an op (E.eval st.fr) st.next).run (look st.store) done1 = some (v, d)) (next : ∀ a' w', SimE E w0 S (st.put dst v d) a' susp w' → wpOpsIn (Fr none) 0 P all Q rest a' w') : wpOpsIn (Fr none) 0 P all Q (i :: rest) act w := by
  simp only [core, Prod.mk.injEq] at hc
  obtain ⟨rfl, rfl, hg⟩ := hc
  exact wpOps_run ho (wanted_none hg) (opQ_nodefer h) (Oper.wp_mono (fun a' w' ha => next a' w' ha) (step_sim (X := Q) hP.cs hs hk h).1)

/-- A piece of code, told to its end: slots of no use are forgotten. -/
theorem pieceS (hP : ProgOk P E) (hD : DrawOk P E) {fuel : Nat} {a : ACode} {c : Code} {st stN : St} {act : Act} {ts : List Nat} (hk : chkC P E a c = true) (hs : SimE E w0 S st act susp w)
    (h : exec E fuel a c ⟨fun st' => some { st' with fr := maskAll st'.fr ts, dirty := [] }, fun _ => none, []⟩ st = some stN) {Q : Exit → Act → World → Prop} (hq : ∀ act' w', SimE E w0 S stN act' susp w' → Q .normal act' w') : c.wpIn (Fr none) 0 P Q act w :=
  exec_sound hP hD fuel a none w0 S c _ st act w susp stN Q hk hs h fun st' act' w' h1 _ => ⟨fun h3 => by
    simp only [Option.some.injEq] at h3
    subst h3
    exact hq _ _ (h1.mask ts []), fun h3 => (by cases h3), fun id h3 => (by simp [goExit] at h3)⟩

/-- A box's cell that holds a row takes the row under another number; what else is known is c. -/
theorem rehold {st : St} {act : Act} (hs : SimE E w0 S st act susp w) {ib a : Nat} {e : TypeId} {cs : List AV} (hb : look st.store ib = some (.box e cs)) {h : RowHole} (hl : h.locs = [.cell ib a]) (hnn : h.nn = false) {xs : List (Dat h.t)} {ids : List Nat} (hr : rowH st h = some (xs, ids)) (hnd : ids.Nodup)
    {c : St} (hlen : c.fr.length = st.fr.length) (hf : ∀ (t : Nat) (b : AV), c.fr[t]? = some b → b = .undef ∨ st.fr[t]? = some b) (hfs : st.fs = c.fs) (hcok : CtxOk c) (hbox : look c.store ib = some (.box e (cs.set a .undef))) (hids : ∀ i ∈ ids, look c.store i = none)
    (hL : ∀ id, id ≠ ib → look c.store id = none ∨ look c.store id = look st.store id) :
    SimE E w0 S { c with store := (ib, some (.box e (cs.set a (.own c.next)))) :: (c.next, some (.row h.e h.t xs)) :: c.store, next := c.next + 1 } act susp w := by
  obtain ⟨hd, M, ρ, h0⟩ := hs
  obtain ⟨id, hid, hF, hlive⟩ := rowH_inv h0 hr
  obtain ⟨u, hat, _⟩ := hF.rep (l := .cell ib a) (by rw [hl]; simp)
  have h1 := SimS.setAt h0 hat (v := .undef) (by simp [Rep]) (by simp [Bd]) (fun _ _ => by simp [Rep])
  have hst : look (st.setAt (.cell ib a) .undef).store = upd (look st.store) ib (some (.box e (cs.set a .undef))) := by
    simp only [St.setAt, hb, look_cons]
  have hfr : (st.setAt (.cell ib a) .undef).fr = st.fr := by simp only [St.setAt, hb]
  have hfs1 : (st.setAt (.cell ib a) .undef).fs = st.fs := by simp only [St.setAt, hb]
  have h2 : SimS E w0 S M ρ c.next c act.tmps.toList susp w := ctx_sim h1 hcok (by rw [hfr]; exact hlen) (by rw [hfr]; exact hf) (by rw [hfs1]; exact hfs) (fun id => by
    rw [hst]
    unfold Less
    by_cases hi : id = ib
    · subst hi; rw [upd_same]; exact .inr (.inl hbox)
    · rw [upd_other _ _ hi]
      rcases hL id hi with h | h
      · exact .inl h
      · exact .inr (.inl h))
  have hlv : ∀ id, look c.store id ≠ none → look st.store id ≠ none := fun id hq => by
    by_cases hi : id = ib
    · subst hi; rw [hb]; simp
    · rcases hL id hi with h | h
      · exact absurd h hq
      · rwa [h] at hq
  have hh : Handing E w0 S M ρ (look st.store) (ids ++ []) ρ c.next c act.tmps.toList susp w := ⟨h2, fun _ _ _ _ => rfl, fun id hq g c' hr => ⟨id, hr, hlv id hq, fun hm => by
    rw [List.append_nil] at hm
    exact hq (hids id hm)⟩⟩
  have hnew : look c.store c.next = none := by
    cases hq : look c.store c.next with
    | none => rfl
    | some b => exact absurd (hcok.live c.next (by rw [hq]; simp)) (by omega)
  have h3 := (Handing.row h0 hh (by simpa using hnd) hid hF hlive hnew).sim
  have hib : ib ≠ c.next := fun e1 => by
    have := hcok.live ib (by rw [hbox]; simp)
    omega
  rw [hl, hnn] at h3
  have hlk : look ((c.next, some (.row h.e h.t xs)) :: c.store) ib = some (.box e (cs.set a .undef)) := by
    rw [look_cons, upd_other _ _ hib]; exact hbox
  simp only [List.foldl_cons, List.foldl_nil, ownA, St.setAt, hlk, List.set_set] at h3
  exact ⟨hd, M, _, h3⟩

/-- The row in a box's cell becomes data that is only read. -/
theorem freezeCell {st : St} {act : Act} (hs : SimE E w0 S st act susp w) {ib ir a : Nat} {e e' : TypeId} {t : Ty} {cs : List AV} {ys : List (Dat t)} (hb : look st.store ib = some (.box e cs)) (ha : cs[a]? = some (.own ir)) (hrow : look st.store ir = some (.row e' t ys)) :
    SimE E w0 S { st with store := (ib, some (.box e (cs.set a (.ro 0 t ys)))) :: (ir, none) :: st.store } act susp w := by
  have hne : ib ≠ ir := fun e1 => by rw [e1, hrow] at hb; cases hb
  obtain ⟨hd, M, ρ, h0⟩ := hs
  obtain ⟨f1, f2⟩ := h0.toSimM.freezeS (I := (· = ir)) (fun id hi => by subst hi; rw [hrow]; simp) (L' := look ((ir, none) :: st.store)) (fun id hi => by subst hi; rw [look_cons, upd_same]) (fun id hi => by rw [look_cons, upd_other _ _ hi])
  have hle := freezeS_le h0.toSimM (I := (· = ir)) (fun id hi => by subst hi; rw [hrow]; simp)
  have h1 : SimS E w0 S (freezeS w M ρ (· = ir)) ρ st.next { st with store := (ir, none) :: st.store } act.tmps.toList susp w := Sim.mem' h0 f1 hle f2 (fun _ h => h)
  have hbk := h0.blk ib
  unfold BlkOk at hbk
  rw [hb] at hbk
  dsimp only at hbk
  obtain ⟨g, cap, cur, k1, k2, k3⟩ := hbk
  obtain ⟨u, hu, hrep⟩ := k3.get ha
  rw [Array.getElem?_toList] at hu
  simp only [Rep] at hrep
  have hS := own_data (M' := freezeS w M ρ (· = ir)) hle (h0.blk ir) hrow hrep (fun g cap cur hr hg o u hu => freezeS_cells (I := (· = ir)) rfl hr (by rw [cell_of_row w g o cur e' (0, 0) hg]; exact hu))
  have hat : At ρ act.tmps.toList w (.cell ib a) u := ⟨g, cap, cur, e, k1, k2, hu⟩
  have hR : ∀ L', Rep (freezeS w M ρ (· = ir)) ρ L' (.ro 0 t ys) u := fun L' => by
    simp only [Rep]
    exact ⟨by simpa [view] using hS, by simp, by simp, by simp⟩
  have h2 := SimS.setAt h1 hat (v := .ro 0 t ys) (hR _) (by simp [Bd]) (fun L' _ => hR L')
  have hlk : look ((ir, none) :: st.store) ib = some (.box e cs) := by rw [look_cons, upd_other _ _ hne]; exact hb
  simp only [St.setAt, hlk] at h2
  exact ⟨hd, _, ρ, h2⟩

/-- 'make' of rows: a box whose cells are nil. -/
theorem makeBox {st : St} {act : Act} (hs : SimE E w0 S st act [] w) {o : Oper} {dst : Nat} {ty : TypeId} {l c : Nat} (hc : core o = (some dst, .makeSlice ty (.tmp l) (.tmp c), none)) {e : TypeId} {t : Ty} {bytes : Nat} (hty : tyElem P ty = some e) (he : elemIs P e (.slice t) bytes = true)
    {n : Nat} (h1 : st.fr.getD l .undef = .int .i64 n) (h2 : st.fr.getD c .undef = .int .i64 n) (hn : bytes * n ≤ 281474976710656) (_hfs : st.fs = []) {X : Exit → Act → World → Prop} :
    o.wp P act w (fun a' w' => ∃ g, SimE E w0 S { fr := st.fr.set dst (.var (.slice (some ⟨g, 0, none⟩) n n) []), fs := [[.ptr st.next 0 0]], store := (st.next, some (.box e (List.replicate n .nils))) :: st.store, next := st.next + 1, dirty := [] } a' [[.pointer (some ⟨g, 0, none⟩)]] w') X := by
  simp only [core, Prod.mk.injEq] at hc
  obtain ⟨hdst, hop, hg⟩ := hc
  obtain ⟨hd, M, ρ, hs⟩ := hs
  have ev1 := (Sim.eval (a := act) hs (.tmp l)).1
  have ev2 := (Sim.eval (a := act) hs (.tmp c)).1
  simp only [Env.eval, h1, h2] at ev1 ev2
  have ev1 := rep_int ev1
  have ev2 := rep_int ev2
  obtain ⟨i, z, hi, hsz, hby, hpos, hb0, hz, hzl, hzs⟩ := elem_run he
  have hnb : n ≤ 281474976710656 := by
    have : 1 * n ≤ bytes * n := Nat.mul_le_mul_right _ hb0
    omega
  have hn2 : (bytes : Int) * (n : Int) ≤ 281474976710656 := by
    rw [← Int.natCast_mul]
    omega
  have hrun := run_make (P := P) w ty e i z (elem_ty hty) hi hz .i64 .i64 (n : Int) (n : Int) (by omega) (by omega) (by rw [hby]; exact hn2) (by omega)
  unfold Oper.wp
  have hsz : i.size = 1 := hsz
  have hex : (execOp act.eval o).run P w = .ok (.value (.slice (some ⟨w.heap.size, 0, none⟩) (n : Int).toNat (n : Int).toNat)) (w.alloc (.cells (madeCells z.cells ((n : Int).toNat * 1)) e)) := by
    simp only [execOp, hop, ev1, ev2, Sem.run_bind, hrun, hsz, Result.andThen_ok, Sem.run_pure]
  rw [Int.toNat_natCast] at hex
  rw [hex]
  have hcur : ∀ (j : Nat) (u : Value), (madeCells z.cells (n * 1))[j]? = some u → u = .slice none 0 0 := fun j u hu => by
    have hj : j < n := by
      have := (Array.getElem?_eq_some_iff.1 hu).1
      rw [size_madeCells] at this
      omega
    have := made_get z.cells (.slice t) hzl hzs n j 0 hj (by simp [Ty.sz])
    simp only [Ty.sz, Nat.mul_one, Nat.add_zero] at this hu
    rw [this] at hu
    simp [zvals] at hu
    exact hu.symm
  have hnils : ∀ (vs : List Value), (∀ (j : Nat) (u : Value), vs[j]? = some u → u = .slice none 0 0) → ∀ (L : Blks), RepL M ρ L (List.replicate vs.length .nils) vs := fun vs => by
    induction vs with
    | nil => intro _ L; simp [RepL]
    | cons v vs ih =>
      intro hv L
      simp only [List.length_cons, List.replicate_succ, RepL]
      exact ⟨v, vs, rfl, by simp only [Rep]; exact hv 0 v rfl, ih (fun j u hu => hv (j + 1) u (by simpa using hu)) L⟩
  have hbd : ∀ (k : Nat) (G : Nat → Prop), BdL G (List.replicate k .nils) := fun k G => BdL.of_get fun i a ha => by
    rw [List.getElem?_replicate] at ha
    split at ha
    · cases ha; simp [Bd]
    · cases ha
  have hsize : (madeCells z.cells (n * 1)).toList.length = n := by rw [Array.length_toList, size_madeCells]; omega
  have hal := hs.toSimM.alloc (n := st.next) (by omega) (b := .box e (List.replicate n .nils)) (cur := madeCells z.cells (n * 1)) (e := e) (cap := n) ⟨rfl, by
    have := hnils (madeCells z.cells (n * 1)).toList (fun j u hu => hcur j u (by rw [Array.getElem?_toList] at hu; exact hu)) (look st.store)
    rw [hsize] at this
    exact this, hbd _ _⟩
  obtain ⟨a1, a2⟩ := hal
  have up : ∀ i, (i < st.next ∨ i = st.next) → i < st.next + 1 := fun i hi => by omega
  have a1' : SimM E w0 S (fun i => i < st.next + 1) M (upd ρ st.next (some (w.heap.size, n))) (upd (look st.store) st.next (some (.box e (List.replicate n .nils)))) (w.alloc (.cells (madeCells z.cells (n * 1)) e)) := { a1 with bbx := fun id e cs hl => (a1.bbx id e cs hl).mono up, live := fun id hl => up id (a1.live id hl) }
  have h3 := Sim.mem' hs a1' (Mem.le_refl _) a2 (fun i hi => by omega)
  have h4 := Sim.put h3 dst (a := .var (.slice (some ⟨w.heap.size, 0, none⟩) n n) []) (v := .slice (some ⟨w.heap.size, 0, none⟩) n n) (by unfold Rep; exact ⟨rfl, .inl rfl⟩) (by simp [Bd, BdL])
  refine ⟨w.heap.size, by rw [put_defers]; exact hd, M, upd ρ st.next (some (w.heap.size, n)), ?_⟩
  rw [hdst, put_toList]
  unfold SimS
  simp only [look_cons]
  refine { h4 with fsr := ?_, bfs := ?_ }
  · simp only [RepF, RepL]
    refine ⟨_, _, rfl, ⟨_, _, rfl, ?_, rfl⟩, rfl⟩
    simp only [Rep, PtrV, upd_same]
    exact ⟨w.heap.size, n, rfl, trivial, rfl⟩
  · simp only [BdF, BdL, Bd]
    exact ⟨⟨by omega, trivial⟩, trivial⟩

/-- A place in such a box. -/
theorem idxBox {st : St} {act : Act} {g : Nat} (hs : SimE E w0 S st act [[.pointer (some ⟨g, 0, none⟩)]] w) {ib : Nat} (hfs : st.fs = [[.ptr ib 0 0]]) {e : TypeId} {cs : List AV} (hb : look st.store ib = some (.box e cs)) {o : Oper} {dst x i : Nat} {ty : TypeId} (hc : core o = (some dst, .indexAddr ty (.tmp x) (.tmp i), none))
    {n a : Nat} (hx : st.fr.getD x .undef = .var (.slice (some ⟨g, 0, none⟩) n n) []) (hi : st.fr.getD i .undef = .int .i64 a) (ha : a < n) {e' : TypeId} (hty : tyElem P ty = some e') (hsz : tySz P e' = some 1) {X : Exit → Act → World → Prop} :
    o.wp P act w (fun a' w' => SimE E w0 S (st.put (some dst) (.ptr ib 0 a) []) a' [[.pointer (some ⟨g, 0, none⟩)]] w') X := by
  simp only [core, Prod.mk.injEq] at hc
  obtain ⟨hdst, hop, hg⟩ := hc
  obtain ⟨hd, M, ρ, hs⟩ := hs
  have ev1 := (Sim.eval (a := act) hs (.tmp x)).1
  have ev2 := (Sim.eval (a := act) hs (.tmp i)).1
  simp only [Env.eval, hx, hi] at ev1 ev2
  have ev2 := rep_int ev2
  simp only [Rep] at ev1
  have ev1 := ev1.1
  have hrun := elem_run_idx (P := P) (w := w) hty hsz (ad := ⟨g, 0, none⟩) (n := n) (c := n) (k := .i64) (i := (a : Int)) (by omega)
  have hex : (execOp act.eval o).run P w = .ok (.value (.pointer (some ⟨g, a, none⟩))) w := by
    simp only [execOp, hop, ev1, ev2, Sem.run_bind, hrun, Result.andThen_ok, Sem.run_pure, Int.toNat_natCast]
    rw [add_plain _ rfl]
    simp
  unfold Oper.wp
  rw [hex]
  have hp := hs.fsr
  have hbf := hs.bfs
  rw [hfs] at hp hbf
  simp only [RepF, RepL, List.cons.injEq] at hp
  obtain ⟨v1, r1, ⟨rfl, rfl⟩, ⟨v2, r2, ⟨rfl, rfl⟩, hp, _⟩, _⟩ := hp
  simp only [Rep] at hp
  unfold PtrV at hp
  rw [hb] at hp
  dsimp only at hp
  obtain ⟨g2, cap2, h4, _, h5⟩ := hp
  simp only [Value.pointer.injEq, Option.some.injEq, Addr.mk.injEq] at h5
  obtain ⟨rfl, _⟩ := h5
  simp only [BdF, BdL, Bd] at hbf
  refine ⟨by rw [put_defers]; exact hd, M, ρ, ?_⟩
  rw [hdst, put_toList]
  have := Sim.put hs dst (a := .ptr ib 0 a) (v := .pointer (some ⟨g, a, none⟩)) (by
    simp only [Rep]
    unfold PtrV
    rw [hb]
    exact ⟨g, cap2, h4, rfl, rfl⟩) (by simpa [Bd] using hbf.1.1)
  exact this

/-! ### The walk -/

def unU (n : Nat) : List AV := List.replicate n .undef

/-- The slots of such a walk. -/
def tFr {O Sp : Ty} (l : List (List (Dat O))) (s : Dat Sp) (x5 x6 x7 x8 x18 x19 x26 x27 : AV) : List AV :=
  [.ro 0 (.slice O) l, .agg (cellsOf Sp s), .undef, .ptr 2 0 0, .undef, x5, x6, x7, x8] ++ unU 9 ++ [x18, x19] ++ unU 6 ++ [x26, x27] ++ unU 64

def tS {O Sp : Ty} (l : List (List (Dat O))) (s : Dat Sp) (x5 x6 x7 x8 x18 x19 x26 x27 : AV) (fs : List (List AV)) (sto : List (Nat × Option Blk)) (nx : Nat) : St :=
  { fr := tFr l s x5 x6 x7 x8 x18 x19 x26 x27, fs := fs, store := sto, next := nx, dirty := [] }

/-- All slots but those. -/
def tM (ks : List Nat) : List Nat := (List.range 92).filter fun t => !(ks.any (Nat.beq t))

/-- What is kept of a state. -/
def kp (ks : List Nat) (st : St) : Option St := some { st with fr := maskAll st.fr (tM ks), dirty := [] }

def iN (n : Nat) : AV := .int .i64 (n : Int)

theorem mapM_at {α β : Type} {f : α → Option β} : {xs : List α} → {ys : List β} → xs.mapM f = some ys → ys.length = xs.length ∧ ∀ (i : Nat) (x : α), xs[i]? = some x → ∃ y, ys[i]? = some y ∧ f x = some y
  | [], ys, h => by simp at h; subst h; simp
  | x :: xs, ys, h => by
    simp only [List.mapM_cons, Option.bind_eq_bind, Option.bind_eq_some_iff, Option.pure_def, Option.some.injEq] at h
    obtain ⟨y, h1, ys', h2, rfl⟩ := h
    obtain ⟨k1, k2⟩ := mapM_at h2
    refine ⟨by simp [k1], fun i x' hx => ?_⟩
    cases i with
    | zero => simp at hx; subst hx; exact ⟨y, by simp, h1⟩
    | succ i => simpa using k2 i x' (by simpa using hx)

theorem mapM_range {β : Type} {f : Nat → Option β} {n : Nat} {ys : List β} (h : (List.range n).mapM f = some ys) : ys.length = n ∧ ∀ a, a < n → ∃ y, ys[a]? = some y ∧ f a = some y := by
  obtain ⟨h1, h2⟩ := mapM_at h
  exact ⟨by simpa using h1, fun a ha => h2 a a (by simp [ha])⟩

theorem core_get {all : Array Oper} {l : List (Option Nat × Op × Option (Nat × Bool))} (h : all.toList.map core = l) {i : Nat} {c : Option Nat × Op × Option (Nat × Bool)} (hi : l[i]? = some c) : ∃ o, all[i]? = some o ∧ core o = c := by
  subst h
  rw [List.getElem?_map, Array.getElem?_toList] at hi
  cases ho : all[i]? with
  | none => rw [ho] at hi; cases hi
  | some o => rw [ho] at hi; exact ⟨o, rfl, by simpa using hi⟩

theorem one_box {lk : Nat → Option Blk} {a : Nat} {cs : List AV} {v : AV} (h : cs[a]? = some v) : (oneQ false 1 ((cs.drop a).take 1)).run lk done1 = some (v, []) := by
  have hd : (cs.drop a).take 1 = [v] := by
    obtain ⟨ha, rfl⟩ := List.getElem?_eq_some_iff.1 h
    rw [List.drop_eq_getElem_cons ha]
    rfl
  rw [hd]
  rfl

theorem append_own {lk : Nat → Option Blk} {e : TypeId} {t : Ty} {by2 base : Nat} {ys zs : List (Dat t)} {i j : Nat} (h4 : lk i = some (.row e t ys)) (h6 : lk j = some (.row e t zs)) (hg : Nat.ble ((ys.length + zs.length) * by2) 140737488355328 = true) :
    (appendQ e t by2 base (.own i) (.own j)).run lk done1 = some (.own base, [(base, some (.row e t (ys ++ zs))), (i, none)]) := by
  simp only [appendQ, Qn.run, h4, dif_pos, castS_self, Nat.beq_refl, cond_true, rows, h6, hg]

theorem splice_one {cs : List AV} {a : Nat} {v : AV} (h : a < cs.length) : splice cs a [v] = cs.set a v := by
  unfold splice
  rw [List.set_eq_take_append_cons_drop, if_pos h]
  simp

theorem store_box {lk : Nat → Option Blk} {ib a : Nat} {e : TypeId} {cs : List AV} {v : AV} (hl : lk ib = some (.box e cs)) (h : a < cs.length) (hc : v.cells = [v]) (ho : v.oneCell = true) : (storeQ 1 (.ptr ib 0 a) v).run lk done1 = some (.undef, [(ib, some (.box e (cs.set a v)))]) := by
  simp only [storeQ, Qn.run, hl, hc, splice_one h, List.length_singleton, List.all_cons, List.all_nil, ho, Bool.and_true]
  rw [show Nat.ble (a + 1) cs.length = true from Nat.ble_eq_true_of_le h]
  rfl

/-- A piece whose row is handed on. -/
theorem pieceJ (hP : ProgOk P E) (hD : DrawOk P E) {fuel : Nat} {a : ACode} {c : Code} {st : St} {act : Act} {s : Sig} {x : s.X} (hk : chkC P E a c = true) (hcv : s.covers (wrA a c) = true) (hs : SimE E w0 S st act susp w)
    (h : exec E fuel a c ⟨joinE s [] st, fun _ => none, []⟩ st = some x) {Q : Exit → Act → World → Prop} (hq : ∀ act' w', SimE E w0 S ((putX (st.ctx s []) s x).beyond s) act' susp w' → Q .normal act' w') : c.wpIn (Fr none) 0 P Q act w :=
  exec_sound hP hD fuel a none w0 S c _ st act w susp x Q hk hs h fun st' act' w' h1 h2 => ⟨fun h3 => by
    change joinE s [] st st' = some x at h3
    unfold joinE at h3
    cases hcl : (clean st st' ([] ++ s.boxes) && covered st' s) with
    | false => rw [hcl] at h3; cases h3
    | true =>
      rw [hcl] at h3
      simp only [cond_true] at h3
      cases hg : getX st' s with
      | none => rw [hg] at h3; cases h3
      | some q =>
        obtain ⟨x', ids⟩ := q
        rw [hg] at h3
        simp only at h3
        cases hst : strange (st.ctx s []) ids with
        | false => rw [hst] at h3; cases h3
        | true =>
          rw [hst] at h3
          simp only [cond_true, Option.some.injEq] at h3
          subst h3
          simp only [Bool.and_eq_true] at hcl
          exact hq act' w' (join_sim hs.ctxOk (fun t ht => covers_spec hcv t ht) h2 h1 hcl.1 hcl.2 hg hst), fun h3 => (by cases h3), fun id h3 => (by simp [goExit] at h3)⟩

/-! ### The region that adds a row -/

abbrev T1 : Ty := .slice .bool
abbrev T2 : Ty := .slice T1
abbrev T3 : Ty := .slice T2

/-- 'out[a] = append(out[a], row)'. -/
def tblOps (tO e3 : TypeId) : List (Option Nat × Op × Option (Nat × Bool)) :=
  [(some 79, .move (.tmp 5), none), (some 80, .move (.tmp 6), none), (some 81, .move (.tmp 5), none), (some 82, .move (.tmp 6), none), (some 83, .indexAddr tO (.tmp 81) (.tmp 82), none), (some 84, .load e3 (.tmp 83), none), (some 85, .move (.tmp 8), none),
    (some 86, .buildSlice e3 1 #[(0, .tmp 85)], none), (some 87, .call { callee := .builtin .append, args := #[.tmp 84, .tmp 86], argTypes := #[e3, e3] }, none), (some 88, .indexAddr tO (.tmp 79) (.tmp 80), none), (none, .store e3 (.tmp 88) (.tmp 87), none)]

theorem tbl_region (hP : ProgOk P E) {all : Array Oper} {tO e1 e2 e3 : TypeId} {by2 : Nat} (hall : all.toList.map core = tblOps tO e3) (hty : tyElem P tO = some e3) (hsz : tySz P e3 = some 1)
    (hk : (chkOp P (.load 1 false) (.load e3 (.tmp 83)) && chkOp P (.elem e2 T2 by2) (.buildSlice e3 1 #[(0, .tmp 85)]) && chkOp P (.elem e2 T2 by2) (.call { callee := .builtin .append, args := #[.tmp 84, .tmp 86], argTypes := #[e3, e3] }) && chkOp P (.store 1) (.store e3 (.tmp 88) (.tmp 87))) = true)
    {O Sp : Ty} {l : List (List (Dat O))} {s : Dat Sp} {g n a : Nat} {x7 x18 x19 x26 x27 : AV} {x : List (Dat T1)} {ys : List (Dat T2)} {cs : List AV} {b2 : Option Blk} {act : Act}
    (hs : SimE E w0 S (tS l s (.var (.slice (some ⟨g, 0, none⟩) n n) []) (iN a) x7 (.own 5) x18 x19 x26 x27 [[.ptr 3 0 0]] [(5, some (.row e1 T1 x)), (3, some (.box e3 cs)), (4, some (.row e2 T2 ys)), (2, b2)] 6) act [[.pointer (some ⟨g, 0, none⟩)]] w)
    (ha : a < n) (hcs : cs[a]? = some (.own 4)) (hlen : (ys.length + 1) * by2 ≤ 140737488355328) {Q : Exit → Act → World → Prop}
    (next : ∀ (a' : Act) (w' : World) (st' : St), SimE E w0 S st' a' [[.pointer (some ⟨g, 0, none⟩)]] w' → st'.fr = tFr l s (.var (.slice (some ⟨g, 0, none⟩) n n) []) (iN a) .undef .undef x18 x19 x26 x27 → st'.fs = [[.ptr 3 0 0]] → look st'.store 3 = some (.box e3 (cs.set a (.own 8))) → look st'.store 8 = some (.row e2 T2 (ys ++ [x])) → look st'.store 2 = b2 → Q .normal a' w') {i0 : Nat} :
    (Code.region i0 all false).wpIn (Fr none) 0 P Q act w := by
  simp only [Bool.and_eq_true] at hk
  obtain ⟨⟨⟨k5, k7⟩, k8⟩, k10⟩ := hk
  have hsize : all.size = 11 := by
    have := congrArg List.length hall
    simpa [tblOps] using this
  refine wpIn_region ?_
  rw [hsize, show List.range 11 = [0, 1, 2, 3, 4, 5, 6, 7, 8, 9, 10] from rfl]
  obtain ⟨o0, q0, c0⟩ := core_get hall (i := 0) rfl
  obtain ⟨o1, q1, c1⟩ := core_get hall (i := 1) rfl
  obtain ⟨o2, q2, c2⟩ := core_get hall (i := 2) rfl
  obtain ⟨o3, q3, c3⟩ := core_get hall (i := 3) rfl
  obtain ⟨o4, q4, c4⟩ := core_get hall (i := 4) rfl
  obtain ⟨o5, q5, c5⟩ := core_get hall (i := 5) rfl
  obtain ⟨o6, q6, c6⟩ := core_get hall (i := 6) rfl
  obtain ⟨o7, q7, c7⟩ := core_get hall (i := 7) rfl
  obtain ⟨o8, q8, c8⟩ := core_get hall (i := 8) rfl
  obtain ⟨o9, q9, c9⟩ := core_get hall (i := 9) rfl
  obtain ⟨o10, q10, c10⟩ := core_get hall (i := 10) rfl
  generalize hov : Value.slice (some ⟨g, 0, none⟩) n n = ov at hs next ⊢
  refine stepR hP hs q0 c0 (an := .n) rfl (v := .var ov []) (d := []) (by kernel_rfl) fun a1 w1 hs => ?_
  refine stepR hP hs q1 c1 (an := .n) rfl (v := iN a) (d := []) (by kernel_rfl) fun a2 w2 hs => ?_
  refine stepR hP hs q2 c2 (an := .n) rfl (v := .var ov []) (d := []) (by kernel_rfl) fun a3 w3 hs => ?_
  refine stepR hP hs q3 c3 (an := .n) rfl (v := iN a) (d := []) (by kernel_rfl) fun a4 w4 hs => ?_
  have hw : ∀ {o : Oper} {d : Option Nat} {op : Op}, core o = (d, op, none) → o.guard = none ∧ ∀ {v : Op}, v = op → o.op = v := fun h => by
    simp only [core, Prod.mk.injEq] at h
    exact ⟨h.2.2, fun e => by rw [e]; exact h.2.1⟩
  refine wpOps_run q4 (wanted_none (hw c4).1) (fun c h => by rw [(hw c4).2 rfl] at h; cases h) (Oper.wp_mono (fun a5 w5 hs => ?_) (idxBox hs (by kernel_rfl) (ib := 3) (e := e3) (cs := cs) (by kernel_rfl) c4 (n := n) (a := a) (by rw [hov]; kernel_rfl) (by kernel_rfl) ha hty hsz))
  refine stepR hP hs q5 c5 (an := .load 1 false) k5 (v := .own 4) (d := []) (Eq.trans (b := (oneQ false 1 ((cs.drop a).take 1)).run (look [(5, some (.row e1 T1 x)), (3, some (.box e3 cs)), (4, some (.row e2 T2 ys)), (2, b2)]) done1) (by kernel_rfl) (one_box hcs)) fun a6 w6 hs => ?_
  refine stepR hP hs q6 c6 (an := .n) rfl (v := .own 5) (d := []) (by kernel_rfl) fun a7 w7 hs => ?_
  refine stepR hP hs q7 c7 (an := .elem e2 T2 by2) k7 (v := .own 6) (d := [(6, some (.row e2 T2 [x])), (5, none)]) (by kernel_rfl) fun a8 w8 hs => ?_
  have hg8 : Nat.ble ((ys.length + 1) * by2) 140737488355328 = true := Nat.ble_eq_true_of_le hlen
  refine stepR hP hs q8 c8 (an := .elem e2 T2 by2) k8 (v := .own 8) (d := [(8, some (.row e2 T2 (ys ++ [x]))), (4, none)]) (by
    refine Eq.trans (b := (appendQ e2 T2 by2 8 (.own 4) (.own 6)).run (look ([(6, some (.row e2 T2 [x])), (5, none)] ++ [(5, some (.row e1 T1 x)), (3, some (.box e3 cs)), (4, some (.row e2 T2 ys)), (2, b2)])) done1) (by kernel_rfl) (append_own (by kernel_rfl) (by kernel_rfl) hg8)) fun a9 w9 hs => ?_
  refine wpOps_run q9 (wanted_none (hw c9).1) (fun c h => by rw [(hw c9).2 rfl] at h; cases h) (Oper.wp_mono (fun a10 w10 hs => ?_) (idxBox hs (by kernel_rfl) (ib := 3) (e := e3) (cs := cs) (by kernel_rfl) c9 (n := n) (a := a) (by rw [hov]; kernel_rfl) (by kernel_rfl) ha hty hsz))
  have hal : a < cs.length := (List.getElem?_eq_some_iff.1 hcs).1
  refine stepR hP hs q10 c10 (an := .store 1) k10 (v := .undef) (d := [(3, some (.box e3 (cs.set a (.own 8))))]) (Eq.trans (b := (storeQ 1 (.ptr 3 0 a) (.own 8)).run (look ([(8, some (.row e2 T2 (ys ++ [x]))), (4, none)] ++ ([(6, some (.row e2 T2 [x])), (5, none)] ++ [(5, some (.row e1 T1 x)), (3, some (.box e3 cs)), (4, some (.row e2 T2 ys)), (2, b2)]))) done1) (by kernel_rfl) (store_box (by kernel_rfl) hal rfl rfl)) fun a11 w11 hs => ?_
  exact next a11 w11 _ (hs.mask [7, 8, 79, 80, 81, 82, 83, 84, 85, 86, 87, 88] []) (by kernel_rfl) (by kernel_rfl) (by kernel_rfl) (by kernel_rfl) (by kernel_rfl)


theorem pieceK (hP : ProgOk P E) (hD : DrawOk P E) {fuel : Nat} {a : ACode} {c : Code} {st stN : St} {act : Act} {ks : List Nat} (hk : chkC P E a c = true) (hs : SimE E w0 S st act susp w)
    (h : exec E fuel a c ⟨kp ks, fun _ => none, []⟩ st = some stN) {Q : Exit → Act → World → Prop} (hq : ∀ act' w', SimE E w0 S stN act' susp w' → Q .normal act' w') : c.wpIn (Fr none) 0 P Q act w :=
  pieceS hP hD (ts := tM ks) hk hs h hq

/-- 'out := make(table, len(l))'. -/
def tblMk (tL tO : TypeId) : List (Option Nat × Op × Option (Nat × Bool)) :=
  [(some 14, .move (.tmp 0), none), (some 15, .call { callee := .builtin .len, args := #[.tmp 14], argTypes := #[tL] }, none), (some 16, .makeSlice tO (.tmp 15) (.tmp 15), none), (some 5, .assign (.tmp 16), none)]

theorem tbl_make (hP : ProgOk P E) {all : Array Oper} {tL tO eL e3 : TypeId} {by3 byL : Nat} {O Sp : Ty} (hall : all.toList.map core = tblMk tL tO) (hty : tyElem P tO = some e3) (he : elemIs P e3 T3 by3 = true) (hk : chkOp P (.elem eL (.slice O) byL) (.call { callee := .builtin .len, args := #[.tmp 14], argTypes := #[tL] }) = true)
    {l : List (List (Dat O))} {s : Dat Sp} {b2 : Option Blk} {act : Act} (hs : SimE E w0 S (tS l s .undef .undef .undef .undef .undef .undef .undef .undef [] [(2, b2)] 3) act [] w) (hn : by3 * l.length ≤ 281474976710656) {Q : Exit → Act → World → Prop}
    (next : ∀ (g : Nat) (a' : Act) (w' : World), SimE E w0 S (tS l s (.var (.slice (some ⟨g, 0, none⟩) l.length l.length) []) .undef .undef .undef .undef .undef .undef .undef [[.ptr 3 0 0]] [(3, some (.box e3 (List.replicate l.length .nils))), (2, b2)] 4) a' [[.pointer (some ⟨g, 0, none⟩)]] w' → Q .normal a' w') {i0 : Nat} :
    (Code.region i0 all false).wpIn (Fr none) 0 P Q act w := by
  have hsize : all.size = 4 := by
    have := congrArg List.length hall
    simpa [tblMk] using this
  refine wpIn_region ?_
  rw [hsize, show List.range 4 = [0, 1, 2, 3] from rfl]
  obtain ⟨o0, q0, c0⟩ := core_get hall (i := 0) rfl
  obtain ⟨o1, q1, c1⟩ := core_get hall (i := 1) rfl
  obtain ⟨o2, q2, c2⟩ := core_get hall (i := 2) rfl
  obtain ⟨o3, q3, c3⟩ := core_get hall (i := 3) rfl
  have hw : ∀ {o : Oper} {d : Option Nat} {op : Op}, core o = (d, op, none) → o.guard = none ∧ ∀ {v : Op}, v = op → o.op = v := fun h => by
    simp only [core, Prod.mk.injEq] at h
    exact ⟨h.2.2, fun e => by rw [e]; exact h.2.1⟩
  refine stepR hP hs q0 c0 (an := .n) rfl (v := .ro 0 (.slice O) l) (d := []) (by kernel_rfl) fun a1 w1 hs => ?_
  refine stepR hP hs q1 c1 (an := .elem eL (.slice O) byL) hk (v := iN l.length) (d := []) (by kernel_rfl) fun a2 w2 hs => ?_
  refine wpOps_run q2 (wanted_none (hw c2).1) (fun c h => by rw [(hw c2).2 rfl] at h; cases h) (Oper.wp_mono (fun a3 w3 hs => ?_) (makeBox hs c2 hty he (n := l.length) (by kernel_rfl) (by kernel_rfl) hn (by kernel_rfl)))
  obtain ⟨g, hs⟩ := hs
  refine stepR hP hs q3 c3 (an := .n) rfl (v := .var (.slice (some ⟨g, 0, none⟩) l.length l.length) []) (d := []) (by kernel_rfl) fun a4 w4 hs => ?_
  exact next g a4 w4 ((hs.mask [14, 15, 16] []).congr (by kernel_rfl) (by kernel_rfl) (by kernel_rfl) (by kernel_rfl))

/-! ### The whole walk -/

/-- Such a walk's code in pieces, and what it tells. -/
structure TblC (O Sp : Ty) where
  rowP : List (List (Dat O)) → Dat Sp → Nat → Nat → Option (List (Dat T1))
  (eS e1 e2 e3 tL tO eL : TypeId)
  (by2 by3 byL : Nat)
  (r0 r2 rC rD rE rC2 rF rG rP rT2 rT r9 : Code)
  (a0 a2 aC aD aE aC2 aF aG aP aT2 aT a9 : ACode)
  (ops1 opsI : Array Oper)
  (i1 iI b0 b1 b2 b3 : Nat)
  mP : List Nat

def TblC.inner {O Sp : Ty} (c : TblC O Sp) : Code := .seq c.rC2 (.seq (.cond (.tmp 28) .skip (.exit c.b2)) (.seq (.block c.b3 (.seq c.rF (.seq c.rG (.seq c.rP (.region c.iI c.opsI false))))) c.rT2))
def TblC.outer {O Sp : Ty} (c : TblC O Sp) : Code := .seq c.rC (.seq (.cond (.tmp 20) .skip (.exit c.b0)) (.seq (.block c.b1 (.seq c.rD (.seq c.rE (.block c.b2 (.loop c.inner))))) c.rT))
def TblC.body {O Sp : Ty} (c : TblC O Sp) : Code := .seq c.r0 (.seq (.region c.i1 c.ops1 false) (.seq (.seq c.r2 (.block c.b0 (.loop c.outer))) (.seq c.r9 .ret)))

def TblC.bS {O Sp : Ty} (c : TblC O Sp) (s : Dat Sp) : Option Blk := some (.box c.eS (cellsOf Sp s))
def TblC.sP {O Sp : Ty} (c : TblC O Sp) : Sig := ⟨[], [⟨c.e1, T1, [.slot 8], false⟩], c.mP⟩

/-- What is told of the pieces. -/
structure TblOk (P : Program) (E : Env) (f : Nat) {O Sp : Ty} (c : TblC O Sp) : Prop where
  ks : (chkC P E c.a0 c.r0 && chkC P E c.a2 c.r2 && chkC P E c.aC c.rC && chkC P E c.aD c.rD && chkC P E c.aE c.rE && chkC P E c.aC2 c.rC2 && chkC P E c.aF c.rF && chkC P E c.aG c.rG && chkC P E c.aP c.rP && chkC P E c.aT2 c.rT2 && chkC P E c.aT c.rT && chkC P E c.a9 c.r9) = true
  cov : c.sP.covers (wrA c.aP c.rP) = true
  ty : tyElem P c.tO = some c.e3
  sz : tySz P c.e3 = some 1
  el : elemIs P c.e3 T3 c.by3 = true
  h1 : c.ops1.toList.map core = tblMk c.tL c.tO
  hI : c.opsI.toList.map core = tblOps c.tO c.e3
  k1 : chkOp P (.elem c.eL (.slice O) c.byL) (.call { callee := .builtin .len, args := #[.tmp 14], argTypes := #[c.tL] }) = true
  kI : (chkOp P (.load 1 false) (.load c.e3 (.tmp 83)) && chkOp P (.elem c.e2 T2 c.by2) (.buildSlice c.e3 1 #[(0, .tmp 85)]) && chkOp P (.elem c.e2 T2 c.by2) (.call { callee := .builtin .append, args := #[.tmp 84, .tmp 86], argTypes := #[c.e3, c.e3] }) && chkOp P (.store 1) (.store c.e3 (.tmp 88) (.tmp 87))) = true
  E0 : ∀ (l : List (List (Dat O))) (s : Dat Sp), exec E f c.a0 c.r0 ⟨kp [0, 1, 3], fun _ => none, []⟩ { fr := [.ro 0 (.slice O) l, .agg (cellsOf Sp s)] ++ List.replicate 90 .undef, fs := [], store := [], next := 2, dirty := [] } = some (tS l s .undef .undef .undef .undef .undef .undef .undef .undef [] [(2, c.bS s)] 3)
  E2 : ∀ (l : List (List (Dat O))) (s : Dat Sp) ov fs sto nx, exec E f c.a2 c.r2 ⟨kp [0, 1, 3, 5, 18, 19], fun _ => none, []⟩ (tS l s (.var ov []) .undef .undef .undef .undef .undef .undef .undef fs sto nx) = some (tS l s (.var ov []) .undef .undef .undef (iN l.length) (iN 0) .undef .undef fs sto nx)
  EC : ∀ (l : List (List (Dat O))) (s : Dat Sp) ov n a fs sto nx, exec E f c.aC c.rC ⟨kp [0, 1, 3, 5, 18, 19, 20], fun _ => none, []⟩ (tS l s (.var ov []) .undef .undef .undef (iN n) (iN a) .undef .undef fs sto nx) = some { tS l s (.var ov []) .undef .undef .undef (iN n) (iN a) .undef .undef fs sto nx with fr := (tFr l s (.var ov []) .undef .undef .undef (iN n) (iN a) .undef .undef).set 20 (.bool (decide ((a : Int) < (n : Int)))) }
  ED : ∀ (l : List (List (Dat O))) (s : Dat Sp) ov n a fs sto nx, exec E f c.aD c.rD ⟨kp [0, 1, 3, 5, 6, 18, 19], fun _ => none, []⟩ (tS l s (.var ov []) .undef .undef .undef (iN n) (iN a) .undef .undef fs sto nx) = some (tS l s (.var ov []) (iN a) .undef .undef (iN n) (iN a) .undef .undef fs sto nx)
  EE : ∀ (l : List (List (Dat O))) (s : Dat Sp) ov n a fs sto nx, exec E f c.aE c.rE ⟨kp [0, 1, 3, 5, 6, 18, 19, 26, 27], fun _ => none, []⟩ (tS l s (.var ov []) (iN a) .undef .undef (iN n) (iN a) .undef .undef fs sto nx) = cond (inRange (a : Int) l.length) (some (tS l s (.var ov []) (iN a) .undef .undef (iN n) (iN a) (iN (l.getD (a : Int).toNat []).length) (iN 0) fs sto nx)) none
  EC2 : ∀ (l : List (List (Dat O))) (s : Dat Sp) ov n a m i fs sto nx, exec E f c.aC2 c.rC2 ⟨kp [0, 1, 3, 5, 6, 18, 19, 26, 27, 28], fun _ => none, []⟩ (tS l s (.var ov []) (iN a) .undef .undef (iN n) (iN a) (iN m) (iN i) fs sto nx) = some { tS l s (.var ov []) (iN a) .undef .undef (iN n) (iN a) (iN m) (iN i) fs sto nx with fr := (tFr l s (.var ov []) (iN a) .undef .undef (iN n) (iN a) (iN m) (iN i)).set 28 (.bool (decide ((i : Int) < (m : Int)))) }
  EF : ∀ (l : List (List (Dat O))) (s : Dat Sp) ov n a m i fs sto nx, exec E f c.aF c.rF ⟨kp [0, 1, 3, 5, 6, 7, 18, 19, 26, 27], fun _ => none, []⟩ (tS l s (.var ov []) (iN a) .undef .undef (iN n) (iN a) (iN m) (iN i) fs sto nx) = some (tS l s (.var ov []) (iN a) (iN i) .undef (iN n) (iN a) (iN m) (iN i) fs sto nx)
  EG : ∀ (l : List (List (Dat O))) (s : Dat Sp) ov n a m i fs sto nx, exec E f c.aG c.rG ⟨kp [0, 1, 3, 5, 6, 7, 8, 18, 19, 26, 27], fun _ => none, []⟩ (tS l s (.var ov []) (iN a) (iN i) .undef (iN n) (iN a) (iN m) (iN i) fs sto nx) = some (tS l s (.var ov []) (iN a) (iN i) .nils (iN n) (iN a) (iN m) (iN i) fs sto nx)
  EP : ∀ (l : List (List (Dat O))) (s : Dat Sp) ov n a m i cs (ys : List (Dat T2)), exec E f c.aP c.rP ⟨joinE c.sP [] (tS l s (.var ov []) (iN a) (iN i) .nils (iN n) (iN a) (iN m) (iN i) [[.ptr 3 0 0]] [(3, some (.box c.e3 cs)), (4, some (.row c.e2 T2 ys)), (2, c.bS s)] 5), fun _ => none, []⟩ (tS l s (.var ov []) (iN a) (iN i) .nils (iN n) (iN a) (iN m) (iN i) [[.ptr 3 0 0]] [(3, some (.box c.e3 cs)), (4, some (.row c.e2 T2 ys)), (2, c.bS s)] 5) = c.rowP l s a i
  EJ : ∀ (l : List (List (Dat O))) (s : Dat Sp) ov n a m i sto (x : List (Dat T1)), (maskAll (((putX ((tS l s (.var ov []) (iN a) (iN i) .nils (iN n) (iN a) (iN m) (iN i) [[.ptr 3 0 0]] sto 5).ctx c.sP []) c.sP x).beyond c.sP).fr) (tM [0, 1, 3, 5, 6, 7, 8, 18, 19, 26, 27])) = tFr l s (.var ov []) (iN a) (iN i) (.own 5) (iN n) (iN a) (iN m) (iN i)
  ET2 : ∀ (l : List (List (Dat O))) (s : Dat Sp) ov n a m i fs sto nx, exec E f c.aT2 c.rT2 ⟨kp [0, 1, 3, 5, 6, 18, 19, 26, 27], fun _ => none, []⟩ (tS l s (.var ov []) (iN a) .undef .undef (iN n) (iN a) (iN m) (iN i) fs sto nx) = some (tS l s (.var ov []) (iN a) .undef .undef (iN n) (iN a) (iN m) (.int .i64 (IntKind.i64.wrap ((i : Int) + 1))) fs sto nx)
  ET : ∀ (l : List (List (Dat O))) (s : Dat Sp) ov n a m i fs sto nx, exec E f c.aT c.rT ⟨kp [0, 1, 3, 5, 18, 19], fun _ => none, []⟩ (tS l s (.var ov []) (iN a) .undef .undef (iN n) (iN a) (iN m) (iN i) fs sto nx) = some (tS l s (.var ov []) .undef .undef .undef (iN n) (.int .i64 (IntKind.i64.wrap ((a : Int) + 1))) .undef .undef fs sto nx)
  E9 : ∀ (l : List (List (Dat O))) (s : Dat Sp) ov n a fs sto nx, exec E f c.a9 c.r9 ⟨kp [0, 1, 3, 4, 5], fun _ => none, []⟩ (tS l s (.var ov []) .undef .undef .undef (iN n) (iN a) .undef .undef fs sto nx) = some { tS l s (.var ov []) .undef .undef .undef .undef .undef .undef .undef fs sto nx with fr := (tFr l s (.var ov []) .undef .undef .undef .undef .undef .undef .undef).set 4 (.var ov []) }

theorem iN_succ {i : Nat} (h : i < 4611686018427387904) : AV.int .i64 (IntKind.i64.wrap ((i : Int) + 1)) = iN (i + 1) := by
  have h2 : IntKind.i64.wrap ((i : Int) + 1) = ((i + 1 : Nat) : Int) := by
    rw [IntKind.wrap_i64]
    omega
  rw [h2]
  rfl

theorem tFr_bd {O Sp : Ty} {l : List (List (Dat O))} {s : Dat Sp} {ov : Value} {x6 x18 x19 x26 x27 : AV} {G : Nat → Prop} (h6 : Bd G x6) (h18 : Bd G x18) (h19 : Bd G x19) (h26 : Bd G x26) (h27 : Bd G x27) (h2 : G 2) : BdL G (tFr l s (.var ov []) x6 .undef .undef x18 x19 x26 x27) := by
  have hu : ∀ n, BdL G (unU n) := fun n => BdL_undef fun c hc => List.eq_of_mem_replicate hc
  unfold tFr
  refine BdL.append (BdL.append (BdL.append (BdL.append (BdL.append ?_ (hu 9)) ?_) (hu 6)) ?_) (hu 64)
  · simp only [BdL, Bd]
    exact ⟨trivial, BdL_cellsOf Sp s, trivial, h2, trivial, trivial, h6, trivial, trivial, trivial⟩
  · simp only [BdL]
    exact ⟨h18, h19, trivial⟩
  · simp only [BdL]
    exact ⟨h26, h27, trivial⟩

section
variable {f : Nat} {O Sp : Ty} {c : TblC O Sp} {l : List (List (Dat O))} {s : Dat Sp} {g n : Nat}

/-- The slice that is filled. -/
abbrev tV (g n : Nat) : Value := .slice (some ⟨g, 0, none⟩) n n

/-- The inner loop's state. -/
def TblC.stI (c : TblC O Sp) (l : List (List (Dat O))) (s : Dat Sp) (g n a m i : Nat) (cs : List AV) (ys : List (Dat T2)) : St :=
  tS l s (.var (tV g n) []) (iN a) .undef .undef (iN n) (iN a) (iN m) (iN i) [[.ptr 3 0 0]] [(3, some (.box c.e3 (cs.set a (.own 4)))), (4, some (.row c.e2 T2 ys)), (2, c.bS s)] 5

theorem look_tidy {b3 b4 b3' b2 : Option Blk} : look [(3, b3), (4, b4), (3, b3'), (2, b2)] = look [(3, b3), (4, b4), (2, b2)] := by
  funext id
  by_cases h3 : id = 3
  · subst h3; rfl
  · by_cases h4 : id = 4
    · subst h4; rfl
    · simp only [look_cons, upd_other _ _ h3, upd_other _ _ h4]

/-- The row is held under its number again. -/
theorem TblC.hold {st : St} {act : Act} {a m i : Nat} {cs cs' : List AV} {q : Nat} {ys : List (Dat T2)} {ids : List Nat} (hs : SimE E w0 S st act susp w) (hfr : st.fr = tFr l s (.var (tV g n) []) (iN a) .undef .undef (iN n) (iN a) (iN m) (iN i)) (hfs : st.fs = [[.ptr 3 0 0]])
    (h3 : look st.store 3 = some (.box c.e3 cs')) (h2 : look st.store 2 = c.bS s) (hset : ∀ v, cs'.set a v = cs.set a v) (hflat : ∀ v ∈ cs, ∀ G, Bd G v)
    (hrow : rowH st ⟨c.e2, T2, [.cell 3 a], false⟩ = some (ys, ids)) (hids : ids = [] ∨ ids = [q] ∧ 4 ≤ q) : SimE E w0 S (c.stI l s g n a m i cs ys) act susp w := by
  have hb : ∀ (G : Nat → Prop) (v : AV), Bd G v → BdL G (cs.set a v) := fun G v hv => BdL.set (BdL.of_get fun i b hb => hflat b (List.mem_of_getElem? hb) G) a hv
  have h := rehold hs h3 (h := ⟨c.e2, T2, [.cell 3 a], false⟩) rfl rfl hrow (by rcases hids with rfl | ⟨rfl, _⟩ <;> simp)
    (c := tS l s (.var (tV g n) []) (iN a) .undef .undef (iN n) (iN a) (iN m) (iN i) [[.ptr 3 0 0]] [(3, some (.box c.e3 (cs'.set a .undef))), (2, c.bS s)] 4)
    (by rw [hfr]; rfl) (fun t b hb => .inr (by rw [hfr]; exact hb)) (by rw [hfs]; rfl)
    ⟨tFr_bd (by simp [iN, Bd]) (by simp [iN, Bd]) (by simp [iN, Bd]) (by simp [iN, Bd]) (by simp [iN, Bd]) (by show 2 < 4; omega), by simp only [tS, BdF, BdL, Bd]; exact ⟨⟨by omega, trivial⟩, trivial⟩, fun id e cs2 hl => ?_, fun id hl => ?_⟩
    rfl (fun i hi => ?_) (fun id hid => ?_)
  · refine SimE.congr h (by kernel_rfl) (by kernel_rfl) (by kernel_rfl) ?_
    show look [(3, some (.box c.e3 (cs.set a (.own 4)))), (4, some (.row c.e2 T2 ys)), (2, c.bS s)] = look [(3, some (.box c.e3 (cs'.set a (.own 4)))), (4, some (.row c.e2 T2 ys)), (3, some (.box c.e3 (cs'.set a .undef))), (2, c.bS s)]
    rw [look_tidy, hset]
  · simp only [tS, look_cons] at hl ⊢
    by_cases h3 : id = 3
    · subst h3
      rw [upd_same] at hl
      cases hl
      rw [hset]
      exact hb _ _ (by simp [Bd])
    · rw [upd_other _ _ h3] at hl
      by_cases h2 : id = 2
      · subst h2
        rw [upd_same] at hl
        cases hl
        exact BdL_cellsOf Sp s
      · rw [upd_other _ _ h2] at hl
        cases hl
  · simp only [tS, look_cons] at hl ⊢
    by_cases h3 : id = 3
    · omega
    · rw [upd_other _ _ h3] at hl
      by_cases h2 : id = 2
      · omega
      · rw [upd_other _ _ h2] at hl
        exact absurd rfl hl
  · rcases hids with rfl | ⟨rfl, hq⟩
    · simp at hi
    · simp only [List.mem_singleton] at hi
      subst hi
      simp only [tS, look_cons]
      rw [upd_other _ _ (by omega), upd_other _ _ (by omega)]
      rfl
  · simp only [tS, look_cons]
    rw [upd_other _ _ hid]
    by_cases h2' : id = 2
    · subst h2'
      rw [upd_same]
      exact .inr h2.symm
    · rw [upd_other _ _ h2']
      exact .inl rfl

end


theorem SimE.other {st st' : St} {a : Act} (h : SimE E w0 S st a susp w) (h1 : st'.fr = st.fr) (h2 : st'.fs = st.fs) (h4 : ∀ id, look st'.store id = none ∨ look st'.store id = look st.store id) (hc : CtxOk st') : SimE E w0 S st' a susp w := by
  obtain ⟨hd, M, ρ, h⟩ := h
  exact ⟨hd, M, ρ, ctx_sim h hc (by rw [h1]) (fun t b hb => .inr (by rw [← h1]; exact hb)) h2.symm (fun id => by
    rcases h4 id with h | h
    · exact .inl h
    · exact .inr (.inl h))⟩

theorem row_cell {st : St} {e e2 : TypeId} {t : Ty} {a q : Nat} {cs : List AV} {ys : List (Dat t)} (h3 : look st.store 3 = some (.box e cs)) (ha : cs[a]? = some (.own q)) (hq : look st.store q = some (.row e2 t ys)) : rowH st ⟨e2, t, [.cell 3 a], false⟩ = some (ys, [q]) := by
  simp only [rowH, St.at, h3, List.getD, ha, Option.getD_some, rowAt, hq, dif_pos, castS_self, Nat.beq_refl, cond_true, List.all_nil, Bool.not_false, Bool.true_or, Bool.and_self, Option.toList_some]

theorem nil_cell {st : St} {e e2 : TypeId} {t : Ty} {a : Nat} {cs : List AV} (h3 : look st.store 3 = some (.box e cs)) (ha : cs[a]? = some .nils) : rowH st ⟨e2, t, [.cell 3 a], false⟩ = some ([], []) := by
  simp only [rowH, St.at, h3, List.getD, ha, Option.getD_some, rowAt, cond_true, List.all_nil, Bool.not_false, Bool.true_or, Bool.and_self, Option.toList_none]

section
variable {f : Nat} {O Sp : Ty} {c : TblC O Sp} {l : List (List (Dat O))} {s : Dat Sp} {g n : Nat}

theorem TblOk.joined (hc : TblOk P E f c) {ov : Value} {a m i : Nat} {sto : List (Nat × Option Blk)} {x : List (Dat T1)} {act : Act}
    (h : SimE E w0 S ((putX ((tS l s (.var ov []) (iN a) (iN i) .nils (iN n) (iN a) (iN m) (iN i) [[.ptr 3 0 0]] sto 5).ctx c.sP []) c.sP x).beyond c.sP) act susp w) :
    SimE E w0 S (tS l s (.var ov []) (iN a) (iN i) (.own 5) (iN n) (iN a) (iN m) (iN i) [[.ptr 3 0 0]] ((5, some (.row c.e1 T1 x)) :: sto) 6) act susp w := by
  have h4 := h.mask (tM [0, 1, 3, 5, 6, 7, 8, 18, 19, 26, 27]) []
  have e := hc.EJ l s ov n a m i sto x
  refine SimE.congr h4 ?_ ?_ ?_ ?_
  · exact Eq.trans (b := tFr l s (.var ov []) (iN a) (iN i) (.own 5) (iN n) (iN a) (iN m) (iN i)) (by kernel_rfl) (Eq.trans e.symm (by kernel_rfl))
  · kernel_rfl
  · kernel_rfl
  · kernel_rfl

theorem TblC.rounds (hP : ProgOk P E) (hD : DrawOk P E) (hc : TblOk P E f c) {a m : Nat} (ha : a < n) {cs : List AV} (hcs : cs.length = n) (hflat : ∀ v ∈ cs, ∀ G, Bd G v) {Y : List (Dat T2)} (hYl : Y.length = m) (hY : ∀ i, i < m → ∃ y, Y[i]? = some y ∧ c.rowP l s a i = some y)
    (hm : (m + 1) * c.by2 ≤ 140737488355328) (hm2 : m < 4611686018427387904) {Q : Exit → Act → World → Prop} (hq : ∀ act' w', SimE E w0 S (c.stI l s g n a m m cs Y) act' [[.pointer (some ⟨g, 0, none⟩)]] w' → Q .normal act' w') :
    ∀ (k i : Nat) (act : Act) (w : World), i ≤ m → m - i < k → SimE E w0 S (c.stI l s g n a m i cs (Y.take i)) act [[.pointer (some ⟨g, 0, none⟩)]] w → roundsIn P none c.inner (Exit.inBlock c.b2 Q) k act w := by
  have hk := hc.ks
  simp only [Bool.and_eq_true] at hk
  obtain ⟨⟨⟨⟨⟨⟨⟨⟨⟨⟨⟨_, _⟩, _⟩, _⟩, _⟩, kC2⟩, kF⟩, kG⟩, kP⟩, kT2⟩, _⟩, _⟩ := hk
  intro k
  induction k with
  | zero => intro i act w _ h; omega
  | succ k ih =>
    intro i act w hi hlt hs
    rw [roundsIn_succ]
    refine wpIn_seq (pieceK hP hD kC2 hs (hc.EC2 l s _ n a m i _ _ _) fun a1 w1 h1 => ?_)
    refine wpIn_seq (wpIn_cond (eval_tmp (slot_bool h1 (b := decide ((i : Int) < (m : Int))) (by kernel_rfl))) ?_)
    have h1 : SimE E w0 S (c.stI l s g n a m i cs (Y.take i)) a1 [[.pointer (some ⟨g, 0, none⟩)]] w1 := (h1.mask [28] []).congr (by kernel_rfl) (by kernel_rfl) (by kernel_rfl) (by kernel_rfl)
    rcases Nat.lt_or_ge i m with him | him
    · rw [decide_eq_true (by omega)]
      refine wpIn_skip ?_
      obtain ⟨y, hy, hrow⟩ := hY i him
      refine wpIn_seq (wpIn_block (wpIn_seq (pieceK hP hD kF h1 (hc.EF l s _ n a m i _ _ _) fun a2 w2 h2 => ?_)))
      refine wpIn_seq (pieceK hP hD kG h2 (hc.EG l s _ n a m i _ _ _) fun a3 w3 h3 => ?_)
      refine wpIn_seq (pieceJ hP hD kP hc.cov h3 ((hc.EP l s _ n a m i _ _).trans hrow) fun a4 w4 h4 => ?_)
      have h4 := hc.joined h4
      have hcell : (cs.set a (.own 4))[a]? = some (.own 4) := by rw [List.getElem?_set]; simp [hcs, ha]
      have hlen : ((Y.take i).length + 1) * c.by2 ≤ 140737488355328 := by
        refine Nat.le_trans (Nat.mul_le_mul_right _ ?_) hm
        rw [List.length_take]
        omega
      refine tbl_region hP hc.hI hc.ty hc.sz hc.kI h4 ha hcell hlen fun a5 w5 st5 h5 hfr hfs l3 l8 l2 => ?_
      have h5 : SimE E w0 S (tS l s (.var (tV g n) []) (iN a) .undef .undef (iN n) (iN a) (iN m) (iN i) [[.ptr 3 0 0]] st5.store st5.next) a5 [[.pointer (some ⟨g, 0, none⟩)]] w5 := h5.congr hfr.symm hfs.symm rfl rfl
      refine pieceK hP hD kT2 h5 (hc.ET2 l s _ n a m i _ _ _) fun a6 w6 h6 => ?_
      rw [iN_succ (by omega)] at h6
      refine ih (i + 1) a6 w6 (by omega) (by omega) ?_
      have htk : Y.take (i + 1) = Y.take i ++ [y] := by rw [List.take_add_one, hy]; rfl
      rw [htk]
      refine TblC.hold (q := 8) h6 rfl rfl (cs' := (cs.set a (.own 4)).set a (.own 8)) l3 l2 (fun v => by rw [List.set_set, List.set_set]) hflat (row_cell l3 ?_ l8) (.inr ⟨rfl, by omega⟩)
      rw [List.getElem?_set]
      simp [hcs, ha]
    · rw [decide_eq_false (by omega)]
      have hie : i = m := by omega
      subst hie
      refine wpIn_exit ?_
      simp only [Exit.then, Exit.inBlock, if_true]
      refine hq a1 w1 ?_
      rw [List.take_of_length_le (by omega)] at h1
      exact h1

/-- The box's cells: what is done, and nil. -/
def csA (T : List (List (Dat T2))) (n a : Nat) : List AV := (T.take a).map (fun y => AV.ro 0 T2 y) ++ List.replicate (n - a) .nils

theorem csA_flat {T : List (List (Dat T2))} {a : Nat} : ∀ v ∈ csA T n a, ∀ G, Bd G v := fun v hv G => by
  unfold csA at hv
  rcases List.mem_append.1 hv with hv | hv
  · obtain ⟨y, _, rfl⟩ := List.mem_map.1 hv
    simp [Bd]
  · rw [List.eq_of_mem_replicate hv]
    simp [Bd]

theorem csA_len {T : List (List (Dat T2))} {a : Nat} (hT : T.length = n) (ha : a ≤ n) : (csA T n a).length = n := by
  unfold csA
  simp
  omega

theorem csA_at {T : List (List (Dat T2))} {a : Nat} (hT : T.length = n) (ha : a < n) : (csA T n a)[a]? = some .nils := by
  unfold csA
  rw [List.getElem?_append_right (by simp; omega)]
  rw [List.getElem?_replicate]
  simp
  omega

theorem csA_set {T : List (List (Dat T2))} {a : Nat} (hT : T.length = n) (ha : a < n) {Y : List (Dat T2)} (hY : T[a]? = some Y) : (csA T n a).set a (.ro 0 T2 Y) = csA T n (a + 1) := by
  unfold csA
  have hr : List.replicate (n - a) AV.nils = AV.nils :: List.replicate (n - (a + 1)) AV.nils := by
    rw [show n - a = (n - (a + 1)) + 1 by omega, List.replicate_succ]
  have hl : ((T.take a).map (fun y => AV.ro 0 T2 y)).length = a := by simp; omega
  rw [hr, List.set_append_right _ _ (by omega), hl, Nat.sub_self, List.set_cons_zero, List.take_add_one, hY]
  simp

/-- The outer loop's state. -/
def TblC.stO (c : TblC O Sp) (l : List (List (Dat O))) (s : Dat Sp) (g n a : Nat) (T : List (List (Dat T2))) : St :=
  tS l s (.var (tV g n) []) .undef .undef .undef (iN n) (iN a) .undef .undef [[.ptr 3 0 0]] [(3, some (.box c.e3 (csA T n a))), (2, c.bS s)] 4

theorem TblC.stO_ok {a : Nat} {T : List (List (Dat T2))} : CtxOk (c.stO l s g n a T) := by
  refine ⟨tFr_bd (by simp [Bd]) (by simp [iN, Bd]) (by simp [iN, Bd]) (by simp [Bd]) (by simp [Bd]) (by show 2 < 4; omega), by simp only [TblC.stO, tS, BdF, BdL, Bd]; exact ⟨⟨by omega, trivial⟩, trivial⟩, fun id e cs2 hl => ?_, fun id hl => ?_⟩
  · simp only [TblC.stO, tS, look_cons] at hl ⊢
    by_cases h3 : id = 3
    · subst h3
      rw [upd_same] at hl
      cases hl
      exact BdL.of_get fun i b hb => csA_flat b (List.mem_of_getElem? hb) _
    · rw [upd_other _ _ h3] at hl
      by_cases h2 : id = 2
      · subst h2
        rw [upd_same] at hl
        cases hl
        exact BdL_cellsOf Sp s
      · rw [upd_other _ _ h2] at hl
        cases hl
  · simp only [TblC.stO, tS, look_cons] at hl ⊢
    by_cases h3 : id = 3
    · omega
    · rw [upd_other _ _ h3] at hl
      by_cases h2 : id = 2
      · omega
      · rw [upd_other _ _ h2] at hl
        exact absurd rfl hl

theorem TblC.roundsO (hP : ProgOk P E) (hD : DrawOk P E) (hc : TblOk P E f c) (hl : l.length = n) {T : List (List (Dat T2))} (hTl : T.length = n)
    (hT : ∀ a, a < n → ∃ Y, T[a]? = some Y ∧ (List.range (l.getD a []).length).mapM (fun i => c.rowP l s a i) = some Y) (hm : ∀ a, ((l.getD a []).length + 1) * c.by2 ≤ 140737488355328 ∧ (l.getD a []).length < 4611686018427387904) (hn2 : n < 4611686018427387904)
    {Q : Exit → Act → World → Prop} (hq : ∀ act' w', SimE E w0 S (c.stO l s g n n T) act' [[.pointer (some ⟨g, 0, none⟩)]] w' → Q .normal act' w') :
    ∀ (k a : Nat) (act : Act) (w : World), a ≤ n → n - a < k → SimE E w0 S (c.stO l s g n a T) act [[.pointer (some ⟨g, 0, none⟩)]] w → roundsIn P none c.outer (Exit.inBlock c.b0 Q) k act w := by
  have hk := hc.ks
  simp only [Bool.and_eq_true] at hk
  obtain ⟨⟨⟨⟨⟨⟨⟨⟨⟨⟨⟨_, _⟩, kC⟩, kD⟩, kE⟩, _⟩, _⟩, _⟩, _⟩, _⟩, kT⟩, _⟩ := hk
  intro k
  induction k with
  | zero => intro a act w _ h; omega
  | succ k ih =>
    intro a act w ha hlt hs
    rw [roundsIn_succ]
    refine wpIn_seq (pieceK hP hD kC hs (hc.EC l s _ n a _ _ _) fun a1 w1 h1 => ?_)
    refine wpIn_seq (wpIn_cond (eval_tmp (slot_bool h1 (b := decide ((a : Int) < (n : Int))) (by kernel_rfl))) ?_)
    have h1 : SimE E w0 S (c.stO l s g n a T) a1 [[.pointer (some ⟨g, 0, none⟩)]] w1 := (h1.mask [20] []).congr (by kernel_rfl) (by kernel_rfl) (by kernel_rfl) (by kernel_rfl)
    rcases Nat.lt_or_ge a n with han | han
    · rw [decide_eq_true (by omega)]
      refine wpIn_skip ?_
      obtain ⟨Y, hY, hrows⟩ := hT a han
      obtain ⟨hYl, hYr⟩ := mapM_range hrows
      obtain ⟨hm1, hm2⟩ := hm a
      generalize hmd : (l.getD a []).length = m at hYl hYr hm1 hm2 hrows
      refine wpIn_seq (wpIn_block (wpIn_seq (pieceK hP hD kD h1 (hc.ED l s _ n a _ _ _) fun a2 w2 h2 => ?_)))
      refine wpIn_seq (pieceK hP hD kE h2 ((hc.EE l s _ n a _ _ _).trans (by
        rw [show inRange (a : Int) l.length = true by simp [inRange]; omega]
        rfl)) fun a3 w3 h3 => ?_)
      have h3 : SimE E w0 S (c.stI l s g n a m 0 (csA T n a) []) a3 [[.pointer (some ⟨g, 0, none⟩)]] w3 := by
        rw [Int.toNat_natCast, hmd] at h3
        exact TblC.hold (q := 4) (ids := []) h3 rfl rfl (cs' := csA T n a) rfl rfl (fun v => rfl) csA_flat (nil_cell rfl (csA_at hTl han)) (.inl rfl)
      refine wpIn_block (wpIn_loop_rounds (m + 1) (TblC.rounds hP hD hc han (csA_len hTl ha) csA_flat hYl hYr hm1 hm2 (fun a4 w4 h4 => ?_) (m + 1) 0 a3 w3 (by omega) (by omega) (by rw [List.take_zero]; exact h3)))
      have hcell : ((csA T n a).set a (.own 4))[a]? = some (.own 4) := by rw [List.getElem?_set]; simp [csA_len hTl ha, han]
      have h5 := freezeCell h4 (ib := 3) (ir := 4) (e := c.e3) (e' := c.e2) (t := T2) (ys := Y) (by kernel_rfl) hcell (by kernel_rfl)
      rw [List.set_set, csA_set hTl han hY] at h5
      refine pieceK hP hD kT h5 (hc.ET l s _ n a m m _ _ _) fun a6 w6 h6 => ?_
      rw [iN_succ (by omega)] at h6
      refine ih (a + 1) a6 w6 (by omega) (by omega) (h6.other (by kernel_rfl) (by kernel_rfl) (fun id => ?_) TblC.stO_ok)
      simp only [TblC.stO, tS, TblC.stI, look_cons]
      by_cases i3 : id = 3
      · subst i3; rw [upd_same, upd_same]; exact .inr rfl
      · rw [upd_other _ _ i3, upd_other _ _ i3]
        by_cases i2 : id = 2
        · subst i2; rw [upd_same]; right; rfl
        · rw [upd_other _ _ i2]; exact .inl rfl
    · rw [decide_eq_false (by omega)]
      have hie : a = n := by omega
      subst hie
      refine wpIn_exit ?_
      simp only [Exit.then, Exit.inBlock, if_true]
      exact hq a1 w1 h1

end


/-- THE CONTRACT of such a walk. -/
theorem tbl_ok (hP : ProgOk P E) (hD : DrawOk P E) {f : Nat} {O Sp : Ty} {c : TblC O Sp} (hc : TblOk P E f c) {fn : Func} {id : FuncId} (hf : P.funcs[id]? = some fn) (hb : fn.body = some c.body) (hnt : fn.ntmps = 92) (hres : fn.results = #[.tmp 4])
    (hent : ∀ args w, (callFunc id args).run P w = .ok (.enter id args) w) (hby : c.by2 ≤ 1000 ∧ c.by3 ≤ 1000) :
    CalOk P E.gs ⟨id, [.ro false (.slice (.slice O)), .ro true Sp], [⟨false, .slice T3, [c.e3]⟩], fun x => bif (Nat.ble x.1.length 6 && x.1.all (fun o => Nat.ble o.length 9)) then (List.range x.1.length).mapM fun a => (List.range (x.1.getD a []).length).mapM fun i => c.rowP x.1 x.2 a i else none⟩ := by
  refine ⟨hent, fun M w x vs gs r hmem hglob hargs hnd hF => ?_⟩
  obtain ⟨l, s⟩ := x
  change List (List (Dat O)) at l
  change Dat Sp at s
  change List (List (Dat T2)) at r
  change (bif (Nat.ble l.length 6 && l.all (fun o => Nat.ble o.length 9)) then (List.range l.length).mapM (fun a => (List.range (l.getD a []).length).mapM fun i => c.rowP l s a i) else none) = some r at hF
  have hk := hc.ks
  simp only [Bool.and_eq_true] at hk
  obtain ⟨⟨⟨⟨⟨⟨⟨⟨⟨⟨⟨k0, k2⟩, _⟩, _⟩, _⟩, _⟩, _⟩, _⟩, _⟩, _⟩, _⟩, k9⟩ := hk
  cases hg : (Nat.ble l.length 6 && l.all (fun o => Nat.ble o.length 9)) with
  | false => rw [hg] at hF; cases hF
  | true =>
    rw [hg] at hF
    simp only [cond_true] at hF
    simp only [Bool.and_eq_true] at hg
    have hl6 := Nat.le_of_ble_eq_true hg.1
    have hl9 : ∀ a, (l.getD a []).length ≤ 9 := fun a => by
      cases ha : l[a]? with
      | none => simp [List.getD, ha]
      | some o =>
        simp only [List.getD, ha, Option.getD_some]
        exact Nat.le_of_ble_eq_true (List.all_eq_true.1 hg.2 o (List.mem_of_getElem? ha))
    obtain ⟨hTl, hT⟩ := mapM_range hF
    have hst := start_sim (fn := fn) (ats := [.ro false (.slice (.slice O)), .ro true Sp]) (x := (l, s)) hmem hglob hargs hnd (avs := [.ro 0 (.slice O) l, .agg (cellsOf Sp s)]) (d := []) rfl
    have hst := hst.congr (st' := { fr := [.ro 0 (.slice O) l, .agg (cellsOf Sp s)] ++ List.replicate 90 .undef, fs := [], store := [], next := 2, dirty := [] }) (by rw [hnt]; rfl) rfl rfl rfl
    refine calls_of_wp hf hb ((wpIn_wide (n := 0)).1 ?_)
    refine wpIn_seq (pieceK hP hD k0 hst (hc.E0 l s) fun a1 w1 h1 => ?_)
    have hby3 : c.by3 * l.length ≤ 281474976710656 := by
      have := Nat.mul_le_mul hby.2 hl6
      omega
    refine wpIn_seq (tbl_make hP hc.h1 hc.ty hc.el hc.k1 h1 hby3 fun g a2 w2 h2 => ?_)
    refine wpIn_seq (wpIn_seq (pieceK hP hD k2 h2 (hc.E2 l s _ _ _ _) fun a3 w3 h3 => ?_))
    have h3 : SimE E { toWorld := w, m := M } (· ∈ gs) (c.stO l s g l.length 0 r) a3 [[.pointer (some ⟨g, 0, none⟩)]] w3 := h3
    refine wpIn_block (wpIn_loop_rounds (l.length + 1) (TblC.roundsO hP hD hc rfl hTl hT (fun a => ?_) (by omega) (fun a4 w4 h4 => ?_) (l.length + 1) 0 a3 w3 (by omega) (by omega) h3))
    · have h9 := hl9 a
      have := Nat.mul_le_mul (show (l.getD a []).length + 1 ≤ 10 by omega) hby.1
      omega
    refine wpIn_seq (pieceK hP hD k9 h4 (hc.E9 l s _ _ _ _ _ _) fun a5 w5 h5 => ?_)
    refine wpIn_ret ?_
    obtain ⟨hd, M', ρ', hs'⟩ := h5
    replace hs' : Sim E { toWorld := w, m := M } (· ∈ gs) (fun i => i < 4) M' ρ' (look [(3, some (.box c.e3 (csA r l.length l.length))), (2, c.bS s)]) ((tFr l s (.var (tV g l.length) []) .undef .undef .undef .undef .undef .undef .undef).set 4 (.var (tV g l.length) [])) [[.ptr 3 0 0]] a5.tmps.toList [[.pointer (some ⟨g, 0, none⟩)]] w5 := hs'
    have ht4 : a5.tmps[4]? = some (tV g l.length) := by
      obtain ⟨u, hu, hr⟩ := hs'.frr.get (i := 4) (a := .var (tV g l.length) []) (by kernel_rfl)
      simp only [Rep] at hr
      rw [hr.1] at hu
      rwa [Array.getElem?_toList] at hu
    have hrun : (results fn a5.tmps).run P w5 = .ok (tV g l.length) w5 := by
      rw [results_def, hres]
      have : a5.tmps.getD 4 undef = tV g l.length := by
        rw [Array.getD_eq_getD_getElem?, ht4]
        rfl
      simp [resOne, this]
    have hbk := hs'.blk 3
    unfold BlkOk at hbk
    have hl3 : look [(3, some (Blk.box c.e3 (csA r l.length l.length))), (2, c.bS s)] 3 = some (.box c.e3 (csA r l.length l.length)) := rfl
    rw [hl3] at hbk
    dsimp only at hbk
    obtain ⟨g2, cap, cur, q1, q2, q3⟩ := hbk
    have hgg : g2 = g := by
      have hp := hs'.fsr
      simp only [RepF, RepL, List.cons.injEq] at hp
      obtain ⟨v1, r1, ⟨rfl, rfl⟩, ⟨v2, r2, ⟨rfl, rfl⟩, hp, _⟩, _⟩ := hp
      simp only [Rep] at hp
      unfold PtrV at hp
      rw [hl3] at hp
      dsimp only at hp
      obtain ⟨g3, cap3, h4, _, h5⟩ := hp
      rw [q1] at h4
      cases h4
      simp only [Value.pointer.injEq, Option.some.injEq, Addr.mk.injEq] at h5
      exact h5.1.symm
    subst hgg
    have hown := hs'.own 3 (by rw [hl3]; simp) g2 cap q1
    have hcur : cur.size = l.length := by
      have := q3.length
      rw [csA_len hTl (Nat.le_refl _), Array.length_toList] at this
      exact this
    have hrow : ∃ hs, hs.Nodup ∧ RowV M' w5 (fun g => w.heap.size ≤ g ∨ g ∈ gs) c.e3 T3 r (tV g2 l.length) hs := by
      by_cases h0 : l.length = 0
      · refine ⟨[], List.nodup_nil, some ⟨g2, 0, none⟩, l.length, by rw [hTl], .inl ⟨h0, List.eq_nil_of_length_eq_zero (by omega), rfl⟩⟩
      · refine ⟨[g2], by simp, some ⟨g2, 0, none⟩, l.length, by rw [hTl], .inr ⟨g2, cur, rfl, rfl, hown.1, hown.2, by simp [Ty.sz], q2, by omega, by simp only [maxLen]; omega, by simp [Ty.sz, hcur], fun i y hy => ?_⟩⟩
        have hi : i < l.length := by rw [← hTl]; exact (List.getElem?_eq_some_iff.1 hy).1
        have hcell : (csA r l.length l.length)[i]? = some (.ro 0 T2 y) := by
          unfold csA
          rw [List.take_of_length_le (by omega), List.getElem?_append_left (by simp; omega), List.getElem?_map, hy]
          rfl
        obtain ⟨u, hu, hrep⟩ := q3.get hcell
        simp only [Rep] at hrep
        refine ⟨[u], hrep.1, fun j v hv => ?_⟩
        cases j with
        | zero =>
          simp only [List.getElem?_cons_zero, Option.some.injEq] at hv
          subst hv
          simp only [Ty.sz, Nat.mul_one, Nat.add_zero]
          rwa [Array.getElem?_toList] at hu
        | succ j => simp at hv
    obtain ⟨hs, hnd2, hrow⟩ := hrow
    exact ⟨hd, _, hrun, _, M', rfl, hs'.le, hs'.mem, hs'.kp, hs'.new, [tV g2 l.length], hs, rfl, hnd2, _, rfl, [tV g2 l.length], rfl, fun _ => rfl, c.e3, _, rfl, rfl, hrow⟩

end
/-! ### Pieces of code -/

def pL : Code → Code
  | .seq a _ => a
  | c => c
def pR : Code → Code
  | .seq _ b => b
  | c => c
def pB : Code → Code
  | .block _ a => a
  | .loop a => a
  | c => c
def pOps : Code → Array Oper
  | .region _ ops _ => ops
  | _ => #[]

theorem w64_nat {p : Nat} (h : p < 4611686018427387904) : w64 ((p : Int) + 1) = ((p + 1 : Nat) : Int) := by
  unfold w64
  rw [IntKind.wrap_i64]
  omega

theorem in_range {i n : Nat} (h : i < n) : (decide (0 ≤ (i : Int)) && decide ((i : Int) < (n : Int))) = true := by
  simp
  omega

theorem drop_one {α : Type} {xs : List α} {i : Nat} (d : α) (h : i < xs.length) : xs.drop i = xs.getD i d :: xs.drop (i + 1) := by
  rw [List.drop_eq_getElem_cons h]
  simp [List.getD, List.getElem?_eq_getElem h]

theorem opt_id {α : Type} (x : Option α) : (x.bind fun y => some y) = x := by cases x <;> rfl

theorem all12 {b1 b2 b3 b4 b5 b6 b7 b8 b9 b10 b11 b12 : Bool} (h1 : b1 = true) (h2 : b2 = true) (h3 : b3 = true) (h4 : b4 = true) (h5 : b5 = true) (h6 : b6 = true) (h7 : b7 = true) (h8 : b8 = true) (h9 : b9 = true) (h10 : b10 = true) (h11 : b11 = true) (h12 : b12 = true) :
    (b1 && b2 && b3 && b4 && b5 && b6 && b7 && b8 && b9 && b10 && b11 && b12) = true := by
  subst h1 h2 h3 h4 h5 h6 h7 h8 h9 h10 h11 h12
  rfl

theorem calOk_congr {P : Program} {gt : List (Nat × List AV)} {f : FuncId} {ats : List PTy} {rts : List RTy} {F F' : DatPs ats → Option (DatRs rts)} (h : CalOk P gt ⟨f, ats, rts, F⟩) (e : ∀ x, F' x = F x) : CalOk P gt ⟨f, ats, rts, F'⟩ := by
  rw [show F' = F from funext e]
  exact h

theorem mapM_same {α β : Type} {f g : α → Option β} : (xs : List α) → (∀ x ∈ xs, f x = g x) → xs.mapM f = xs.mapM g
  | [], _ => by simp
  | x :: xs, h => by
    simp only [List.mapM_cons]
    rw [h x (List.mem_cons_self ..), mapM_same xs fun y hy => h y (List.mem_cons_of_mem _ hy)]

end Go.R
