/- What is proved here: functions of the library that change a row in its place, by the kit's contracts; a tool for the claim's proof. It asks nothing. -/
import Derived.Test.YtlaejfnmhfkdpaaRc
import Derived.Sort.Grow
import Derived.Shelf.SlSortCmp.NoneTotal
/- Rows that are changed in their place: a row as the kit's sort knows it. -/
namespace Go.R
open Go

section
variable {P : Program} {M : Mem} {w : World}

/-- An element of a row: the datum, its cells. -/
abbrev Elt (M : Mem) (t : Ty) (xs : List (Dat t)) : Type := { p : Dat t × List Value // RepS M t p.1 p.2 ∧ p.1 ∈ xs }

theorem elts_of_row {t : Ty} {xs : List (Dat t)} {cur : Array Value} (h : RowIn M t xs cur) : ∃ d : List (Elt M t xs), d.map (·.1.1) = xs ∧ ∀ (i : Nat) (p : Elt M t xs), d[i]? = some p → ∀ (j : Nat) (u : Value), p.1.2[j]? = some u → cur[i * t.sz + j]? = some u := by
  obtain ⟨d, hl, hd⟩ := list_choose (Q := fun i (p : Elt M t xs) => xs[i]? = some p.1.1 ∧ ∀ (j : Nat) (u : Value), p.1.2[j]? = some u → cur[i * t.sz + j]? = some u) xs.length fun i hi => by
    obtain ⟨cs, h1, h2⟩ := h i xs[i] (List.getElem?_eq_getElem hi)
    exact ⟨⟨(xs[i], cs), h1, List.getElem_mem hi⟩, List.getElem?_eq_getElem hi, h2⟩
  refine ⟨d, List.ext_getElem? fun i => ?_, fun i p hp => (hd i p hp).2⟩
  rw [List.getElem?_map]
  cases hp : d[i]? with
  | none =>
    rw [List.getElem?_eq_none_iff] at hp
    rw [Option.map_none, List.getElem?_eq_none_iff.2 (by omega)]
  | some p => rw [Option.map_some, (hd i p hp).1]

theorem cells_put {cur Fl : Array Value} (hs : Fl.size ≤ cur.size) {o : Nat} {u : Value} (h : Fl[o]? = some u) : (Sort.putCells id 0 Fl cur)[o]? = some u := by
  have ho : o < Fl.size := (Array.getElem?_eq_some_iff.1 h).1
  have e : Fl[o]! = u := by rw [getElem!_pos Fl o ho]; exact (Array.getElem?_eq_some_iff.1 h).2
  unfold Sort.putCells
  rw [Array.getElem?_mapIdx, Array.getElem?_eq_getElem (by omega)]
  simp only [Option.map_some, Nat.zero_le, Nat.zero_add, true_and, ho, if_true, Nat.sub_zero, id, e]

theorem heap_put {g : Nat} {cur Fl : Array Value} {e : TypeId} (hg : w.heap[g]? = some (.cells cur e (0, 0))) (n : Nat) (os : Array Obj) : (Sort.grow (Sort.putRow id (Sort.ahead w n) g 0 Fl) os).heap[g]? = some (.cells (Sort.putCells id 0 Fl cur) e (0, 0)) := by
  have hlt : g < w.heap.size := (Array.getElem?_eq_some_iff.1 hg).1
  rw [Sort.heap_grow_old _ _ (by rw [Sort.size_putRow]; exact hlt)]
  simp only [Sort.putRow, Sort.mapBlock, Array.getElem?_modify, if_true, Sort.heap_ahead, hg, Option.map_some, Sort.onCells]

theorem heap_put_other {g k : Nat} {Fl : Array Value} (hk : k ≠ g) (n : Nat) (os : Array Obj) (hlt : k < w.heap.size) : (Sort.grow (Sort.putRow id (Sort.ahead w n) g 0 Fl) os).heap[k]? = w.heap[k]? := by
  rw [Sort.heap_grow_old _ _ (by rw [Sort.size_putRow]; exact hlt)]
  simp only [Sort.putRow, Sort.mapBlock, Array.getElem?_modify, if_neg (Ne.symm hk), Sort.heap_ahead]

/-- A world that the sort goes through: all but the row is as it was. -/
theorem put_world (hm : MemOk M w) {g : Nat} (hM : ∀ o, M g o = none) (Fl : Array Value) (n : Nat) (os : Array Obj) :
    MemOk M (Sort.grow (Sort.putRow id (Sort.ahead w n) g 0 Fl) os) ∧ Kp w (Sort.grow (Sort.putRow id (Sort.ahead w n) g 0 Fl) os) (· ∈ [g]) := by
  refine ⟨fun b o v hv => ?_, rfl, rfl, rfl, ?_, Nat.le_add_right _ _, fun k hk hg => heap_put_other (by simpa using hg) n os hk⟩
  · have hb : b ≠ g := fun e => by subst e; rw [hM o] at hv; cases hv
    have h0 := hm b o v hv
    have hlt := hm.lt hv
    rw [← h0]
    exact World.cell?_of_block (a := ⟨b, o, none⟩) (heap_put_other hb n os hlt)
  · rw [Sort.size_grow, Sort.size_putRow]; exact Nat.le_add_right _ _

/-- The row behind it. -/
theorem put_row {g c : Nat} {cur Fl : Array Value} {e : TypeId} {t : Ty} (hg : w.heap[g]? = some (.cells cur e (0, 0))) (hM : ∀ o, M g o = none) (hpos : 0 < t.sz) {ys : List (Dat t)} (h1 : ys.length ≤ c) (h2 : c ≤ maxLen) (h3 : cur.size = c * t.sz) (hs : Fl.size ≤ cur.size)
    (hF : ∀ (i : Nat) (x : Dat t), ys[i]? = some x → ∃ cs, RepS M t x cs ∧ ∀ (j : Nat) (u : Value), cs[j]? = some u → Fl[i * t.sz + j]? = some u) (n : Nat) (os : Array Obj) :
    RowV M (Sort.grow (Sort.putRow id (Sort.ahead w n) g 0 Fl) os) (fun _ => True) e t ys (.slice (some ⟨g, 0, none⟩) ys.length c) [g] :=
  ⟨_, c, rfl, .inr ⟨g, _, rfl, rfl, trivial, hM, hpos, heap_put hg n os, h1, h2, by rw [← h3]; simp [Sort.putCells], fun i x hx => let ⟨cs, a, b⟩ := hF i x hx; ⟨cs, a, fun j u hu => cells_put hs (b j u hu)⟩⟩⟩

/-- The cells of the kit's row are those of ours. -/
theorem holds_row {g : Nat} {cur Fl : Array Value} {e : TypeId} (hg : w.heap[g]? = some (.cells cur e (0, 0))) (h : ∀ (o : Nat) (u : Value), Fl[o]? = some u → cur[o]? = some u) : Sort.Holds id w g 0 Fl := fun j hj => by
  refine ⟨?_, by simp only [World.frozen?, hg]; simp⟩
  have := h j Fl[j] (Array.getElem?_eq_getElem hj)
  simp only [World.cell?, hg, Nat.zero_add, Option.isSome_none, Bool.false_eq_true, if_false, this]
  rw [getElem!_pos Fl j hj]; rfl

/-! ### A sorted list -/

/-- A comparison: it tells an order. -/
structure CmpOk {α : Type} (cf : α → α → Int) : Prop where
  neg : ∀ x y, cf y x = - cf x y
  trans : ∀ x y z, cf x y < 0 → cf y z < 0 → cf x z < 0
  ntrans : ∀ x y z, 0 ≤ cf x y → 0 ≤ cf y z → 0 ≤ cf x z

/-- 'ys' is 'xs' in the order that 'cmp' tells, which parts all of them. -/
def SortedBy {α : Type} (cmp : α → α → Option Int) (xs ys : List α) : Prop :=
  xs.length < 4611686018427387904 ∧ ∃ cf : α → α → Int, CmpOk cf ∧ (∀ x ∈ xs, ∀ y ∈ xs, cmp x y = some (cf x y)) ∧ xs.Pairwise (fun x y => cf x y ≠ 0) ∧ ys.Perm xs ∧ ys.Pairwise (fun x y => cf x y < 0)

open Classical in
noncomputable def sortO {α : Type} (cmp : α → α → Option Int) (xs : List α) : Option (List α) := if h : ∃ ys, SortedBy cmp xs ys then some h.choose else none

theorem SortedBy.unique {α : Type} {cmp : α → α → Option Int} {xs ys zs : List α} (h : SortedBy cmp xs ys) (g : SortedBy cmp xs zs) : ys = zs := by
  obtain ⟨_, cf, c1, c2, c3, c4, c5⟩ := h
  obtain ⟨_, cg, d1, d2, d3, d4, d5⟩ := g
  refine List.Perm.eq_of_pairwise (le := fun x y => cf x y < 0) (fun a b _ _ h1 h2 => ?_) c5 (d5.imp_of_mem fun {a b} ha hb hab => ?_) (c4.trans d4.symm)
  · have := c1.neg a b; omega
  · have e1 := c2 a (d4.mem_iff.1 ha) b (d4.mem_iff.1 hb)
    rw [d2 a (d4.mem_iff.1 ha) b (d4.mem_iff.1 hb)] at e1
    rw [← Option.some.inj e1]
    exact hab

theorem sortO_some {α : Type} {cmp : α → α → Option Int} {xs ys : List α} (h : sortO cmp xs = some ys) : SortedBy cmp xs ys := by
  unfold sortO at h
  split at h
  · rename_i hx
    cases h
    exact hx.choose_spec
  · cases h

theorem sortO_eq {α : Type} {cmp : α → α → Option Int} {xs ys : List α} (h : SortedBy cmp xs ys) : sortO cmp xs = some ys := by
  unfold sortO
  rw [dif_pos ⟨ys, h⟩]
  exact congrArg some ((Exists.choose_spec (p := fun ys => SortedBy cmp xs ys) ⟨ys, h⟩).unique h)

/-- Whatever a comparison parts can be sorted. -/
theorem sorted_exists {α : Type} {cmp : α → α → Option Int} {cf : α → α → Int} (hc : CmpOk cf) {xs : List α} (hl : xs.length < 4611686018427387904) (he : ∀ x ∈ xs, ∀ y ∈ xs, cmp x y = some (cf x y)) (hd : xs.Pairwise (fun x y => cf x y ≠ 0)) : ∃ ys, SortedBy cmp xs ys := by
  have hp := List.mergeSort_perm xs (fun x y => decide (cf x y ≤ 0))
  refine ⟨xs.mergeSort fun x y => decide (cf x y ≤ 0), hl, cf, hc, he, hd, hp, ?_⟩
  have hs := List.pairwise_mergeSort (le := fun x y => decide (cf x y ≤ 0)) (fun a b c h1 h2 => by
    simp only [decide_eq_true_eq] at *
    have := hc.neg a c
    have := hc.neg a b
    have := hc.neg b c
    have := hc.ntrans c b a (by omega) (by omega)
    omega) (fun a b => by
    simp only [Bool.or_eq_true, decide_eq_true_eq]
    have := hc.neg a b
    omega) xs
  have hd2 := hd.perm hp.symm (fun {x y} h => by have := hc.neg x y; omega)
  refine (hs.and hd2).imp fun {x y} h => ?_
  have := of_decide_eq_true h.1
  have := h.2
  omega

end
end Go.R

/- slices.SortFunc by the kit's contract, as a call that changes a row in its place. -/
namespace Go.R
open Go Go.Proofs Go.Shelf Go.RowKit Go.Sort

section
variable {P : Program} {gt : List (Nat × List AV)}

def cmpArgs {agg : Bool} {t : Ty} : (cts : List PTy) → Dat t → Dat t → DatPs cts → DatPs (.ro agg t :: .ro agg t :: cts)
  | [], x, y, _ => (x, y)
  | _ :: _, x, y, z => (x, y, z)

/-- slices.SortFunc with the comparison g. -/
noncomputable def sortCal (f : FuncId) (e : TypeId) (agg : Bool) (t : Ty) (g : FuncId) (cts : List PTy) (F : DatPs (.ro agg t :: .ro agg t :: cts) → Option Int) : MCal :=
  ⟨f, e, t, some g, cts, fun xs x => sortO (fun a b => F (cmpArgs cts a b x)) xs⟩

theorem cmp_args {M : Mem} {w : World} {agg : Bool} {t : Ty} {cts : List PTy} {x y : Dat t} {z : DatPs cts} {cvs vx vy : List Value} (hx : RepS M t x vx) (hy : RepS M t y vy) (h1 : agg = false → t.sz = 1) (hz : ArgsP M w cts z cvs []) :
    ArgsP M w (.ro agg t :: .ro agg t :: cts) (cmpArgs cts x y z) ([oneV agg vx, oneV agg vy] ++ cvs) [] := by
  have ax : ArgP M w (.ro agg t) x (oneV agg vx) [] := ⟨rfl, vx, rfl, fun e => by rw [hx.len]; exact h1 e, hx⟩
  have ay : ArgP M w (.ro agg t) y (oneV agg vy) [] := ⟨rfl, vy, rfl, fun e => by rw [hy.len]; exact h1 e, hy⟩
  cases cts with
  | nil =>
    simp only [ArgsP] at hz
    obtain ⟨rfl, _⟩ := hz
    exact ⟨_, _, [], [], rfl, rfl, ax, _, rfl, ay⟩
  | cons p ps => exact ⟨_, _, [], [], rfl, rfl, ax, _, _, [], [], rfl, rfl, ay, hz⟩

theorem args_world {M : Mem} {w w' : World} : {cts : List PTy} → {z : DatPs cts} → {cvs : List Value} → ArgsP M w cts z cvs [] → (cts.all fun p => match p with | .ro _ _ | .pt _ => true | .mv _ _ => false) = true → ArgsP M w' cts z cvs []
  | [], _, _, h, _ => h
  | [.ro _ _], _, _, h, _ => h
  | [.mv _ _], _, _, _, hk => by simp at hk
  | .ro _ _ :: q :: ps, z, cvs, h, hk => by
    simp only [ArgsP] at h ⊢
    obtain ⟨v, vs', g1, g2, e1, e2, h1, h2⟩ := h
    obtain ⟨rfl, rfl⟩ : g1 = [] ∧ g2 = [] := by simpa using e2.symm
    exact ⟨v, vs', [], [], e1, rfl, h1, args_world h2 (by simpa using hk)⟩
  | .mv _ _ :: _ :: _, _, _, _, hk => by simp at hk
  | [.pt _], _, _, h, _ => h
  | .pt _ :: q :: ps, z, cvs, h, hk => by
    simp only [ArgsP] at h ⊢
    obtain ⟨v, vs', g1, g2, e1, e2, h1, h2⟩ := h
    obtain ⟨rfl, rfl⟩ : g1 = [] ∧ g2 = [] := by simpa using e2.symm
    exact ⟨v, vs', [], [], e1, rfl, h1, args_world h2 (by simpa using hk)⟩

/-- A world that has only grown. -/
theorem grown_eq {W W' : World} (h : Kp W W' (· ∈ ([] : List Nat))) : ∃ q os', W' = Sort.grow (W.drewN q) os' := by
  refine ⟨W'.drawn - W.drawn, W'.heap.extract W.heap.size W'.heap.size, ?_⟩
  have hh : W'.heap = W.heap ++ W'.heap.extract W.heap.size W'.heap.size := by
    apply Array.ext_getElem?
    intro k
    rw [Array.getElem?_append]
    split
    · rename_i hk; exact h.block k hk (by simp)
    · rename_i hk
      rw [Array.getElem?_extract]
      have := h.size
      split
      · congr 1; omega
      · rw [Array.getElem?_eq_none_iff]; omega
  have hd := h.drawn
  cases W' with
  | mk heap tape drawn os output =>
    have h1 := h.os; have h2 := h.tape; have h3 := h.output
    simp only at h1 h2 h3 hd hh
    subst h1 h2 h3
    simp only [Sort.grow, World.drewN, World.mk.injEq, true_and, and_true]
    exact ⟨hh, by omega⟩

/-- What the comparison does in a world that the sort goes through. -/
theorem cmp_calls {agg : Bool} {t : Ty} {g : FuncId} {cts : List PTy} {F : DatPs (.ro agg t :: .ro agg t :: cts) → Option Int} (hC : CalOk P gt ⟨g, .ro agg t :: .ro agg t :: cts, [⟨false, .int .i64, []⟩], F⟩) (h1 : agg = false → t.sz = 1)
    (hro : (cts.all fun p => match p with | .ro _ _ | .pt _ => true | .mv _ _ => false) = true) {M : Mem} {w W : World} (hm : MemOk M W) (hg : GlobOk M gt) {z : DatPs cts} {cvs : List Value} (hz : ArgsP M w cts z cvs []) {x y : Dat t} {vx vy : List Value} (hx : RepS M t x vx) (hy : RepS M t y vy) {r : Int} (hr : F (cmpArgs cts x y z) = some r) :
    Calls P g (#[oneV agg vx, oneV agg vy] ++ cvs.toArray) W fun e w' => e = .returned (.int .i64 r) ∧ ∃ q os', w' = Sort.grow (W.drewN q) os' := by
  have := hC.run M W (cmpArgs cts x y z) _ [] r hm hg (cmp_args hx hy h1 (args_world hz hro)) List.nodup_nil hr
  have e1 : ([oneV agg vx, oneV agg vy] ++ cvs).toArray = #[oneV agg vx, oneV agg vy] ++ cvs.toArray := by simp
  rw [e1] at this
  refine Calls.mono this fun e w' h => ?_
  obtain ⟨v, M', rfl, hret⟩ := h
  obtain ⟨vs, hs, hv, _, ho⟩ := hret.out
  obtain ⟨u, hu, us, hus, _, ho⟩ := ho
  obtain ⟨ho, _⟩ := ho
  refine ⟨?_, grown_eq hret.kp⟩
  rw [hv, hu, hus, ho]
  rfl

theorem CmpOk.swo {α β : Type} {cf : α → α → Int} (h : CmpOk cf) (f : β → α) : SWO (ltOf fun x y => cf (f x) (f y)) where
  irrefl x := by have := h.neg (f x) (f x); simp only [ltOf, decide_eq_false_iff_not]; omega
  trans x y z h1 h2 := by simp only [ltOf, decide_eq_true_eq] at *; exact h.trans _ _ _ h1 h2
  ntrans x y z h1 h2 := by simp only [ltOf, decide_eq_false_iff_not, Int.not_lt] at *; exact h.ntrans _ _ _ h1 h2

/-- What the kit's sort leaves is the list in order. -/
theorem sorted_of_kit {M : Mem} {t : Ty} {xs : List (Dat t)} [Inhabited (Elt M t xs)] {cmp : Dat t → Dat t → Option Int} {ys : List (Dat t)} {cf : Dat t → Dat t → Int} (hl : xs.length < 4611686018427387904) (hc : CmpOk cf) (he : ∀ x ∈ xs, ∀ y ∈ xs, cmp x y = some (cf x y)) (hd : xs.Pairwise (fun x y => cf x y ≠ 0)) (hF : sortO cmp xs = some ys)
    {d : List (Elt M t xs)} (hdx : d.map (·.1.1) = xs) {d' : Array (Elt M t xs)} (hp : PermIn 0 d.toArray.size d.toArray d') (hs : SortedIn (ltOf fun x y : Elt M t xs => cf x.1.1 y.1.1) 0 d.toArray.size d') : d'.toList.map (·.1.1) = ys := by
  have hperm : d'.toList.Perm d := by
    have := hp.2.2
    have e1 : d'.extract 0 d.toArray.size = d' := by rw [← hp.1]; exact Array.extract_size
    rw [e1, Array.extract_size] at this
    simpa using this
  have hpm : (d'.toList.map (·.1.1)).Perm xs := by
    have := hperm.map (·.1.1)
    rwa [hdx] at this
  have hd2 := hd.perm hpm.symm (fun {x y} h => by have := hc.neg x y; omega)
  refine SortedBy.unique (cmp := cmp) (xs := xs) ⟨hl, cf, hc, he, hd, hpm, ?_⟩ (sortO_some hF)
  rw [List.pairwise_iff_getElem] at hd2 ⊢
  intro i j hi hj hij
  have h1 := hd2 i j hi hj hij
  simp only [List.length_map, Array.length_toList] at hi hj
  have h2 := hs i j (Nat.zero_le _) hij (by rw [← hp.1]; exact hj)
  rw [getElem!_pos d' i hi, getElem!_pos d' j hj] at h2
  simp only [ltOf, decide_eq_false_iff_not, Int.not_lt] at h2
  simp only [List.getElem_map, Array.getElem_toList] at h1 ⊢
  have := hc.neg d'[i].1.1 d'[j].1.1
  omega

theorem flat_cells {α : Type} [Inhabited α] {enc : α → List Value} {k : Nat} (hk : ∀ x, (enc x).length = k) {d : Array α} {i : Nat} {p : α} (hp : d[i]? = some p) {j : Nat} {u : Value} (hu : (enc p)[j]? = some u) : (flatK enc k d)[i * k + j]? = some u := by
  have hi := (Array.getElem?_eq_some_iff.1 hp).1
  have hj : j < k := by rw [← hk p]; exact (List.getElem?_eq_some_iff.1 hu).1
  have hlt : i * k + j < d.size * k := by
    have := Nat.mul_le_mul_right k (show i + 1 ≤ d.size from hi)
    rw [Nat.add_mul, Nat.one_mul] at this
    omega
  rw [getElem?_pos _ _ (by rw [size_flatK]; exact hlt)]
  have := get_flatK enc k d _ hlt
  rw [getElem!_pos _ _ (by rw [size_flatK]; exact hlt)] at this
  have k0 : 0 < k := by omega
  have e1 : (i * k + j) / k = i := by rw [Nat.mul_comm, Nat.mul_add_div k0, Nat.div_eq_of_lt hj, Nat.add_zero]
  have e2 : (i * k + j) % k = j := by rw [Nat.mul_comm, Nat.mul_add_mod, Nat.mod_eq_of_lt hj]
  rw [this, e1, e2, getElem!_pos d i hi]
  have e3 : d[i] = p := (Array.getElem?_eq_some_iff.1 hp).2
  rw [e3, getElem!_pos (enc p) j (by rw [hk]; exact hj)]
  exact congrArg some (List.getElem?_eq_some_iff.1 hu).2

theorem flat_inv {α : Type} [Inhabited α] {enc : α → List Value} {k : Nat} (hk : ∀ x, (enc x).length = k) {d : Array α} {o : Nat} {u : Value} (h : (flatK enc k d)[o]? = some u) : ∃ p, d[o / k]? = some p ∧ (enc p)[o % k]? = some u ∧ o = o / k * k + o % k := by
  have ho := (Array.getElem?_eq_some_iff.1 h).1
  have ho' : o < d.size * k := by rwa [size_flatK] at ho
  have k0 : 0 < k := by rcases Nat.eq_zero_or_pos k with h | h; · subst h; simp at ho'
                        · exact h
  have hi : o / k < d.size := Nat.div_lt_of_lt_mul (by rwa [Nat.mul_comm] at ho')
  have hj : o % k < k := Nat.mod_lt _ k0
  have e := get_flatK enc k d o ho'
  rw [getElem!_pos (flatK enc k d) o ho, (Array.getElem?_eq_some_iff.1 h).2, getElem!_pos d (o / k) hi, getElem!_pos (enc d[o / k]) (o % k) (by rw [hk]; exact hj)] at e
  exact ⟨d[o / k], Array.getElem?_eq_getElem hi, by rw [e]; exact List.getElem?_eq_getElem _, (Nat.div_add_mod' o k).symm⟩

/-- slices.SortFunc at structs. -/
theorem sortK_ok {ρ : Ren} (L : SlLaysF0.n6 P ρ) {e : TypeId} {t : Ty} {g : FuncId} {cts : List PTy} {F : DatPs (.ro true t :: .ro true t :: cts) → Option Int} (aE : ∀ w, (isAgg (ρ.t 24)).run P w = .ok true w) (zE : ∀ w, (Go.sizeOf (ρ.t 24)).run P w = .ok t.sz w)
    (hC : CalOk P gt ⟨g, .ro true t :: .ro true t :: cts, [⟨false, .int .i64, []⟩], F⟩) (hro : (cts.all fun p => match p with | .ro _ _ | .pt _ => true | .mv _ _ => false) = true) : MCalOk P gt (sortCal (ρ.f 6) e true t g cts F) := by
  refine ⟨L.f6.enters rfl, fun xs x ys h => (sortO_some h).2.choose_spec.2.2.2.1.length_eq, fun M w (xs : List (Dat t)) (x : DatPs cts) v cvs gs (ys : List (Dat t)) hm hg hrow hargs hF => ?_⟩
  obtain ⟨hl, cf, hc, he, hd, hperm, _⟩ := sortO_some hF
  change RowV M w (fun _ => True) e t xs v gs at hrow
  show Calls P (ρ.f 6) #[v, .func (.func g) #[] cvs.toArray] w fun e' w' => e' = .returned (.tuple #[]) ∧ MemOk M w' ∧ Kp w w' (· ∈ gs) ∧ RowV M w' (fun _ => True) e t ys v gs
  have hrow0 := hrow
  obtain ⟨A, c, rfl, hcase⟩ := hrow
  by_cases hx : xs = []
  · subst hx
    have hy : ys = [] := hperm.eq_nil
    subst hy
    refine (AnyF.slices_SortFunc_none L A c _ w).mono fun e' w' h => ?_
    obtain ⟨rfl, rfl⟩ := h
    exact ⟨rfl, hm, Kp.refl _ _, hrow0⟩
  rcases hcase with ⟨_, h, _⟩ | ⟨gb, cur, rfl, rfl, _, hM, hpos, hgc, h1, h2, h3, h4⟩
  · exact absurd h hx
  obtain ⟨d, hdx, hdc⟩ := elts_of_row h4
  have hdl : d.length = xs.length := by have := congrArg List.length hdx; rwa [List.length_map] at this
  haveI : Inhabited (Elt M t xs) := ⟨d[0]'(by rw [hdl]; exact List.length_pos_iff.2 hx)⟩
  have hk : ∀ p : Elt M t xs, p.1.2.length = t.sz := fun p => p.2.1.len
  have hcmp : CmpLays P g cvs.toArray (fun p : Elt M t xs => p.1.2) t.sz (fun p q => cf p.1.1 q.1.1) gb 0 d.toArray.size w := fun m os dk _ p q =>
    cmp_calls hC (by simp) hro (put_world hm hM (flatK (fun p : Elt M t xs => p.1.2) t.sz dk) m os).1 hg hargs p.2.1 q.2.1 (he _ p.2.2 _ q.2.2)
  have hH : HoldsK (fun p : Elt M t xs => p.1.2) t.sz w gb 0 d.toArray := holds_row hgc fun o u hu => by
    obtain ⟨p, h1, h2, h3⟩ := flat_inv hk hu
    rw [h3]
    exact hdc _ p (by simpa using h1) _ u h2
  have hcon := AnyQ.slices_SortFunc L t.sz aE zE (fun p : Elt M t xs => p.1.2) hk (fun p => p.2.1.one) (fun p q => cf p.1.1 q.1.1) (hc.swo _) g cvs.toArray gb 0 c d.toArray w hC.enter hcmp hH (Array.getElem?_eq_some_iff.1 hgc).1 (by rw [List.size_toArray, hdl]; exact hl)
  have hsz : d.toArray.size = xs.length := by rw [List.size_toArray]; exact hdl
  rw [hsz] at hcon
  refine hcon.mono fun e' w' h => ?_
  obtain ⟨rfl, d', n, os, hp, hs, rfl⟩ := h
  rw [← hsz] at hp hs
  have hys := sorted_of_kit hl hc he hd hF hdx hp hs
  have hlen : ys.length = xs.length := hperm.length_eq
  have hd' : d'.size = xs.length := by rw [hp.1, hsz]
  refine ⟨rfl, (put_world hm hM _ n os).1, (put_world hm hM _ n os).2, ?_⟩
  rw [← hlen]
  refine put_row hgc hM hpos (by omega) h2 h3 (by rw [size_flatK, hd', h3]; exact Nat.mul_le_mul_right _ h1) (fun i y hy => ?_) n os
  rw [← hys, List.getElem?_map] at hy
  cases hq : d'.toList[i]? with
  | none => rw [hq] at hy; cases hy
  | some p =>
    rw [hq] at hy
    cases hy
    exact ⟨p.1.2, p.2.1, fun j u hu => flat_cells hk (by simpa using hq) hu⟩

theorem putRow_map {α : Type} [Inhabited α] (enc : α → Value) (w : World) (b o : Nat) (d : Array α) : putRow enc w b o d = putRow id w b o (d.map enc) := by
  unfold putRow
  congr 1
  funext c
  unfold putCells
  apply Array.ext_getElem?
  intro k
  simp only [Array.getElem?_mapIdx, Array.size_map]
  cases c[k]? with
  | none => rfl
  | some v =>
    simp only [Option.map_some]
    split
    · rename_i hk
      rw [getElem!_pos d (k - o) (by omega), getElem!_pos (d.map enc) (k - o) (by simpa using (by omega : k - o < d.size))]
      simp
    · rfl

/-- slices.SortFunc at elements of one cell. -/
theorem sort1_ok {ρ : Ren} (L : SlLaysF.n6 P ρ) {e : TypeId} {t : Ty} {g : FuncId} {cts : List PTy} {F : DatPs (.ro false t :: .ro false t :: cts) → Option Int} (h1t : t.sz = 1)
    (hC : CalOk P gt ⟨g, .ro false t :: .ro false t :: cts, [⟨false, .int .i64, []⟩], F⟩) (hro : (cts.all fun p => match p with | .ro _ _ | .pt _ => true | .mv _ _ => false) = true) : MCalOk P gt (sortCal (ρ.f 6) e false t g cts F) := by
  refine ⟨L.f6.enters rfl, fun xs x ys h => (sortO_some h).2.choose_spec.2.2.2.1.length_eq, fun M w (xs : List (Dat t)) (x : DatPs cts) v cvs gs (ys : List (Dat t)) hm hg hrow hargs hF => ?_⟩
  obtain ⟨hl, cf, hc, he, hd, hperm, _⟩ := sortO_some hF
  change RowV M w (fun _ => True) e t xs v gs at hrow
  show Calls P (ρ.f 6) #[v, .func (.func g) #[] cvs.toArray] w fun e' w' => e' = .returned (.tuple #[]) ∧ MemOk M w' ∧ Kp w w' (· ∈ gs) ∧ RowV M w' (fun _ => True) e t ys v gs
  have hrow0 := hrow
  obtain ⟨A, c, rfl, hcase⟩ := hrow
  by_cases hx : xs = []
  · subst hx
    have hy : ys = [] := hperm.eq_nil
    subst hy
    refine (AnyF.slices_SortFunc_none { L with } A c _ w).mono fun e' w' h => ?_
    obtain ⟨rfl, rfl⟩ := h
    exact ⟨rfl, hm, Kp.refl _ _, hrow0⟩
  rcases hcase with ⟨_, h, _⟩ | ⟨gb, cur, rfl, rfl, _, hM, hpos, hgc, h1, h2, h3, h4⟩
  · exact absurd h hx
  obtain ⟨d, hdx, hdc⟩ := elts_of_row h4
  have hdl : d.length = xs.length := by have := congrArg List.length hdx; rwa [List.length_map] at this
  haveI : Inhabited (Elt M t xs) := ⟨d[0]'(by rw [hdl]; exact List.length_pos_iff.2 hx)⟩
  have hk : ∀ p : Elt M t xs, p.1.2.length = 1 := fun p => by rw [p.2.1.len, h1t]
  have hone : ∀ p : Elt M t xs, p.1.2 = [oneV false p.1.2] := fun p => by
    have := hk p
    match h : p.1.2, this with
    | [u], _ => rfl
  have hmem : ∀ p : Elt M t xs, oneV false p.1.2 ∈ p.1.2 := fun p => List.mem_of_getElem? (i := 0) (by
    have := congrArg (·[0]?) (hone p)
    exact this)
  have hcmp : CmpLays1 P g cvs.toArray (fun p : Elt M t xs => oneV false p.1.2) (fun p q => cf p.1.1 q.1.1) gb 0 d.toArray.size w := fun m os dk _ p q => by
    have := put_world hm hM (dk.map fun p : Elt M t xs => oneV false p.1.2) m os
    rw [← putRow_map] at this
    exact cmp_calls hC (fun _ => h1t) hro this.1 hg hargs p.2.1 q.2.1 (he _ p.2.2 _ q.2.2)
  have hH : Holds (fun p : Elt M t xs => oneV false p.1.2) w gb 0 d.toArray := fun j hj => by
    have hj' : j < d.length := by simpa using hj
    have hc0 := hdc j d[j] (List.getElem?_eq_getElem hj') 0 (oneV false d[j].1.2) (by rw [hone d[j]]; rfl)
    rw [h1t, Nat.mul_one, Nat.add_zero] at hc0
    refine ⟨?_, by simp only [World.frozen?, hgc]; simp⟩
    simp only [World.cell?, hgc, Nat.zero_add, Option.isSome_none, Bool.false_eq_true, if_false, hc0]
    rw [getElem!_pos d.toArray j hj]
    rfl
  have hcon := Any.slices_SortFunc L (fun p : Elt M t xs => oneV false p.1.2) (fun p => p.2.1.one _ (hmem p)) (fun p q => cf p.1.1 q.1.1) (hc.swo _) g cvs.toArray gb 0 c d.toArray w hC.enter hcmp hH (Array.getElem?_eq_some_iff.1 hgc).1 (by rw [List.size_toArray, hdl]; exact hl)
  have hsz : d.toArray.size = xs.length := by rw [List.size_toArray]; exact hdl
  rw [hsz] at hcon
  refine hcon.mono fun e' w' h => ?_
  obtain ⟨rfl, d', n, os, hp, hs, rfl⟩ := h
  rw [← hsz] at hp hs
  have hys := sorted_of_kit hl hc he hd hF hdx hp hs
  have hlen : ys.length = xs.length := hperm.length_eq
  have hd' : d'.size = xs.length := by rw [hp.1, hsz]
  have hw := put_world hm hM (d'.map fun p : Elt M t xs => oneV false p.1.2) n os
  unfold sortWorld
  rw [putRow_map]
  refine ⟨rfl, hw.1, hw.2, ?_⟩
  rw [← hlen]
  refine put_row hgc hM hpos (by omega) h2 h3 (by rw [Array.size_map, hd', h3, h1t, Nat.mul_one]; exact h1) (fun i y hy => ?_) n os
  rw [← hys, List.getElem?_map] at hy
  cases hq : d'.toList[i]? with
  | none => rw [hq] at hy; cases hy
  | some p =>
    rw [hq] at hy
    cases hy
    refine ⟨p.1.2, p.2.1, fun j u hu => ?_⟩
    have hj : j = 0 := by have := (List.getElem?_eq_some_iff.1 hu).1; have := hk p; omega
    subst hj
    rw [hone p] at hu
    rw [h1t, Nat.mul_one, Nat.add_zero, Array.getElem?_map, show d'[i]? = some p by simpa using hq]
    simpa using hu

end
end Go.R

/- A function that works on a box in its place: its contract. -/
namespace Go.R
open Go

/-- The pieces are aggregates where they are said to be. -/
def aggOk : List (Bool × Nat) → List AV → Bool
  | [], [] => true
  | (b, _) :: r, v :: vs => (b == v.isAgg) && aggOk r vs
  | _, _ => false

def allTmp : List ResultVar → Bool
  | [] => true
  | .tmp _ :: l => allTmp l
  | _ :: _ => false

/-- A row of the box at the end. -/
def backMv (st : St) (e : TypeId) (t : Ty) (v : AV) : Option (List (Dat t) × List Nat) :=
  match v with
  | .nils => some ([], [])
  | .emp => some ([], [])
  | .own i => match look st.store i with
    | some (.row e' u xs) => if h : u = t then cond (Nat.beq e' e) (some (castS h xs, [i])) none else none
    | _ => none
  | .ownv i 0 (some b) => match look st.store i with
    | some (.row e' u xs) => if h : u = t then cond (Nat.beq e' e) (some ((castS h xs).take b, [i])) none else none
    | _ => none
  | _ => none

/-- A piece of the box at the end. -/
def backP (st : St) (p : PTy) (v : AV) : Option (DatP p × List Nat) :=
  match p with
  | .ro agg t => cond (agg == v.isAgg) (match dec t v.cells with
    | some x => some (x, [])
    | none => none) none
  | .mv e t => backMv st e t v
  | .pt _ => none

def backPs (st : St) : (ps : List PTy) → List AV → Option (DatPs ps × List Nat)
  | [], [] => some ((), [])
  | [p], [v] => backP st p v
  | p :: q :: ps, v :: vs => match backP st p v with
    | some (x, i) => match backPs st (q :: ps) vs with
      | some (y, j) => some ((x, y), i ++ j)
      | none => none
    | none => none
  | _, _ => none

def finishB (fn : Func) (e : TypeId) (sizes : List (Bool × Nat)) (ps : List PTy) (rts : List RTy) (st : St) : Option (DatPs ps × DatRs rts) :=
  match st.fs, look st.store 0, resultsOf st fn.results.toList with
  | [[.ptr 0 0 0]], some (.box e' cs), some vs => cond (Nat.beq e' e && fitS sizes cs.length && cs.all AV.oneCell && allTmp fn.results.toList) (match backPs st ps (groupA sizes cs) with
    | some (y, mv) => match resR st rts vs with
      | some (x, ids) => cond (distinct (mv ++ ids) && !((mv ++ ids).any (Nat.beq 0))) (some (y, x)) none
      | none => none
    | none => none) none
  | _, _, _ => none

def evalFnB (E : Env) (fuel : Nat) (fn : Func) (a : ACode) (e : TypeId) (sizes : List (Bool × Nat)) (ps ats : List PTy) (rts : List RTy) (x : DatPs (ps ++ ats)) : Option (DatPs ps × DatRs rts) :=
  match fn.body with
  | some c => match argsOf 1 (ps ++ ats) x with
    | (vs, d) => cond (aggOk sizes (vs.take sizes.length) && (flatA (vs.take sizes.length)).all AV.oneCell) (exec E fuel a c { norm := finishB fn e sizes ps rts, ret := finishB fn e sizes ps rts, exits := [] }
        { fr := (.ptr 0 0 0 :: vs.drop sizes.length) ++ List.replicate (fn.ntmps - (vs.drop sizes.length).length - 1) .undef, fs := [[.ptr 0 0 0]], store := (0, some (.box e (flatA (vs.take sizes.length)))) :: d, next := 1 + vs.length, dirty := [] }) none
  | none => none

section
variable {P : Program} {E : Env} {w0 : Start} {S G : Nat → Prop} {M : Mem} {ρ : Places} {L L0 : Blks} {w : World} {fr fr0 : List AV} {fs : List (List AV)} {tmps : List Value} {susp : List (List Value)} {n : Nat}

theorem SimM.adoptBox (h : SimM E w0 S G M ρ L w) {n g cap : Nat} (hn : ¬ G n) {cur : Array Value} {e : TypeId} {cs : List AV} (hg : w.heap[g]? = some (.cells cur e (0, 0)))
    (hw : w0.heap.size ≤ g ∨ S g) (hm : ∀ o, M g o = none) (hfree : ∀ id, L id ≠ none → ∀ g' c, ρ id = some (g', c) → g' ≠ g) (hr : RepL M ρ L cs cur.toList) (hb : BdL G cs) :
    SimM E w0 S (fun i => G i ∨ i = n) M (upd ρ n (some (g, cap))) (upd L n (some (.box e cs))) w ∧ Still G ρ L (upd ρ n (some (g, cap))) (upd L n (some (.box e cs))) := by
  have hst := still_fresh hn ρ L (some (g, cap)) (some (.box e cs))
  have hlive : ∀ id, upd L n (some (.box e cs)) id ≠ none → id ≠ n → L id ≠ none := fun id hl e => by rwa [upd_other _ _ e] at hl
  refine ⟨⟨h.mem, h.kp, h.glob, fun id hl g' c hr => ?_, fun id id' hl hl' g' c c' hr hr' => ?_, fun id => ?_, fun id e' cs' hl => ?_, fun id hl => ?_, h.le, h.new⟩, hst⟩
  · by_cases e : id = n
    · subst e; rw [upd_same] at hr; cases hr; exact ⟨hw, hm⟩
    · rw [upd_other _ _ e] at hr; exact h.own id (hlive id hl e) g' c hr
  · by_cases e : id = n
    · by_cases e' : id' = n
      · rw [e, e']
      · subst e
        rw [upd_same] at hr
        cases hr
        rw [upd_other _ _ e'] at hr'
        exact absurd rfl (hfree id' (hlive id' hl' e') g c' hr')
    · by_cases e' : id' = n
      · subst e'
        rw [upd_same] at hr'
        cases hr'
        rw [upd_other _ _ e] at hr
        exact absurd rfl (hfree id (hlive id hl e) g c hr)
      · rw [upd_other _ _ e] at hr
        rw [upd_other _ _ e'] at hr'
        exact h.inj id id' (hlive id hl e) (hlive id' hl' e') g' c c' hr hr'
  · by_cases e' : id = n
    · subst e'
      simp only [BlkOk, upd_same]
      exact ⟨g, cap, cur, rfl, hg, hr.mono (Mem.le_refl _) hst _ _ hb⟩
    · exact (h.blk id).keep (upd_other _ _ e') (upd_other _ _ e') (Mem.le_refl _) hst (h.bbx id) (fun _ _ _ _ => rfl)
  · by_cases e : id = n
    · subst e; rw [upd_same] at hl; cases hl; exact hb.mono (fun _ => .inl)
    · rw [upd_other _ _ e] at hl; exact (h.bbx id e' cs' hl).mono (fun _ => .inl)
  · by_cases e : id = n
    · exact .inr e
    · exact .inl (h.live id (hlive id hl e))

theorem groupV_len : (sz : List (Bool × Nat)) → (vs : List Value) → (groupV sz vs).length = sz.length
  | [], _ => rfl
  | (_, n) :: r, vs => by simp [groupV, groupV_len r]
theorem groupA_len : (sz : List (Bool × Nat)) → (vs : List AV) → (groupA sz vs).length = sz.length
  | [], _ => rfl
  | (_, n) :: r, vs => by simp [groupA, groupA_len r]

theorem cells_one {v : Value} (h : v.cells = #[v]) : v.cells.toList = [v] := by rw [h]

theorem one_of {a : AV} (h : a.isAgg = false) (ho : a.cells.all AV.oneCell = true) : a.oneCell = true := by
  cases a <;> simp_all [AV.cells, AV.isAgg]

theorem flat_args : {sz : List (Bool × Nat)} → {bs0 : List AV} → {vs : List Value} → fitS sz vs.length = true → RepL M ρ L bs0 (groupV sz vs) → aggOk sz bs0 = true → (flatA bs0).all AV.oneCell = true → flatV (groupV sz vs) = vs
  | [], bs0, vs, h, _, _, _ => by
    simp only [fitS] at h
    have := Nat.eq_of_beq_eq_true h
    rw [List.eq_nil_of_length_eq_zero this]
    rfl
  | (agg, n) :: r, bs0, vs, h, hr, ha, ho => by
    simp only [fitS, Bool.and_eq_true, Bool.or_eq_true] at h
    obtain ⟨⟨h1, h2⟩, h3⟩ := h
    have h2 := Nat.le_of_ble_eq_true h2
    simp only [groupV] at hr ⊢
    match bs0, hr, ha, ho with
    | [], hr, _, _ => simp [RepL] at hr
    | a :: bs0', hr, ha, ho =>
      simp only [RepL, List.cons.injEq] at hr
      obtain ⟨u, us, ⟨rfl, rfl⟩, hr1, hr2⟩ := hr
      simp only [aggOk, Bool.and_eq_true, beq_iff_eq] at ha
      simp only [flatA, List.flatMap_cons, List.all_append, Bool.and_eq_true] at ho
      have hA := ha.1
      have hO := ho.1
      have ih := flat_args (vs := vs.drop n) (by rw [List.length_drop]; exact h3) hr2 ha.2 ho.2
      simp only [flatV, List.flatMap_cons] at ih ⊢
      rw [ih]
      have hc : (oneV agg (vs.take n)).cells.toList = vs.take n := by
        cases agg with
        | true => simp [oneV, Value.cells]
        | false =>
          have hn : n = 1 := by
            rcases h1 with h1 | h1
            · cases h1
            · exact Nat.eq_of_beq_eq_true h1
          subst hn
          match vs, h2 with
          | v :: vs', _ =>
            have hone : a.oneCell = true := one_of hA.symm hO
            have e0 : oneV false (List.take 1 (v :: vs')) = v := rfl
            rw [e0] at hr1 ⊢
            rw [(rep_one hr1 hone).2]
            rfl
      rw [hc, List.take_append_drop]

theorem flatV_cells : {sz : List (Bool × Nat)} → {cs : List AV} → {vs : List Value} → fitS sz cs.length = true → RepL M ρ L cs vs → cs.all AV.oneCell = true → flatV (groupV sz vs) = vs
  | [], cs, vs, h, hr, _ => by
    simp only [fitS] at h
    have := Nat.eq_of_beq_eq_true h
    have hl := hr.length
    rw [List.eq_nil_of_length_eq_zero (l := vs) (by omega)]
    rfl
  | (agg, n) :: r, cs, vs, h, hr, ho => by
    simp only [fitS, Bool.and_eq_true, Bool.or_eq_true] at h
    obtain ⟨⟨h1, h2⟩, h3⟩ := h
    have h2 := Nat.le_of_ble_eq_true h2
    have hl := hr.length
    have ho2 : (cs.drop n).all AV.oneCell = true := by
      rw [List.all_eq_true] at ho ⊢
      exact fun x hx => ho x (List.mem_of_mem_drop hx)
    have ih := flatV_cells (sz := r) (cs := cs.drop n) (vs := vs.drop n) (by rw [List.length_drop]; exact h3) (hr.drop n) ho2
    simp only [groupV, flatV, List.flatMap_cons] at ih ⊢
    rw [ih]
    have hc : (oneV agg (vs.take n)).cells.toList = vs.take n := by
      cases agg with
      | true => simp [oneV, Value.cells]
      | false =>
        have hn : n = 1 := by
          rcases h1 with h1 | h1
          · cases h1
          · exact Nat.eq_of_beq_eq_true h1
        subst hn
        match cs, vs, hr, ho, h2, hl with
        | c :: cs', v :: vs', hr, ho, _, _ =>
          simp only [RepL, List.cons.injEq] at hr
          obtain ⟨_, _, ⟨rfl, rfl⟩, hr1, _⟩ := hr
          simp only [List.all_cons, Bool.and_eq_true] at ho
          have e0 : oneV false (List.take 1 (v :: vs')) = v := rfl
          rw [e0, (rep_one hr1 ho.1).2]
          rfl
        | c :: cs', [], _, _, _, hl => simp at hl
        | [], _, _, _, h2, _ => simp at h2
    rw [hc, List.take_append_drop]

theorem outS_mono {F F' : Nat → Prop} : {t : Ty} → {x : Dat t} → {es es' : List TypeId} → {us : List Value} → {gs : List Nat} → OutS M w F t x es es' us gs → (∀ g ∈ gs, F' g) → OutS M w F' t x es es' us gs
  | .int _, _, _, _, _, _, h, _ => by simpa only [OutS] using h
  | .bool, _, _, _, _, _, h, _ => by simpa only [OutS] using h
  | .str, _, _, _, _, _, h, _ => by simpa only [OutS] using h
  | .unit, _, _, _, _, _, h, _ => by simpa only [OutS] using h
  | .slice _, _, _, _, _, _, h, hF => by
    simp only [OutS] at h ⊢
    obtain ⟨e, v, h1, h2, h3⟩ := h
    exact ⟨e, v, h1, h2, h3.mono hF⟩
  | .pair a b, p, _, _, _, _, h, hF => by
    simp only [OutS] at h ⊢
    obtain ⟨em, v1, v2, g1, g2, h1, rfl, h3, h4⟩ := h
    exact ⟨em, v1, v2, g1, g2, h1, rfl, outS_mono h3 (fun g hg => hF g (List.mem_append_left _ hg)), outS_mono h4 (fun g hg => hF g (List.mem_append_right _ hg))⟩

theorem outsP_mono {F F' : Nat → Prop} : {rts : List RTy} → {x : DatRs rts} → {vs : List Value} → {gs : List Nat} → OutsP M w F rts x vs gs → (∀ g ∈ gs, F' g) → OutsP M w F' rts x vs gs
  | [], _, _, _, h, _ => by simpa only [OutsP] using h
  | [r], x, _, _, h, hF => by
    simp only [OutsP] at h ⊢
    obtain ⟨v, h1, us, h2, h3, h4⟩ := h
    exact ⟨v, h1, us, h2, h3, outS_mono h4 hF⟩
  | r :: q :: rs, x, _, _, h, hF => by
    simp only [OutsP] at h ⊢
    obtain ⟨v, vs', g1, g2, h1, rfl, ⟨us, h2, h3, h4⟩, h5⟩ := h
    exact ⟨v, vs', g1, g2, h1, rfl, ⟨us, h2, h3, outS_mono h4 (fun g hg => hF g (List.mem_append_left _ hg))⟩, outsP_mono h5 (fun g hg => hF g (List.mem_append_right _ hg))⟩

theorem resOk_tmp : {l : List ResultVar} → {vs : List AV} → allTmp l = true → ResOk P l vs
  | [], _, _ => by simp [ResOk]
  | .tmp _ :: l, [], _ => by simp [ResOk]
  | .tmp _ :: l, _ :: vs, h => by simp only [ResOk]; exact resOk_tmp (by simpa [allTmp] using h)
  | .cell _ _ :: l, vs, h => by simp [allTmp] at h

/-- The state in which such a function begins. -/
theorem startB_sim {fn : Func} {e : TypeId} {sizes : List (Bool × Nat)} {ats : List PTy} {x : DatPs ats} {g : Nat} {cur : Array Value} {vs : List Value} {gs : List Nat} (hmem : MemOk M w) (hglob : GlobOk M E.gs) (hargs : ArgsP M w ats x (groupV sizes cur.toList ++ vs) gs) (hnd : gs.Nodup) (hgg : g ∉ gs) (hMg : ∀ o, M g o = none)
    (hheap : w.heap[g]? = some (.cells cur e (0, 0))) (hfit : fitS sizes cur.size = true) {avs : List AV} {d : List (Nat × Option Blk)} (hq : argsOf 1 ats x = (avs, d)) (hagg : aggOk sizes (avs.take sizes.length) = true) (hone : (flatA (avs.take sizes.length)).all AV.oneCell = true) :
    SimE E { toWorld := w, m := M } (· ∈ g :: gs) { fr := (.ptr 0 0 0 :: avs.drop sizes.length) ++ List.replicate (fn.ntmps - (avs.drop sizes.length).length - 1) .undef, fs := [[.ptr 0 0 0]], store := (0, some (.box e (flatA (avs.take sizes.length)))) :: d, next := 1 + avs.length, dirty := [] }
      { tmps := (.pointer (some ⟨g, 0, none⟩) :: vs).toArray ++ Array.replicate (fn.ntmps - (Value.pointer (some ⟨g, 0, none⟩) :: vs).toArray.size) undef, defers := [] } [[.pointer (some ⟨g, 0, none⟩)]] w := by
  have h0 : SimM E { toWorld := w, m := M } (· ∈ g :: gs) (fun _ => False) M (fun _ => none) (look []) w :=
    ⟨hmem, Kp.refl w _, hglob, fun id hl => absurd rfl hl, fun id _ hl => absurd rfl hl, fun id => by simp [BlkOk, look], fun id e cs hl => by simp [look] at hl, fun id hl => absurd rfl hl, Mem.le_refl _, fun b o u h => .inl h⟩
  obtain ⟨ρ, k1, k2, k3, k4⟩ := argsOf_in (w0 := { toWorld := w, m := M }) (S := (· ∈ g :: gs)) hargs hnd (fun g' hg => .inr (List.mem_cons_of_mem _ hg)) h0 (fun id hl => absurd rfl hl) (n := 1) (fun i _ h => h) hq
  have hup : ∀ i, grow (fun _ => False) d i → 1 ≤ i ∧ i < 1 + avs.length := fun i hi => by
    rcases hi with hi | ⟨b, hi⟩
    · exact hi.elim
    · exact k4 i _ hi
  have hgl : (groupV sizes cur.toList).length = sizes.length := groupV_len _ _
  have kt := k2.take sizes.length
  have kd := k2.drop sizes.length
  rw [List.take_left' hgl] at kt
  rw [List.drop_left' hgl] at kd
  have hfl := flat_args (by rw [Array.length_toList]; exact hfit) kt hagg hone
  have hrep := rep_flat kt hone
  rw [hfl] at hrep
  obtain ⟨s1, s2⟩ := k1.sim.adoptBox (n := 0) (cap := 0) (fun h => by have := hup 0 h; omega) hheap (.inr (List.mem_cons_self ..)) hMg (fun id hl g' c hr he => by
    rcases k1.places id hl g' c hr with ⟨h1, _⟩ | h1
    · exact absurd rfl h1
    · rw [he] at h1; exact hgg h1) hrep (bd_flat (k3.take _))
  have hlen := kd.length
  have hL : look ((0, some (.box e (flatA (avs.take sizes.length)))) :: d) = upd (ov d (look [])) 0 (some (.box e (flatA (avs.take sizes.length)))) := by
    rw [look_cons, ← look_ov, List.append_nil]
  have hG : ∀ i, (grow (fun _ => False) d i ∨ i = 0) → i < 1 + avs.length := fun i hi => by
    rcases hi with hi | hi
    · exact (hup i hi).2
    · omega
  have hptr : Rep M (upd ρ 0 (some (g, 0))) (upd (ov d (look [])) 0 (some (.box e (flatA (avs.take sizes.length))))) (.ptr 0 0 0) (.pointer (some ⟨g, 0, none⟩)) := by
    simp only [Rep]
    unfold PtrV
    rw [upd_same]
    exact ⟨g, 0, by rw [upd_same], rfl, rfl⟩
  refine ⟨rfl, M, upd ρ 0 (some (g, 0)), ?_⟩
  unfold SimS
  simp only [hL]
  refine { s1 with bbx := fun id e cs hl => (s1.bbx id e cs hl).mono hG, live := fun id hl => hG id (s1.live id hl), frr := ?_, fsr := ?_, bfr := ?_, bfs := ?_ }
  · simp only [Array.toList_append, Array.toList_replicate]
    refine RepL.append ?_ (RepL_undef (by simp [hlen]; omega) fun c hc => List.eq_of_mem_replicate hc)
    simp only [RepL]
    exact ⟨_, _, rfl, hptr, kd.mono (Mem.le_refl _) s2 _ _ (k3.drop _)⟩
  · simp only [RepF]
    exact ⟨_, _, rfl, by simp only [RepL]; exact ⟨_, _, rfl, hptr, rfl⟩, rfl⟩
  · refine BdL.append ?_ (BdL_undef fun c hc => List.eq_of_mem_replicate hc)
    simp only [BdL]
    exact ⟨by simp only [Bd]; omega, (k3.drop _).mono fun i hi => (hup i hi).2⟩
  · simp only [BdF, BdL, Bd]
    exact ⟨⟨by omega, trivial⟩, trivial⟩

theorem frz_self : (cs : List AV) → Frz L cs cs []
  | [] => .nil
  | _ :: cs => .other (frz_self cs)

theorem backP_in {st : St} {p : PTy} {v : AV} {x : DatP p} {mv : List Nat} (h : backP st p v = some (x, mv)) : InP (look st.store) p x v [] mv := by
  cases p with
  | ro agg t =>
    simp only [backP] at h
    cases hc : (agg == v.isAgg) with
    | false => rw [hc] at h; cases h
    | true =>
      rw [hc] at h
      simp only [cond_true] at h
      split at h
      · rename_i y hd
        simp only [Option.some.injEq, Prod.mk.injEq] at h
        obtain ⟨rfl, rfl⟩ := h
        exact ⟨rfl, (eq_of_beq hc).symm, v.cells, frz_self _, hd⟩
      · cases h
  | mv e t =>
    change backMv st e t v = some (x, mv) at h
    unfold backMv at h
    split at h
    · simp only [Option.some.injEq, Prod.mk.injEq] at h; obtain ⟨rfl, rfl⟩ := h
      exact ⟨rfl, .inl ⟨rfl, rfl, .inl rfl⟩⟩
    · simp only [Option.some.injEq, Prod.mk.injEq] at h; obtain ⟨rfl, rfl⟩ := h
      exact ⟨rfl, .inl ⟨rfl, rfl, .inr rfl⟩⟩
    · rename_i i
      split at h
      · rename_i e' u xs hl
        split at h
        · rename_i hu
          subst hu
          cases hc : Nat.beq e' e with
          | false => rw [hc] at h; cases h
          | true =>
            rw [hc] at h
            obtain rfl := Nat.eq_of_beq_eq_true hc
            simp only [cond_true, castS_self, Option.some.injEq, Prod.mk.injEq] at h
            obtain ⟨rfl, rfl⟩ := h
            exact ⟨rfl, .inr (.inl ⟨i, rfl, rfl, hl⟩)⟩
        · cases h
      · cases h
    · rename_i i b
      split at h
      · rename_i e' u xs hl
        split at h
        · rename_i hu
          subst hu
          cases hc : Nat.beq e' e with
          | false => rw [hc] at h; cases h
          | true =>
            rw [hc] at h
            obtain rfl := Nat.eq_of_beq_eq_true hc
            simp only [cond_true, castS_self, Option.some.injEq, Prod.mk.injEq] at h
            obtain ⟨rfl, rfl⟩ := h
            exact ⟨rfl, .inr (.inr ⟨i, b, xs, rfl, rfl, hl, rfl⟩)⟩
        · cases h
      · cases h
    · cases h
  | pt t => cases h

theorem backPs_in {st : St} : {ps : List PTy} → {vs : List AV} → {x : DatPs ps} → {mv : List Nat} → backPs st ps vs = some (x, mv) → InsP (look st.store) ps x vs [] mv
  | [], [], x, mv, h => by
    simp only [backPs, Option.some.injEq, Prod.mk.injEq] at h
    obtain ⟨_, rfl⟩ := h
    exact ⟨rfl, rfl, rfl⟩
  | [p], [v], x, mv, h => by
    simp only [backPs] at h
    exact ⟨v, rfl, backP_in h⟩
  | p :: q :: ps, v :: vs, x, mv, h => by
    simp only [backPs] at h
    cases h1 : backP st p v with
    | none => rw [h1] at h; cases h
    | some r1 =>
      obtain ⟨x1, i1⟩ := r1
      rw [h1] at h
      simp only at h
      cases h2 : backPs st (q :: ps) vs with
      | none => rw [h2] at h; cases h
      | some r2 =>
        obtain ⟨x2, i2⟩ := r2
        rw [h2] at h
        simp only [Option.some.injEq, Prod.mk.injEq] at h
        obtain ⟨rfl, rfl⟩ := h
        exact ⟨v, vs, [], [], i1, i2, rfl, rfl, rfl, backP_in h1, backPs_in h2⟩
  | [], _ :: _, x, mv, h => by simp [backPs] at h
  | [_], [], x, mv, h => by simp [backPs] at h
  | [_], _ :: _ :: _, x, mv, h => by simp [backPs] at h
  | _ :: _ :: _, [], x, mv, h => by simp [backPs] at h

/-- THE CONTRACT OF A FUNCTION THAT WORKS ON A BOX: what the evaluator says of it, its calls do. -/
theorem bcal_sound (hP : ProgOk P E) (hD : DrawOk P E) {fuel : Nat} {fn : Func} {c : Code} {a : ACode} {C : BCal} (hev : ∀ x, evalFnB E fuel fn a C.e C.sizes C.ps C.ats C.rts x = C.F x) (hf : P.funcs[C.f]? = some fn) (hb : fn.body = some c)
    (hent : ∀ args w, (callFunc C.f args).run P w = .ok (.enter C.f args) w) (hk : chkC P E a c = true) : BCalOk P E.gs C := by
  refine ⟨hent, fun M w x g cur vs gs r hmem hglob hargs hnd hgg hMg hheap hfit hF => ?_⟩
  rw [← hev x] at hF
  unfold evalFnB at hF
  rw [hb] at hF
  generalize hq : argsOf 1 (C.ps ++ C.ats) x = q at hF
  obtain ⟨avs, d⟩ := q
  simp only at hF
  cases hc0 : (aggOk C.sizes (avs.take C.sizes.length) && (flatA (avs.take C.sizes.length)).all AV.oneCell) with
  | false => rw [hc0] at hF; cases hF
  | true =>
    rw [hc0] at hF
    simp only [cond_true] at hF
    simp only [Bool.and_eq_true] at hc0
    have hs := startB_sim (fn := fn) hmem hglob hargs hnd hgg hMg hheap hfit hq hc0.1 hc0.2
    refine calls_of_wp hf hb ((wpIn_wide (n := 0)).1 ?_)
    refine exec_sound hP hD fuel a none _ _ c _ _ _ w _ r _ hk hs hF fun st' a' w' h1 h2 => ?_
    have fin : finishB fn C.e C.sizes C.ps C.rts st' = some r → a'.defers = [] ∧ ∃ v, (results fn a'.tmps).run P w' = .ok v w' ∧ ∃ (M' : Mem) (us' vs' : List Value) (hs1 hs2 : List Nat) (cur' : Array Value), Ending.returned v = .returned (retV vs') ∧ RetB M w [g] gs M' w' C.ps r.1 us' C.rts r.2 vs' hs1 hs2 ∧
        w'.heap[g]? = some (.cells cur' C.e (0, 0)) ∧ cur'.toList = flatV us' ∧ ∀ o, M' g o = none := by
      intro h3
      obtain ⟨hd, M', ρ', hs'⟩ := h1
      refine ⟨hd, ?_⟩
      unfold finishB at h3
      split at h3
      · rename_i e' cs avs' hfs hlk hres
        cases hcc : (Nat.beq e' C.e && fitS C.sizes cs.length && cs.all AV.oneCell && allTmp fn.results.toList) with
        | false => rw [hcc] at h3; cases h3
        | true =>
          rw [hcc] at h3
          simp only [cond_true] at h3
          simp only [Bool.and_eq_true] at hcc
          obtain ⟨⟨⟨hee, hfit'⟩, hone'⟩, htmp⟩ := hcc
          obtain rfl := Nat.eq_of_beq_eq_true hee
          cases hpp : backPs st' C.ps (groupA C.sizes cs) with
          | none => rw [hpp] at h3; cases h3
          | some q0 =>
            obtain ⟨y0, mv0⟩ := q0
            rw [hpp] at h3
            simp only at h3
            cases hrr : resR st' C.rts avs' with
            | none => rw [hrr] at h3; cases h3
            | some q =>
              obtain ⟨y, ids⟩ := q
              rw [hrr] at h3
              simp only at h3
              cases hdis : (distinct (mv0 ++ ids) && !((mv0 ++ ids).any (Nat.beq 0))) with
              | false => rw [hdis] at h3; cases h3
              | true =>
                rw [hdis] at h3
                simp only [cond_true, Option.some.injEq] at h3
                subst h3
                simp only [Bool.and_eq_true] at hdis
                -- the box
                have hbk := hs'.blk 0
                unfold BlkOk at hbk
                rw [hlk] at hbk
                dsimp only at hbk
                obtain ⟨g', cap, cur', hρ, hg', hrep⟩ := hbk
                have hgg' : g' = g := by
                  have hfr := hs'.fsr
                  rw [hfs] at hfr
                  simp only [RepF, RepL, List.cons.injEq] at hfr
                  obtain ⟨v1, r1, ⟨rfl, rfl⟩, ⟨v2, r2, ⟨rfl, rfl⟩, hp, _⟩, _⟩ := hfr
                  simp only [Rep] at hp
                  unfold PtrV at hp
                  rw [hlk] at hp
                  dsimp only at hp
                  obtain ⟨g2, cap2, h4, _, h5⟩ := hp
                  rw [hρ] at h4
                  cases h4
                  simp only [Value.pointer.injEq, Option.some.injEq, Addr.mk.injEq] at h5
                  exact h5.1.symm
                subst hgg'
                have hown := hs'.own 0 (by rw [hlk]; simp) g' cap hρ
                obtain ⟨us, r1, r2, r3⟩ := results_run (P := P) hs' hres (resOk_tmp htmp)
                have hgr := rep_group hfit' hrep
                have hnd0 := List.nodup_append.1 (distinct_nodup hdis.1)
                have hin := backPs_in hpp
                have hlv0 := insP_live hin
                obtain ⟨gs1, p1, p2, p3⟩ := insP_args (Mem.le_refl M') hs'.toSimM hin (fun id hid => by simp at hid) (fun id hid g2 c2 hr2 => (hs'.own id (hlv0.2 id hid) g2 c2 hr2).2) hnd0.1 hgr (bd_group (hs'.bbx 0 _ _ hlk))
                obtain ⟨hs2, o1, o2, o3⟩ := resR_out hs'.toSimM hrr hnd0.2.1 r2
                have of1 : Of ρ' (look st'.store) mv0 gs1 := fun q hq => by
                  obtain ⟨i, hi, cc, hr'⟩ := p3 q hq
                  exact ⟨i, hi, cc, hr', hlv0.2 i hi⟩
                have hnot : ∀ {l : List Nat} {hs : List Nat}, Of ρ' (look st'.store) l hs → (∀ i ∈ l, i ∈ mv0 ++ ids) → ∀ q ∈ hs, w.heap.size ≤ q ∨ q ∈ gs := fun {l hs} hof hsub q hq => by
                  obtain ⟨i, hi, cc, hr', hl'⟩ := hof q hq
                  have hi0 : i ≠ 0 := fun e0 => not_any hdis.2 (by rw [← e0]; exact hsub i hi)
                  rcases (hs'.own i hl' q cc hr').1 with h6 | h6
                  · exact .inl h6
                  · rcases List.mem_cons.1 h6 with h6 | h6
                    · subst h6
                      exact absurd (hs'.inj i 0 hl' (by rw [hlk]; simp) q cc cap hr' hρ) hi0
                    · exact .inr h6
                have n1 := hnot of1 (fun i hi => List.mem_append_left _ hi)
                have n2 := hnot o2 (fun i hi => List.mem_append_right _ hi)
                refine ⟨_, r1, M', groupV C.sizes cur'.toList, us, gs1, hs2, cur', rfl, ⟨hs'.le, hs'.mem, hs'.kp, fun b o u hu => ?_, Of.nodup hs'.toSimM of1 o2 p2 o3 (distinct_nodup hdis.1), p1, n1, outsP_mono o1 n2, n2⟩, hg', (flatV_cells hfit' hrep hone').symm, hown.2⟩
                rcases hs'.new b o u hu with h6 | h6 | h6
                · exact .inl h6
                · exact .inr (.inl h6)
                · rcases List.mem_cons.1 h6 with h6 | h6
                  · subst h6
                    rw [hown.2 o] at hu
                    cases hu
                  · exact .inr (.inr h6)
      · cases h3
    refine ⟨fun h3 => fin h3, fun h3 => fin h3, fun id h3 => ?_⟩
    simp [goExit] at h3

/-- A contract that tells nothing. -/
theorem bstub_ok {gl : List (Nat × List AV)} {C : BCal} (hent : ∀ args w, (callFunc C.f args).run P w = .ok (.enter C.f args) w) (h : ∀ x, C.F x = none) : BCalOk P gl C :=
  ⟨hent, fun _ _ x _ _ _ _ _ _ _ _ _ _ _ _ _ hF => by rw [h x] at hF; cases hF⟩

end
end Go.R
