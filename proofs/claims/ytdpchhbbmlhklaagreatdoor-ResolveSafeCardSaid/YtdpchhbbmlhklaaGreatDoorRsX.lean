/- What is proved here: functions of the library that change a row in its place, by the kit's contracts; a tool for the claim's proof. It asks nothing. -/
import Derived.Test.YtdpchhbbmlhklaaGreatDoorRc
import Derived.Test.YtdpchhbbmlhklaaGreatDoorRsW
import Derived.Lib.Walk
import Derived.Lib.SliceRun
import Derived.Lib.AppendZerosOnto
import Derived.Lib.Overlaps
import Derived.Laws.Externs
import Derived.Shelf.RegionOpenPlain
/- slices.Insert: its contract out of a walk of its code. -/
namespace Go.R
open Go

section
variable {P : Program} {M : Mem} {w : World}

/-! ### 'copy' whose run is known -/

theorem wp_copy_eq (w : World) {o : Oper} {a : Act} {K : Act → World → Prop} {Q : Exit → Act → World → Prop} (d s : Operand) (t t' : TypeId)
    (ho : o.op = .call { callee := .builtin .copy, args := #[d, s], argTypes := #[t, t'] }) (v u : Value) (hd : a.eval d = v) (hs : a.eval s = u) {v' : Value} {w' : World}
    (hr : (Builtin.copy_ #[t, t'] o.type #[v, u]).run P w = .ok v' w') (h : K (a.put o.dst v') w') : o.wp P a w K Q := by
  unfold Oper.wp
  simp only [execOp, ho, resolve, invoke, builtin, Sem.run_bind, Sem.run_pure, Result.andThen_ok, List.map_toArray, List.map_cons, List.map_nil, hd, hs, hr]
  exact h

theorem wpList_copy_eq (w : World) {ops : Array Oper} {rest : List Oper} {o : Oper} {a : Act} {Q : Exit → Act → World → Prop} (hgd : o.guard = none) (d s : Operand) (t t' : TypeId)
    (ho : o.op = .call { callee := .builtin .copy, args := #[d, s], argTypes := #[t, t'] }) (v u : Value) (hd : a.eval d = v) (hs : a.eval s = u) {v' : Value} {w' : World}
    (hr : (Builtin.copy_ #[t, t'] o.type #[v, u]).run P w = .ok v' w') (h : wpList P ops Q rest (a.put o.dst v') w') : wpList P ops Q (o :: rest) a w :=
  wpList_plain hgd fun _ hK => wp_copy_eq w d s t t' ho v u hd hs hr (hK _ _ h)

theorem step_copy_eq {ops : Array Oper} {o : Oper} {a : Act} {w : World} {K : Act → World → Prop} {Q : Exit → Act → World → Prop} {E : Prop}
    (hg : o.guard = none) (d x : Operand) (dT sT : TypeId) (hop : o.op = Op.call { callee := Callee.builtin Builtin.copy, args := #[d, x], argTypes := #[dT, sT] })
    (v u : Value) (hd : a.eval d = v) (hx : a.eval x = u) {v' : Value} {w' : World} (hr : (Builtin.copy_ #[dT, sT] o.type #[v, u]).run P w = .ok v' w') (hK : K (a.put o.dst v') w') :
    if Region.wanted o (yielded ops a.tmps) = true then Oper.wp P o a w K Q else E := by
  rw [if_pos (by simp [Region.wanted, hg])]
  exact wp_copy_eq w d x dT sT hop v u hd hx hr hK

/-- A copy into a row, elements of several cells. -/
theorem run_copy_k (w : World) {dT sT ty e : TypeId} {g o dLen dCap : Nat} {a : Addr} {sLen sCap : Nat} {cur : Array Value} {t : TypeId} {cs : List Value} {i : TypeInfo}
    (hu : P.underlying dT = some (.slice e)) (hi : P.info? e = some i) (hg : w.heap[g]? = some (.cells cur t (0, 0))) (hn : cs.length = Nat.min sLen dLen * i.size)
    (hsrc : ∀ j v, cs[j]? = some v → w.cell? (a.add j) = some v) (hfit : o + cs.length ≤ cur.size) (h1 : ∀ v ∈ cs, v.oneCell' = true) :
    (Builtin.copy_ #[dT, sT] ty #[.slice (some ⟨g, o, none⟩) dLen dCap, .slice (some a) sLen sCap]).run P w =
      .ok (goInt (Nat.min sLen dLen)) (w.setRow g (cur.toList.take o ++ cs ++ cur.toList.drop (o + cs.length)).toArray) := by
  have hl := run_loadCells_list (P := P) w a cs hsrc
  have hst := run_storeCells_at P g o t cs 0 cur w hg (by simpa using hfit) h1
  simp [Builtin.copy_, run_underlying hu, Builtin.lenOf, Builtin.firstCells, sizeOf, typeInfo, hi, ← hn, hl, hst]

/-! ### A world in which only rows that were handed over have changed -/

structure Good (M : Mem) (w : World) (gs : List Nat) (W : World) : Prop where
  mem : MemOk M W
  kp : Kp w W (· ∈ gs)

theorem Good.refl (h : MemOk M w) (gs : List Nat) : Good M w gs w := ⟨h, Kp.refl _ _⟩

theorem Good.drew {gs : List Nat} {W : World} (h : Good M w gs W) : Good M w gs W.drew :=
  ⟨h.mem, h.kp.os, h.kp.tape, h.kp.output, h.kp.size, DrawLe.trans h.kp.drawn (DrawLe.succ _), h.kp.block⟩

theorem Good.alloc {gs : List Nat} {W : World} (h : Good M w gs W) (o : Obj) : Good M w gs (W.alloc o) :=
  ⟨fun b q v hv q' => by rw [World.cell?_alloc_lt _ _ _ (show (⟨b, q', none⟩ : Addr).block < _ from h.mem.lt hv)]; exact h.mem b q v hv q', h.kp.grown (World.grownBy_alloc W _ none) (DrawLe.refl _) (fun k hk => by cases hk)⟩

theorem Good.setRow {gs : List Nat} {W : World} (h : Good M w gs W) {g : Nat} {cur : Array Value} (hg : w.heap.size ≤ g ∨ g ∈ gs) (hM : ∀ o, M g o = none) : Good M w gs (W.setRow g cur) := by
  refine ⟨fun b o v hv o' => ?_, h.kp.grown (row := some g) ⟨rfl, rfl, rfl, by simp, fun k _ hk => setRow_other W g k _ (fun e => hk (by rw [e]))⟩ (DrawLe.refl _) (fun k hk => by cases hk; exact hg)⟩
  rw [cell_setRow_other]
  · exact h.mem b o v hv o'
  · intro eb
    have eb : b = g := eb
    subst eb
    rw [hM o] at hv
    cases hv

theorem mem_new (h : MemOk M w) {g : Nat} (hg : w.heap.size ≤ g) : ∀ o, M g o = none := fun o => by
  cases hm : M g o with
  | none => rfl
  | some v => exact absurd (h.lt hm) (Nat.not_lt.2 hg)

/-! ### Rows as lists of cells -/

/-- The cells of a list's elements, one behind the other. -/
structure Flat (M : Mem) (t : Ty) (xs : List (Dat t)) (X : List Value) : Prop where
  len : X.length = xs.length * t.sz
  one : ∀ u ∈ X, u.oneCell' = true
  row : ∀ (i : Nat) (x : Dat t), xs[i]? = some x → ∃ us, RepS M t x us ∧ ∀ (j : Nat) (u : Value), us[j]? = some u → X[i * t.sz + j]? = some u

theorem Flat.take {t : Ty} {xs : List (Dat t)} {X : List Value} (h : Flat M t xs X) (n : Nat) : Flat M t (xs.take n) (X.take (n * t.sz)) := by
  refine ⟨?_, fun u hu => h.one u (List.mem_of_mem_take hu), fun i x hx => ?_⟩
  · rw [List.length_take, List.length_take, h.len]
    rcases Nat.le_total n xs.length with q | q
    · rw [Nat.min_eq_left q, Nat.min_eq_left (Nat.mul_le_mul_right _ q)]
    · rw [Nat.min_eq_right q, Nat.min_eq_right (Nat.mul_le_mul_right _ q)]
  · rw [List.getElem?_take] at hx
    split at hx
    · rename_i hi
      obtain ⟨us, a, b⟩ := h.row i x hx
      refine ⟨us, a, fun j u hu => ?_⟩
      have hj : j < t.sz := by rw [← a.len]; exact (List.getElem?_eq_some_iff.1 hu).1
      have : (i + 1) * t.sz ≤ n * t.sz := Nat.mul_le_mul_right _ hi
      rw [Nat.add_mul, Nat.one_mul] at this
      rw [List.getElem?_take, if_pos (by omega)]
      exact b j u hu
    · cases hx

theorem Flat.drop {t : Ty} {xs : List (Dat t)} {X : List Value} (h : Flat M t xs X) (n : Nat) : Flat M t (xs.drop n) (X.drop (n * t.sz)) := by
  refine ⟨?_, fun u hu => h.one u (List.mem_of_mem_drop hu), fun i x hx => ?_⟩
  · rw [List.length_drop, List.length_drop, h.len, Nat.sub_mul]
  · rw [List.getElem?_drop] at hx
    obtain ⟨us, a, b⟩ := h.row (n + i) x hx
    refine ⟨us, a, fun j u hu => ?_⟩
    rw [List.getElem?_drop, show n * t.sz + (i * t.sz + j) = (n + i) * t.sz + j by rw [Nat.add_mul]; omega]
    exact b j u hu

theorem Flat.append {t : Ty} {xs ys : List (Dat t)} {X Y : List Value} (h : Flat M t xs X) (g : Flat M t ys Y) : Flat M t (xs ++ ys) (X ++ Y) := by
  refine ⟨?_, fun u hu => ?_, fun i x hx => ?_⟩
  · rw [List.length_append, List.length_append, h.len, g.len, Nat.add_mul]
  · rcases List.mem_append.1 hu with hu | hu
    · exact h.one u hu
    · exact g.one u hu
  · have := RowIn.join (M := M) (t := t) h.len h.row g.row (cur := (X ++ Y).toArray) (rest := []) (by simp) i x hx
    obtain ⟨us, a, b⟩ := this
    exact ⟨us, a, fun j u hu => by have := b j u hu; simpa using this⟩

theorem Flat.rowIn {t : Ty} {xs : List (Dat t)} {X : List Value} (h : Flat M t xs X) {rest : List Value} {cur : Array Value} (hc : cur.toList = X ++ rest) : RowIn M t xs cur := by
  have := RowIn.join (M := M) (t := t) (ys := []) (news := []) (rest := rest) h.len h.row (by simp) (cur := cur) (by simpa using hc)
  simpa using this

/-- The cells of a row that is handed over. -/
theorem flat_of_row {g : Nat} {cur : Array Value} {e : TypeId} {t : Ty} {xs : List (Dat t)} {c : Nat} (hg : w.heap[g]? = some (.cells cur e (0, 0))) (hr : RowIn M t xs cur) (hl : xs.length ≤ c) (hs : cur.size = c * t.sz) :
    ∃ X, Flat M t xs X ∧ cur.toList = X ++ cur.toList.drop (xs.length * t.sz) ∧ ∀ j u, X[j]? = some u → w.cell? ⟨g, j, none⟩ = some u := by
  obtain ⟨X, n1, n2, n3, n4⟩ := flat_rows (M := M) (w := w) (b := g) xs 0 (fun i x hx => by
    obtain ⟨us, a, b⟩ := hr i x hx
    exact ⟨us, a, fun j u hu => by rw [cell_of_row w g _ cur e (0, 0) hg, Nat.zero_add]; exact b j u hu⟩)
  have hcell : ∀ j u, X[j]? = some u → w.cell? ⟨g, j, none⟩ = some u := fun j u hu => by have := n2 j u hu; rwa [Nat.zero_add] at this
  refine ⟨X, ⟨n1, n3, n4⟩, ?_, hcell⟩
  have hcl : cur.toList.length = c * t.sz := by rw [← hs]; exact Array.length_toList
  have hle : xs.length * t.sz ≤ c * t.sz := Nat.mul_le_mul_right _ hl
  have : X = cur.toList.take (xs.length * t.sz) := by
    apply List.ext_getElem?
    intro j
    rw [List.getElem?_take]
    by_cases hj : j < xs.length * t.sz
    · rw [if_pos hj, List.getElem?_eq_getElem (by rw [n1]; exact hj)]
      have := hcell j _ (List.getElem?_eq_getElem (by rw [n1]; exact hj))
      rw [cell_of_row w g _ cur e (0, 0) hg] at this
      rw [Array.getElem?_toList]
      exact this.symm
    · rw [if_neg hj, List.getElem?_eq_none_iff.2 (by rw [n1]; omega)]
  rw [this, List.take_append_drop]

/-! ### slices.Insert -/

/-- What a walk of the code shows: S, I: the types []e and int; O: slices.overlaps; k: an element's cells. -/
structure InsWalks (P : Program) (f O : FuncId) (S T I : TypeId) (k : Nat) : Prop where
  enter : ∀ args w, (callFunc f args).run P w = .ok (.enter f args) w
  ends : ∀ {A : Option Addr} {n c m c2 g2 : Nat} {w W : World} {r : Value}, 0 < m → (∀ ty, (Builtin.append_ #[S, T] ty #[.slice A n c, .slice (some ⟨g2, 0, none⟩) m c2]).run P w = .ok r W) →
    Calls P f #[.slice A n c, .int .i64 n, .slice (some ⟨g2, 0, none⟩) m c2] w fun e w' => e = .returned r ∧ w' = W
  grow : ∀ {g h i n c m c2 g2 G : Nat} {w W1 W2 W3 : World} {r1 r2 : Value}, 0 < m → i < n → n ≤ c → c < n + m → n + m ≤ G → G ≤ 9223372036854775807 →
    (∀ ty, (Builtin.append_ #[S, I] ty #[.slice (some ⟨g, 0, none⟩) i c, .int .i64 ((n : Int) + (m : Int) - (i : Int))]).run P w = .ok (.slice (some ⟨h, 0, none⟩) (n + m) G) W1) →
    (∀ ty dc, (Builtin.copy_ #[S, T] ty #[.slice (some ⟨h, i * k, none⟩) (n + m - i) dc, .slice (some ⟨g2, 0, none⟩) m c2]).run P W1 = .ok r1 W2) →
    (∀ ty dc sc, (Builtin.copy_ #[S, S] ty #[.slice (some ⟨h, (i + m) * k, none⟩) (n + m - (i + m)) dc, .slice (some ⟨g, i * k, none⟩) (n - i) sc]).run P W2.drew = .ok r2 W3) →
    Calls P f #[.slice (some ⟨g, 0, none⟩) n c, .int .i64 i, .slice (some ⟨g2, 0, none⟩) m c2] w fun e w' => e = .returned (.slice (some ⟨h, 0, none⟩) (n + m) G) ∧ w' = W3
  shift : ∀ {g i n c m c2 g2 : Nat} {w W1 W2 : World} {r1 r2 : Value}, 0 < m → i < n → n + m ≤ c → c ≤ 9223372036854775807 →
    (∀ lb cb, (callFunc O #[.slice (some ⟨g2, 0, none⟩) m c2, .slice (some ⟨g, (i + m) * k, none⟩) lb cb]).run P w = .ok (.value (.bool false)) w) →
    (∀ ty dc sc, (Builtin.copy_ #[S, S] ty #[.slice (some ⟨g, (i + m) * k, none⟩) (n + m - (i + m)) dc, .slice (some ⟨g, i * k, none⟩) (n + m - i) sc]).run P w.drew = .ok r1 W1) →
    (∀ ty dc, (Builtin.copy_ #[S, T] ty #[.slice (some ⟨g, i * k, none⟩) (n + m - i) dc, .slice (some ⟨g2, 0, none⟩) m c2]).run P W1 = .ok r2 W2) →
    Calls P f #[.slice (some ⟨g, 0, none⟩) n c, .int .i64 i, .slice (some ⟨g2, 0, none⟩) m c2] w fun e w' => e = .returned (.slice (some ⟨g, 0, none⟩) (n + m) c) ∧ w' = W2

/-- slices.Insert as a function of lists. -/
def insF {α : Type} (bytes : Nat) (xs : List α) (i : Int) (vs : List α) : Option (List α) :=
  bif decide (0 ≤ i) && decide (i ≤ xs.length) && Nat.ble 1 vs.length && Nat.ble ((xs.length + vs.length) * bytes) 140737488355328 then some (xs.take i.toNat ++ vs ++ xs.drop i.toNat) else none

def insCal (f : FuncId) (e : TypeId) (t : Ty) (bytes : Nat) : Cal := ⟨f, [.mv e t, .ro false (.int .i64), .mv e t], [⟨false, .slice t, [e]⟩], fun x => insF bytes x.1 x.2.1 x.2.2⟩

theorem ins_ret {gs : List Nat} {W : World} {e : TypeId} {t : Ty} {ys : List (Dat t)} {v : Value} {g c : Nat} {cur : Array Value} (hgd : Good M w gs W) (hg : w.heap.size ≤ g ∨ g ∈ gs) (hM : ∀ o, M g o = none) (hpos : 0 < t.sz) (hv : v = .slice (some ⟨g, 0, none⟩) ys.length c)
    (hh : W.heap[g]? = some (.cells cur e (0, 0))) (h1 : ys.length ≤ c) (h2 : c ≤ maxLen) (h3 : cur.size = c * t.sz) (h4 : RowIn M t ys cur) : RetOk M w gs M W [⟨false, .slice t, [e]⟩] ys v :=
  ⟨Mem.le_refl _, hgd.mem, hgd.kp, fun _ _ _ h => .inl h, [v], [g], rfl, by simp, v, rfl, [v], rfl, fun _ => rfl, e, v, rfl, rfl, _, c, hv, .inr ⟨g, cur, rfl, rfl, hg, hM, hpos, hh, h1, h2, h3, h4⟩⟩

theorem setRow_size (W : World) (g : Nat) (cur : Array Value) : (W.setRow g cur).heap.size = W.heap.size := by simp

theorem append_ty {P : Program} {S T e ty : TypeId} (hS : P.underlying S = some (.slice e)) (hT : P.underlying T = some (.slice e)) (base : Option Addr) (n c : Nat) (b : Value) (w : World) :
    (Builtin.append_ #[S, T] ty #[.slice base n c, b]).run P w = (Builtin.append_ #[S, S] ty #[.slice base n c, b]).run P w := by
  simp [Builtin.append_, Sem.run_bind, run_underlying hS, run_underlying hT]

theorem ins_ok {gt : List (Nat × List AV)} {f O : FuncId} {S T I B e : TypeId} {t : Ty} {bytes : Nat} {kn : IntKind} (hw : InsWalks P f O S T I t.sz) (hS : tyElem P S = some e) (hT : tyElem P T = some e) (hI : P.underlying I = some (.int kn)) (he : elemIs P e t bytes = true)
    (hO : ∀ args w, (callFunc O args).run P w = ((Extern.SlicesOverlaps.overlaps #[T, T] #[B] args).run P w).andThen fun v w' => .ok (.value v) w') : CalOk P gt (insCal f e t bytes) := by
  refine ⟨hw.enter, fun M w (x : List (Dat t) × Int × List (Dat t)) vs0 gs (r : List (Dat t)) hm _ hargs hnd hF => ?_⟩
  obtain ⟨xs, iv, vs⟩ := x
  change insF bytes xs iv vs = some r at hF
  obtain ⟨sv, l1, g1, gr, rfl, rfl, hs, l2, l3, g4, g5, rfl, rfl, hi, vv, rfl, hv⟩ := hargs
  obtain ⟨rfl, us, rfl, _, hi⟩ := hi
  have hi : us = [.int .i64 iv] := hi
  subst hi
  change RowV M w (fun _ => True) e t xs sv g1 at hs
  change RowV M w (fun _ => True) e t vs vv g5 at hv
  unfold insF at hF
  cases hc : (decide (0 ≤ iv) && decide (iv ≤ (xs.length : Int)) && Nat.ble 1 vs.length && Nat.ble ((xs.length + vs.length) * bytes) 140737488355328) with
  | false => rw [hc] at hF; cases hF
  | true =>
    rw [hc] at hF
    simp only [cond_true, Option.some.injEq] at hF
    simp only [Bool.and_eq_true, decide_eq_true_eq] at hc
    obtain ⟨⟨⟨hi0, hi1⟩, hm1⟩, hlim⟩ := hc
    have hm0 : 0 < vs.length := Nat.le_of_ble_eq_true hm1
    have hlim := Nat.le_of_ble_eq_true hlim
    obtain ⟨i, rfl⟩ : ∃ i : Nat, iv = i := ⟨iv.toNat, by omega⟩
    rw [Int.toNat_natCast] at hF
    subst hF
    have hin : i ≤ xs.length := by omega
    obtain ⟨ti, z, hti, hsz, hby, hpos, hb0, hz, hzl, hzs⟩ := elem_run he
    have hu := elem_ty hS
    have huT := elem_ty hT
    have hsz' : tySz P e = some t.sz := by simp [tySz, hti, hsz]
    have hneed : xs.length + vs.length ≤ 140737488355328 := Nat.le_trans (Nat.le_mul_of_pos_right _ hb0) hlim
    have hylen : (xs.take i ++ vs ++ xs.drop i).length = xs.length + vs.length := by simp; omega
    -- the values
    obtain ⟨A2, c2, rfl, hv⟩ := hv
    rcases hv with ⟨_, hv0, _⟩ | ⟨g2, cur2, rfl, rfl, _, hM2, _, hg2, hv1, hv2, hv3, hv4⟩
    · rw [hv0] at hm0; simp at hm0
    obtain ⟨V, hV, hVc, hVm⟩ := flat_of_row hg2 hv4 hv1 hv3
    have hbig : maxLen = 9223372036854775807 := rfl
    -- the row
    obtain ⟨A, c, rfl, hs⟩ := hs
    show Calls P f #[.slice A xs.length c, .int .i64 i, .slice (some ⟨g2, 0, none⟩) vs.length c2] w fun e' w' => ∃ v M', e' = .returned v ∧ RetOk M w (g1 ++ ([] ++ [g2])) M' w' [⟨false, .slice t, [e]⟩] (xs.take i ++ vs ++ xs.drop i) v
    have hsrc : Go.Src P ti.size S (.slice (some ⟨g2, 0, none⟩) vs.length c2) vs.length V w := Go.Src.ofSlice w hu ⟨g2, 0, none⟩ vs.length c2 V (by rw [hsz]; exact hV.len) (fun j u hj => by rw [addr_add, Nat.zero_add]; exact hVm j u hj) hV.one
    -- a new row at the end
    have newEnd : ∀ {X : List Value}, i = xs.length → Flat M t xs X → c < xs.length + vs.length → (Builtin.firstCells ti.size xs.length (.slice A xs.length c)).run P w.drew = .ok X.toArray w.drew → xs.length ≤ c →
        Calls P f #[.slice A xs.length c, .int .i64 i, .slice (some ⟨g2, 0, none⟩) vs.length c2] w fun e' w' => ∃ v M', e' = .returned v ∧ RetOk M w (g1 ++ ([] ++ [g2])) M' w' [⟨false, .slice t, [e]⟩] (xs.take i ++ vs ++ xs.drop i) v := by
      intro X hin' hX hlt hfc hnc
      subst hin'
      have hr := fun ty => run_append_grow_src (P := P) w S S ty e ti z hu hti hz A xs.length c X hfc _ _ V hsrc hlt (by omega) (growslice_fits hlt (by rw [hby]; exact hlim))
      have hge := grownCap_ge w (xs.length + vs.length) c e
      have hle := grownCap_le_maxLen w (xs.length + vs.length) c e (by rw [hbig]; omega)
      have hcall := hw.ends hm0 (fun ty => (append_ty hu huT _ _ _ _ _).trans (hr ty))
      refine hcall.mono fun e' w' h => ?_
      obtain ⟨rfl, rfl⟩ := h
      have hys : xs.take xs.length ++ vs ++ xs.drop xs.length = xs ++ vs := by rw [List.take_length, List.drop_length, List.append_nil]
      rw [hys]
      refine ⟨_, M, rfl, ins_ret ((Good.refl hm _).drew.alloc _) (.inl (Nat.le_refl _)) (mem_new hm (Nat.le_refl _)) hpos (c := grownCap w (xs.length + vs.length) c e) (by rw [List.length_append]) (heap_alloc_new w.drew _) (by rw [List.length_append]; exact hge) hle ?_ ((hX.append hV).rowIn (rest := (Builtin.zeroCells z.cells (grownCap w (xs.length + vs.length) c e - (xs.length + vs.length))).toList) (by simp))⟩
      rw [Array.size_append, size_zeroCells, hzs, List.size_toArray, List.length_append, hX.len, hV.len, ← Nat.add_mul, ← Nat.add_mul]
      congr 1
      omega
    rcases hs with ⟨rfl, rfl, rfl⟩ | ⟨g, cur, rfl, rfl, _, hM1, _, hg, h1, h2, h3, h4⟩
    · -- an empty row without a block
      have hi00 : i = 0 := by simpa using hin
      refine newEnd (X := []) (by simpa using hi00) ⟨by simp, by simp, by simp⟩ (by simpa using hm0) ?_ (Nat.le_refl _)
      cases A <;> simp [Builtin.firstCells, loadCells, loadCellsFrom]
    · obtain ⟨X, hX, hXc, hXm⟩ := flat_of_row hg h4 h1 h3
      have hcl : cur.toList.length = c * t.sz := by rw [← h3]; exact Array.length_toList
      have hXl : X.length = xs.length * t.sz := hX.len
      have hdis : g ≠ g2 := by
        intro e0
        subst e0
        simp at hnd
      have hgs : g ∈ [g] ++ ([] ++ [g2]) := by simp
      have hglt : g < w.heap.size := (Array.getElem?_eq_some_iff.1 hg).1
      have hg2lt : g2 < w.heap.size := (Array.getElem?_eq_some_iff.1 hg2).1
      by_cases hend : i = xs.length
      · subst hend
        by_cases hroom : xs.length + vs.length ≤ c
        · have hfit : xs.length * ti.size + V.length ≤ cur.size := by
            rw [hsz, hV.len, h3, ← Nat.add_mul]
            exact Nat.mul_le_mul_right _ hroom
          have hr := fun ty => run_append_room (P := P) w S ty e ti hu hti g xs.length c cur hg ⟨g2, 0, none⟩ vs.length c2 V (by rw [hsz]; exact hV.len) (fun j u hj => by rw [addr_add, Nat.zero_add]; exact hVm j u hj) hV.one hroom hfit
          have hcall := hw.ends hm0 (fun ty => (append_ty hu huT _ _ _ _ _).trans (hr ty))
          rw [hsz] at hcall hfit
          refine hcall.mono fun e' w' h => ?_
          obtain ⟨rfl, rfl⟩ := h
          have hys : xs.take xs.length ++ vs ++ xs.drop xs.length = xs ++ vs := by rw [List.take_length, List.drop_length, List.append_nil]
          rw [hys]
          obtain ⟨s1, _, _⟩ := splice_cur (cur := cur) (o := xs.length * t.sz) (us := V) hfit
          refine ⟨_, M, rfl, ins_ret ((Good.refl hm _).setRow (.inr hgs) hM1) (.inr hgs) hM1 hpos (c := c) (by rw [List.length_append]) (setRow_heap w g cur _ e (0, 0) hg) (by rw [List.length_append]; exact hroom) h2 (by rw [s1, h3]) ((hX.append hV).rowIn (rest := cur.toList.drop (xs.length * t.sz + V.length)) ?_)⟩
          have hX2 : cur.toList.take (xs.length * t.sz) = X := by rw [hXc, List.take_append_of_le_length (by omega), ← hXl, List.take_length]
          simp only [hX2]
        · refine newEnd rfl hX (by omega) ?_ h1
          exact run_firstCells_some (P := P) w.drew ti.size xs.length ⟨g, 0, none⟩ xs.length c X (by rw [hXl, hsz]) (fun j v hj => by rw [addr_add, Nat.zero_add]; exact hXm j v hj)
      · have hilt : i < xs.length := by omega
        have hik : i * t.sz ≤ xs.length * t.sz := Nat.mul_le_mul_right _ hin
        have hdl : (X.drop (i * t.sz)).length = (xs.length - i) * t.sz := by rw [List.length_drop, hXl, Nat.sub_mul]
        have htl : (X.take (i * t.sz)).length = i * t.sz := by rw [List.length_take, hXl]; exact Nat.min_eq_left hik
        have hone : ∀ v ∈ X.drop (i * t.sz), v.oneCell' = true := fun v hv => hX.one v (List.mem_of_mem_drop hv)
        have himn : (i + vs.length) * t.sz + (xs.length - i) * t.sz = (xs.length + vs.length) * t.sz := by rw [← Nat.add_mul]; congr 1; omega
        have him : (i + vs.length) * t.sz = i * t.sz + V.length := by rw [hV.len, Nat.add_mul]
        have hflat := ((hX.take i).append hV).append (hX.drop i)
        have hres : ∀ {W : World} {h G : Nat} {cur' : Array Value} {rest : List Value}, Good M w ([g] ++ ([] ++ [g2])) W → (w.heap.size ≤ h ∨ h ∈ [g] ++ ([] ++ [g2])) → (∀ o, M h o = none) → W.heap[h]? = some (.cells cur' e (0, 0)) → xs.length + vs.length ≤ G → G ≤ maxLen → cur'.size = G * t.sz →
            cur'.toList = X.take (i * t.sz) ++ V ++ X.drop (i * t.sz) ++ rest → ∃ v M', Ending.returned (.slice (some ⟨h, 0, none⟩) (xs.length + vs.length) G) = .returned v ∧ RetOk M w ([g] ++ ([] ++ [g2])) M' W [⟨false, .slice t, [e]⟩] (xs.take i ++ vs ++ xs.drop i) v :=
          fun hgd hh hMh hW hG1 hG2 hsize hl => ⟨_, M, rfl, ins_ret hgd hh hMh hpos (by rw [hylen]) hW (by rw [hylen]; exact hG1) hG2 hsize (hflat.rowIn hl)⟩
        by_cases hroom : xs.length + vs.length ≤ c
        · -- in its place
          have hk1 : (xs.length + vs.length) * t.sz ≤ c * t.sz := Nat.mul_le_mul_right _ hroom
          have hov : ∀ lb cb, (callFunc O #[.slice (some ⟨g2, 0, none⟩) vs.length c2, .slice (some ⟨g, (i + vs.length) * t.sz, none⟩) lb cb]).run P w = .ok (.value (.bool false)) w := fun lb cb => by
            rw [hO, Lib.run_overlaps_apart w T B e huT t.sz (fun w => run_sz hsz' w) ⟨g2, 0, none⟩ ⟨g, (i + vs.length) * t.sz, none⟩ vs.length c2 lb cb (Ne.symm hdis) e e cur2.size cur.size (by simp [World.shape?, hg2]) (by simp [World.shape?, hg]) (by rw [h3]; have := Nat.mul_le_mul_right t.sz hroom; have : 0 < (xs.length + vs.length) * t.sz := Nat.mul_pos (by omega) hpos; omega) (by simp [World.frozen?, hg2]) (by simp [World.frozen?, hg2])]
            rfl
          have hmin1 : Nat.min (xs.length + vs.length - i) (xs.length + vs.length - (i + vs.length)) = xs.length - i := by simp only [Nat.min_def]; split <;> omega
          have hmin2 : Nat.min vs.length (xs.length + vs.length - i) = vs.length := by simp only [Nat.min_def]; split <;> omega
          have hc1 := fun ty dc sc => run_copy_k (P := P) w.drew (dT := S) (sT := S) (ty := ty) (dCap := dc) (sCap := sc) (o := (i + vs.length) * t.sz) (a := ⟨g, i * t.sz, none⟩) (sLen := xs.length + vs.length - i) (dLen := xs.length + vs.length - (i + vs.length)) (cs := X.drop (i * t.sz)) hu hti hg (by rw [hmin1, hdl, hsz])
            (fun j v hj => by rw [addr_add]; exact hXm _ v (by rwa [List.getElem?_drop] at hj)) (by rw [hdl, himn, h3]; exact hk1) hone
          have hg' := setRow_heap w.drew g cur (cur.toList.take ((i + vs.length) * t.sz) ++ X.drop (i * t.sz) ++ cur.toList.drop ((i + vs.length) * t.sz + (X.drop (i * t.sz)).length)).toArray e (0, 0) hg
          obtain ⟨s1, _, _⟩ := splice_cur (cur := cur) (o := (i + vs.length) * t.sz) (us := X.drop (i * t.sz)) (by rw [hdl, himn, h3]; exact hk1)
          have hc2 := fun ty dc => run_copy_k (P := P) (w.drew.setRow g (cur.toList.take ((i + vs.length) * t.sz) ++ X.drop (i * t.sz) ++ cur.toList.drop ((i + vs.length) * t.sz + (X.drop (i * t.sz)).length)).toArray) (dT := S) (sT := T) (ty := ty) (dCap := dc) (sCap := c2) (o := i * t.sz) (a := ⟨g2, 0, none⟩) (sLen := vs.length) (dLen := xs.length + vs.length - i) (cs := V) hu hti hg' (by rw [hmin2, hV.len, hsz])
            (fun j v hj => by rw [addr_add, Nat.zero_add, cell_setRow_other _ _ _ _ (Ne.symm hdis)]; exact hVm j v hj) (by rw [s1, h3, ← him]; have : (i + vs.length) * t.sz ≤ (xs.length + vs.length) * t.sz := Nat.mul_le_mul_right _ (by omega); omega) hV.one
          refine (hw.shift hm0 hilt hroom (by rw [hbig] at h2; exact h2) hov hc1 hc2).mono fun e' w' h => ?_
          obtain ⟨rfl, rfl⟩ := h
          obtain ⟨s2, _, _⟩ := splice_cur (cur := (cur.toList.take ((i + vs.length) * t.sz) ++ X.drop (i * t.sz) ++ cur.toList.drop ((i + vs.length) * t.sz + (X.drop (i * t.sz)).length)).toArray) (o := i * t.sz) (us := V) (by rw [s1, h3, ← him]; have : (i + vs.length) * t.sz ≤ (xs.length + vs.length) * t.sz := Nat.mul_le_mul_right _ (by omega); omega)
          refine hres (((Good.refl hm _).drew.setRow (.inr hgs) hM1).setRow (.inr hgs) hM1) (.inr hgs) hM1 (setRow_heap _ g _ _ e (0, 0) hg') hroom h2 (by rw [s2, s1, h3]) (rest := cur.toList.drop ((i + vs.length) * t.sz + (X.drop (i * t.sz)).length)) ?_
          have ht1 : (cur.toList.take ((i + vs.length) * t.sz)).length = (i + vs.length) * t.sz := by
            rw [List.length_take, hcl]; exact Nat.min_eq_left (Nat.mul_le_mul_right _ (by omega))
          have hd1 : (cur.toList.take ((i + vs.length) * t.sz) ++ X.drop (i * t.sz) ++ cur.toList.drop ((i + vs.length) * t.sz + (X.drop (i * t.sz)).length)).drop (i * t.sz + V.length) = X.drop (i * t.sz) ++ cur.toList.drop ((i + vs.length) * t.sz + (X.drop (i * t.sz)).length) := by
            rw [← him, List.append_assoc, List.drop_append_of_le_length (by rw [ht1]; exact Nat.le_refl _), List.drop_eq_nil_of_le (by rw [ht1]; exact Nat.le_refl _), List.nil_append]
          have hd2 : (cur.toList.take ((i + vs.length) * t.sz) ++ X.drop (i * t.sz) ++ cur.toList.drop ((i + vs.length) * t.sz + (X.drop (i * t.sz)).length)).take (i * t.sz) = X.take (i * t.sz) := by
            rw [List.append_assoc, List.take_append_of_le_length (by rw [ht1]; exact Nat.mul_le_mul_right _ (by omega)), List.take_take, Nat.min_eq_left (Nat.mul_le_mul_right _ (by omega)), hXc, List.take_append_of_le_length (by omega)]
          show List.take (i * t.sz) (cur.toList.take ((i + vs.length) * t.sz) ++ X.drop (i * t.sz) ++ cur.toList.drop ((i + vs.length) * t.sz + (X.drop (i * t.sz)).length)) ++ V ++ List.drop (i * t.sz + V.length) (cur.toList.take ((i + vs.length) * t.sz) ++ X.drop (i * t.sz) ++ cur.toList.drop ((i + vs.length) * t.sz + (X.drop (i * t.sz)).length)) = _
          rw [hd1, hd2]
          simp only [List.append_assoc]
        · -- a new row
          have hlt : c < xs.length + vs.length := by omega
          have hge := grownCap_ge w (xs.length + vs.length) c e
          have hle := grownCap_le_maxLen w (xs.length + vs.length) c e (by rw [hbig]; omega)
          have hold : (Builtin.firstCells ti.size i (.slice (some ⟨g, 0, none⟩) i c)).run P w.drew = .ok (X.take (i * t.sz)).toArray w.drew :=
            run_firstCells_some (P := P) w.drew ti.size i ⟨g, 0, none⟩ i c _ (by rw [htl, hsz]) (fun j v hj => by
              rw [addr_add, Nat.zero_add]
              rw [List.getElem?_take] at hj
              split at hj
              · exact hXm j v hj
              · cases hj)
          have hz0 := fun ty => Lib.run_append_grow_zeros w S I ty e ti z .i64 kn hu hI hti hz (some ⟨g, 0, none⟩) i c _ hold (xs.length + vs.length - i) (by omega) (by omega) (by omega) (by omega) (by rw [hby]; have := Nat.mul_le_mul_right bytes (show xs.length + vs.length - i ≤ xs.length + vs.length by omega); omega) (by rw [hby, show i + (xs.length + vs.length - i) = xs.length + vs.length by omega]; exact growslice_fits hlt hlim)
          rw [show i + (xs.length + vs.length - i) = xs.length + vs.length by omega, show ((xs.length + vs.length - i : Nat) : Int) = (xs.length : Int) + (vs.length : Int) - (i : Int) by omega] at hz0
          generalize hG : grownCap w (xs.length + vs.length) c e = G at *
          have hsz1 : ((X.take (i * t.sz)).toArray ++ Builtin.zeroCells z.cells (xs.length + vs.length - i) ++ Builtin.zeroCells z.cells (G - (xs.length + vs.length))).size = G * t.sz := by
            rw [Array.size_append, Array.size_append, size_zeroCells, size_zeroCells, hzs, List.size_toArray, htl, ← Nat.add_mul, ← Nat.add_mul]
            congr 1
            omega
          have htk : ((X.take (i * t.sz)).toArray ++ Builtin.zeroCells z.cells (xs.length + vs.length - i) ++ Builtin.zeroCells z.cells (G - (xs.length + vs.length))).toList.take (i * t.sz) = X.take (i * t.sz) := by
            simp only [Array.toList_append, List.append_assoc]
            rw [List.take_append_of_le_length (by rw [htl]; exact Nat.le_refl _), List.take_of_length_le (by rw [htl]; exact Nat.le_refl _)]
          generalize hC1 : (X.take (i * t.sz)).toArray ++ Builtin.zeroCells z.cells (xs.length + vs.length - i) ++ Builtin.zeroCells z.cells (G - (xs.length + vs.length)) = C1 at *
          have hh1 : (w.drew.alloc (.cells C1 e)).heap[w.heap.size]? = some (.cells C1 e (0, 0)) := heap_alloc_new w.drew _
          have hkG : (xs.length + vs.length) * t.sz ≤ G * t.sz := Nat.mul_le_mul_right _ hge
          have hkI : (i + vs.length) * t.sz ≤ (xs.length + vs.length) * t.sz := Nat.mul_le_mul_right _ (by omega)
          have hmin1 : Nat.min vs.length (xs.length + vs.length - i) = vs.length := by simp only [Nat.min_def]; split <;> omega
          have hmin2 : Nat.min (xs.length - i) (xs.length + vs.length - (i + vs.length)) = xs.length - i := by simp only [Nat.min_def]; split <;> omega
          have hc1 := fun ty dc => run_copy_k (P := P) (w.drew.alloc (.cells C1 e)) (dT := S) (sT := T) (ty := ty) (dCap := dc) (sCap := c2) (o := i * t.sz) (a := ⟨g2, 0, none⟩) (sLen := vs.length) (dLen := xs.length + vs.length - i) (cs := V) hu hti hh1 (by rw [hmin1, hV.len, hsz])
            (fun j v hj => by rw [addr_add, Nat.zero_add, World.cell?_alloc_lt _ _ _ hg2lt]; exact hVm j v hj) (by rw [hsz1, ← him]; omega) hV.one
          obtain ⟨s1, _, _⟩ := splice_cur (cur := C1) (o := i * t.sz) (us := V) (by rw [hsz1, ← him]; omega)
          rw [htk] at hc1 s1
          generalize hC2 : (X.take (i * t.sz) ++ V ++ C1.toList.drop (i * t.sz + V.length)).toArray = C2 at *
          have hh2 := setRow_heap (w.drew.alloc (.cells C1 e)) w.heap.size C1 C2 e (0, 0) hh1
          have hc2 := fun ty dc sc => run_copy_k (P := P) ((w.drew.alloc (.cells C1 e)).setRow w.heap.size C2).drew (dT := S) (sT := S) (ty := ty) (dCap := dc) (sCap := sc) (o := (i + vs.length) * t.sz) (a := ⟨g, i * t.sz, none⟩) (sLen := xs.length - i) (dLen := xs.length + vs.length - (i + vs.length)) (cs := X.drop (i * t.sz)) hu hti hh2 (by rw [hmin2, hdl, hsz])
            (fun j v hj => by
              show ((w.drew.alloc (.cells C1 e)).setRow w.heap.size C2).cell? _ = _
              rw [addr_add, cell_setRow_other _ _ _ _ (by show g ≠ w.heap.size; omega), World.cell?_alloc_lt _ _ _ hglt]
              exact hXm _ v (by rwa [List.getElem?_drop] at hj)) (by rw [s1, hsz1, hdl, himn]; exact hkG) hone
          refine (hw.grow hm0 hilt h1 hlt hge (by rw [hbig] at hle; exact hle) hz0 hc1 hc2).mono fun e' w' h => ?_
          obtain ⟨rfl, rfl⟩ := h
          obtain ⟨s2, _, _⟩ := splice_cur (cur := C2) (o := (i + vs.length) * t.sz) (us := X.drop (i * t.sz)) (by rw [s1, hsz1, hdl, himn]; exact hkG)
          have hnew := mem_new hm (Nat.le_refl w.heap.size)
          refine hres (((((Good.refl hm _).drew.alloc _).setRow (.inl (Nat.le_refl _)) hnew).drew).setRow (.inl (Nat.le_refl _)) hnew) (.inl (Nat.le_refl _)) hnew (setRow_heap _ w.heap.size C2 _ e (0, 0) hh2) hge hle (by rw [s2, s1, hsz1]) (rest := C2.toList.drop ((i + vs.length) * t.sz + (X.drop (i * t.sz)).length)) ?_
          have : C2.toList.take ((i + vs.length) * t.sz) = X.take (i * t.sz) ++ V := by
            rw [← hC2]
            simp only
            rw [List.take_append_of_le_length (by rw [List.length_append, htl, him]; exact Nat.le_refl _), List.take_of_length_le (by rw [List.length_append, htl, him]; exact Nat.le_refl _)]
          simp only [this, List.append_assoc]

end
end Go.R

/- The root of a whole number: a hand contract. -/
namespace Go.R
/-- The contract of a function whose walk is told. -/
theorem root_ok {P : Program} {gt : List (Nat × List AV)} {f : FuncId} (hent : ∀ args w, (callFunc f args).run P w = .ok (.enter f args) w)
    (hw : ∀ (n : Int) (w : World), n < 70368744177664 → Calls P f #[.int .i64 n] w fun e w' => ∃ r, rootF n = some r ∧ e = .returned (.int .i64 r) ∧ w' = w) :
    CalOk P gt ⟨f, [.ro false (.int .i64)], [⟨false, .int .i64, []⟩], fun x => rootF x⟩ := by
  refine ⟨hent, fun M w x vs gs r hM _ hA _ hF => ?_⟩
  obtain ⟨v, rfl, rfl, us, rfl, h1, hr⟩ := hA
  simp only [RepS] at hr
  subst hr
  have hx : (x : Int) < 70368744177664 := by
    rcases Int.lt_or_le x 70368744177664 with g | g
    · exact g
    · have : rootF x = none := by
        unfold rootF
        rw [decide_eq_false (by omega), decide_eq_false (by omega)]
        rfl
      change rootF x = some r at hF
      rw [this] at hF
      cases hF
  refine Calls.mono (hw x w hx) ?_
  rintro e w' ⟨r', hr', rfl, rfl⟩
  change rootF x = some r at hF
  rw [hr'] at hF
  cases hF
  exact ⟨_, M, rfl, ⟨Mem.le_refl _, hM, Kp.refl _ _, fun _ _ _ h => .inl h, [.int .i64 r], [], rfl, List.nodup_nil, _, rfl, [.int .i64 r], rfl, fun _ => rfl, rfl, rfl, rfl⟩⟩

theorem memOk_alloc {M : Mem} {w : World} (h : MemOk M w) (o : Obj) : MemOk M (w.alloc o) := fun b i v hm => by
  have hlt := h.lt hm
  have e := Go.RowKit.Below.heap_alloc w o b hlt
  have h1 := h b i v hm
  unfold World.cell? at h1 ⊢
  dsimp only at h1 ⊢
  rw [e]
  exact h1

/-- The contract of the angle of a vector: it is told of the vector that has none alone. -/
theorem of_ok {P : Program} {gt : List (Nat × List AV)} {f : FuncId} (hent : ∀ args w, (callFunc f args).run P w = .ok (.enter f args) w)
    (hw : ∀ w : World, Calls P f #[.agg #[.int .i64 0, .int .i64 0]] w fun e w' => e = .returned (.tuple #[.int .i64 0, .int .i64 10]) ∧ ∃ o, w' = w.alloc o) :
    CalOk P gt ⟨f, [.ro true (.pair (.int .i64) (.int .i64))], [⟨false, .int .i64, []⟩, ⟨false, .int .i64, []⟩], fun x => bif x.1 == 0 && x.2 == 0 then some (0, 10) else none⟩ := by
  refine ⟨hent, fun M w x vs gs r hM _ hA _ hF => ?_⟩
  obtain ⟨v, rfl, rfl, us, rfl, _, hr⟩ := hA
  simp only [RepS] at hr
  obtain ⟨v1, v2, rfl, rfl, rfl⟩ := hr
  have hx : x.1 = (0 : Int) ∧ x.2 = (0 : Int) ∧ r = ((0 : Int), (10 : Int)) := by
    change (bif (x.1 : Int) == 0 && (x.2 : Int) == 0 then some ((0 : Int), (10 : Int)) else none) = some r at hF
    by_cases h1 : (x.1 : Int) = 0
    · by_cases h2 : (x.2 : Int) = 0
      · rw [h1, h2] at hF
        exact ⟨h1, h2, (Option.some.inj hF).symm⟩
      · rw [beq_false_of_ne h2, Bool.and_false] at hF
        cases hF
    · rw [beq_false_of_ne h1, Bool.false_and] at hF
      cases hF
  obtain ⟨h1, h2, rfl⟩ := hx
  rw [h1, h2]
  refine Calls.mono (hw w) ?_
  rintro e w' ⟨rfl, o, rfl⟩
  exact ⟨_, M, rfl, ⟨Mem.le_refl _, memOk_alloc hM o, ⟨rfl, rfl, rfl, by simp, Nat.le_refl _, fun k hk _ => Go.RowKit.Below.heap_alloc w o k hk⟩, fun _ _ _ h => .inl h, [.int .i64 0, .int .i64 10], [], rfl, List.nodup_nil, _, _, [], [], rfl, rfl, ⟨[.int .i64 0], rfl, fun _ => rfl, rfl, rfl, rfl⟩, _, rfl, [.int .i64 10], rfl, fun _ => rfl, rfl, rfl, rfl⟩⟩

end Go.R
