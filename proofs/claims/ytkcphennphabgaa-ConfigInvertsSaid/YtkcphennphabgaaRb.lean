/- What is proved here, part 2: a verified evaluator of the model's own code ('exec'), with its soundness; a tool for the claim's proof. It asks nothing. -/
import Derived.Test.YtkcphennphabgaaRa
import Derived.Lib.AppendZerosOnto
/- Literals, choices, the greater and the smaller one. -/
namespace Go.R
open Go

section
variable {P : Program} {E : Env} {w0 : Start} {S G : Nat → Prop} {M : Mem} {ρ : Places} {L : Blks} {w : World} {X : Exit → Act → World → Prop} {o : Oper} {a : Act} {fr : List AV} {fs : List (List AV)} {susp : List (List Value)} {v : AV} {d : List (Nat × Option Blk)}

/-- The operands' values. -/
def EvOk (M : Mem) (ρ : Places) (L : Blks) (G : Nat → Prop) (ra : Operand → AV) (a : Act) : Prop := ∀ x, Rep M ρ L (ra x) (a.eval x) ∧ Bd G (ra x)

variable {ra : Operand → AV}

def placesOk (P : Program) (t : TypeId) (places : List (Nat × Nat)) (n : Nat) : Bool :=
  (match P.underlying t with
  | some (.struct fs) => fs.toList.mapM (fun f => (P.info? f.type).map fun i => (f.offset, i.size)) == some places
  | some (.array _ e) => match P.info? e with
    | some ie => places == (List.range places.length).map fun i => (i * ie.size, ie.size)
    | none => false
  | _ => false) && places.all fun p => Nat.ble (p.1 + p.2) n

theorem listParts_fst (ps : Array (Nat × Operand)) : (listParts ra ps).map (·.1) = (ps.map fun (i, x) => (i, a.eval x)).toList.map (·.1) := by
  simp [listParts]

theorem listParts_rep (hev : EvOk M ρ L G ra a) (ps : Array (Nat × Operand)) : RepL M ρ L ((listParts ra ps).map (·.2)) ((ps.map fun (i, x) => (i, a.eval x)).toList.map (·.2)) ∧ BdL G ((listParts ra ps).map (·.2)) := by
  simp only [listParts, Array.toList_map, List.map_map]
  generalize ps.toList = l
  induction l with
  | nil => simp [RepL, BdL]
  | cons p l ih => simp only [List.map_cons, RepL, BdL]; exact ⟨⟨_, _, rfl, (hev p.2).1, ih.1⟩, (hev p.2).2, ih.2⟩

theorem build_sound {t : TypeId} {z : List AV} {places : List (Nat × Nat)} (hz : zeroIs P t (avsEq z) = true) (hp : placesOk P t places z.length = true) (hev : EvOk M ρ L G ra a) {ps : Array (Nat × Operand)}
    (h : (match fillA places z (listParts ra ps) with
      | some cs => Qn.pure (.agg cs)
      | none => .fail).run L done1 = some (v, d)) : d = [] ∧ PureRes P M ρ L G w (Instr.build t (ps.map fun (i, x) => (i, a.eval x))) v := by
  obtain ⟨i, zv, hi, hz1, hz2, hz3⟩ := zero_run hz
  have hzr := RepL_avsEq (M := M) (ρ := ρ) (L := L) (G := G) hz2
  cases hf : fillA places z (listParts ra ps) with
  | none => rw [hf] at h; exact (run_fail h).elim
  | some cs =>
    rw [hf] at h
    obtain ⟨rfl, rfl⟩ := run_pure_inv h
    refine ⟨rfl, ?_⟩
    unfold placesOk at hp
    simp only [Bool.and_eq_true, List.all_eq_true] at hp
    obtain ⟨hp1, hp2⟩ := hp
    have hfit : ∀ p ∈ places, p.1 + p.2 ≤ z.length := fun p hpm => Nat.le_of_ble_eq_true (hp2 p hpm)
    have hrep := listParts_rep hev ps
    have fin : ∀ {place : Nat → Option (Nat × Nat)}, (∀ i p, places[i]? = some p → place i = some p) → (∀ cells, Instr.fill place zv.cells (ps.map fun (i, x) => (i, a.eval x)).toList = some cells → P.built t (ps.map fun (i, x) => (i, a.eval x)).toList = some cells) →
        PureRes P M ρ L G w (Instr.build t (ps.map fun (i, x) => (i, a.eval x))) (.agg cs) := by
      intro place h1 h2
      obtain ⟨cur, hc1, hc2, hc3⟩ := fillA_sound h1 hfit _ _ _ zv.cells hf hzr.1 hzr.2 rfl (listParts_fst (a := a) ps) hrep.1 hrep.2
      exact ⟨_, run_build w t _ cur (h2 _ hc1), ⟨by simp only [Rep]; exact ⟨cur, rfl, hc2⟩, by simpa [Bd] using hc3⟩⟩
    split at hp1
    · rename_i fds hu
      have hp1 := eq_of_beq hp1
      refine fin (place := fun i => places.toArray[i]?) (fun i p h => by simpa using h) (fun cells hc => ?_)
      simp only [Program.built, hi, hu, hz1, hp1]
      exact hc
    · rename_i n e hu
      cases hie : P.info? e with
      | none => rw [hie] at hp1; cases hp1
      | some ie =>
        rw [hie] at hp1
        have hp1 := eq_of_beq hp1
        refine fin (place := fun i => some (i * ie.size, ie.size)) (fun i p h => ?_) (fun cells hc => ?_)
        · rw [hp1, List.getElem?_map] at h
          cases hr : (List.range places.length)[i]? with
          | none => rw [hr] at h; cases h
          | some k =>
            rw [hr] at h
            obtain ⟨hlt, hk⟩ := List.getElem?_eq_some_iff.1 hr
            rw [List.getElem_range] at hk
            subst hk
            simpa using h
        · simp only [Program.built, hi, hu, hz1, hie]
          exact hc
    · cases hp1

/-! ### Slice literals -/

inductive FrzP (L : Blks) : List (Nat × AV) → List (Nat × List AV) → List Nat → Prop
  | nil : FrzP L [] [] []
  | cons {i v r cs ids ps ids'} (h : Frz L v.cells cs ids) (t : FrzP L r ps ids') : FrzP L ((i, v) :: r) ((i, cs) :: ps) (ids ++ ids')

theorem frzParts_inv {r : AV × List (Nat × Option Blk)} : {ps : List (Nat × AV)} → {k : List (Nat × List AV) → List Nat → Go.R.Qn} → (frzParts ps k).run L done1 = some r → ∃ qs ids, (k qs ids).run L done1 = some r ∧ FrzP L ps qs ids
  | [], k, h => ⟨[], [], by simpa [frzParts] using h, .nil⟩
  | (i, v) :: ps, k, h => by
    simp only [frzParts] at h
    obtain ⟨cs, ids, h, h1⟩ := frz_inv h
    obtain ⟨qs, ids', h, h2⟩ := frzParts_inv h
    exact ⟨_, _, h, .cons h1 h2⟩

theorem FrzP.live {ps : List (Nat × AV)} {qs : List (Nat × List AV)} {ids : List Nat} (h : FrzP L ps qs ids) : ∀ id ∈ ids, L id ≠ none := by
  induction h with
  | nil => simp
  | cons h _ ih =>
    intro id hid
    rcases List.mem_append.1 hid with hid | hid
    · exact h.live id hid
    · exact ih id hid

theorem dec_one : {t : Ty} → {cs : List AV} → {x : Dat t} → dec t cs = some x → cs.all AV.oneCell = true
  | .int _, cs, x, h => by
    match cs with
    | [] => simp [dec] at h
    | [v] => cases v <;> simp [dec] at h <;> rfl
    | _ :: _ :: _ => simp [dec] at h
  | .bool, cs, x, h => by
    match cs with
    | [] => simp [dec] at h
    | [v] => cases v <;> simp [dec] at h <;> rfl
    | _ :: _ :: _ => simp [dec] at h
  | .flt, cs, x, h => by
    match cs with
    | [] => simp [dec] at h
    | [v] => cases v <;> simp [dec] at h <;> rfl
    | _ :: _ :: _ => simp [dec] at h
  | .str, cs, x, h => by
    match cs with
    | [] => simp [dec] at h
    | [v] => cases v <;> simp [dec] at h <;> rfl
    | _ :: _ :: _ => simp [dec] at h
  | .slice _, cs, x, h => by
    match cs with
    | [] => simp [dec] at h
    | [v] => cases v <;> simp [dec] at h <;> rfl
    | _ :: _ :: _ => simp [dec] at h
  | .err, cs, x, h => by
    match cs with
    | [] => simp [dec] at h
    | [v] => cases v <;> simp [dec] at h <;> rfl
    | _ :: _ :: _ => simp [dec] at h
  | .nsl _, cs, x, h => by
    match cs with
    | [] => simp [dec] at h
    | [v] => cases v <;> simp [dec] at h <;> rfl
    | _ :: _ :: _ => simp [dec] at h
  | .unit, cs, x, h => by
    match cs with
    | [] => rfl
    | _ :: _ => simp [dec] at h
  | .pair a b, cs, x, h => by
    simp only [dec, Option.bind_eq_some_iff] at h
    obtain ⟨y, h1, z, h2, _⟩ := h
    rw [← List.take_append_drop a.sz cs, List.all_append, dec_one h1, dec_one h2]
    rfl

theorem Frz.one {cs cs' : List AV} {ids : List Nat} (h : Frz L cs cs' ids) (h1 : cs'.all AV.oneCell = true) : cs.all AV.oneCell = true := by
  induction h with
  | nil => rfl
  | own _ _ ih => simp only [List.all_cons, Bool.and_eq_true] at h1 ⊢; exact ⟨rfl, ih h1.2⟩
  | ownv _ _ ih => simp only [List.all_cons, Bool.and_eq_true] at h1 ⊢; exact ⟨rfl, ih h1.2⟩
  | other _ ih => simp only [List.all_cons, Bool.and_eq_true] at h1 ⊢; exact ⟨h1.1, ih h1.2⟩

/-- The rows of a literal, cell by cell. -/
theorem lit_rep {M' : Mem} (hM : M.le M') (hs : SimM E w0 S G M ρ L w) {t : Ty} {ps : List (Nat × AV)} {qs : List (Nat × List AV)} {ids : List Nat} (h : FrzP L ps qs ids) (hc : ∀ id ∈ ids, ∀ g c, ρ id = some (g, c) → ∀ o v, w.cell? ⟨g, o, none⟩ = some v → M' g o = some v) :
    ∀ {i0 : Nat} {xs : List (Dat t)}, litRows t i0 qs = some xs → ∀ {us : List Value}, RepL M ρ L (ps.map (·.2)) us → BdL G (ps.map (·.2)) →
      ps.map (·.1) = List.range' i0 us.length ∧ xs.length = us.length ∧ (∀ u ∈ us, u.cells.size = t.sz) ∧ ∀ (i : Nat) (x : Dat t), xs[i]? = some x → ∃ u, us[i]? = some u ∧ RepS M' t x u.cells.toList := by
  induction h with
  | nil =>
    intro i0 xs hx us hr _
    simp only [litRows, Option.some.injEq] at hx
    subst hx
    simp only [List.map_nil, RepL] at hr
    subst hr
    simp
  | @cons i v r cs ids ps' ids' hf _ ih =>
    intro i0 xs hx us hr hb
    simp only [litRows] at hx
    split at hx
    · rename_i hi
      subst hi
      simp only [Option.bind_eq_some_iff] at hx
      obtain ⟨x, h1, l, h2, hx⟩ := hx
      cases hx
      simp only [List.map_cons, RepL, BdL] at hr hb
      obtain ⟨u, us', rfl, hu, hr⟩ := hr
      have hih := ih (fun id hid => hc id (List.mem_append_right _ hid)) h2 hr hb.2
      obtain ⟨k1, k2, k3, k4⟩ := hih
      have hone := hf.one (dec_one h1)
      obtain ⟨hcr, _⟩ := rep_cells hu hone
      have hrep := RepS.of_dec h1 (hf.rep hM hs (fun id hid => hc id (List.mem_append_left _ hid)) (BdL_cells hb.1) hcr)
      refine ⟨?_, by simp [k2], fun w hw => ?_, fun j y hy => ?_⟩
      · simp only [List.map_cons, List.length_cons, List.range'_succ]
        rw [k1]
      · rcases List.mem_cons.1 hw with rfl | hw
        · have := hrep.len; rwa [Array.length_toList] at this
        · exact k3 w hw
      · cases j with
        | zero => simp at hy; subst hy; exact ⟨u, by simp, hrep⟩
        | succ j => obtain ⟨u', g1, g2⟩ := k4 j y (by simpa using hy); exact ⟨u', by simpa using g1, g2⟩
    · cases hx

theorem zip_parts : (l : List (Nat × Value)) → (i0 : Nat) → l.map (·.1) = List.range' i0 l.length → l = ((l.map (·.2)).zipIdx i0).map fun x => (x.2, x.1)
  | [], _, _ => rfl
  | (i, v) :: l, i0, h => by
    simp only [List.map_cons, List.length_cons, List.range'_succ, List.cons.injEq] at h
    obtain ⟨rfl, h⟩ := h
    simp only [List.map_cons, List.zipIdx_cons]
    rw [← zip_parts l (i + 1) h]

theorem flat_rows_get {sz : Nat} : (us : List Value) → (∀ u ∈ us, u.cells.size = sz) → ∀ (i : Nat) (u : Value), us[i]? = some u → ∀ (j : Nat) (c : Value), u.cells.toList[j]? = some c → (us.flatMap fun u => u.cells.toList)[i * sz + j]? = some c
  | [], _, i, u, h, _, _, _ => by simp at h
  | u0 :: us, hsz, i, u, h, j, c, hc => by
    have h0 : u0.cells.toList.length = sz := by simpa using hsz u0 (List.mem_cons_self ..)
    rw [List.flatMap_cons]
    cases i with
    | zero =>
      simp only [List.getElem?_cons_zero, Option.some.injEq] at h
      subst h
      rw [Nat.zero_mul, Nat.zero_add, List.getElem?_append_left (List.getElem?_eq_some_iff.1 hc).1]
      exact hc
    | succ i =>
      have := flat_rows_get us (fun u hu => hsz u (List.mem_cons_of_mem _ hu)) i u (by simpa using h) j c hc
      rw [List.getElem?_append_right (by rw [h0, Nat.succ_mul]; omega), h0, show (i + 1) * sz + j - sz = i * sz + j by rw [Nat.succ_mul]; omega]
      exact this

theorem flat_rows_len {sz : Nat} : (us : List Value) → (∀ u ∈ us, u.cells.size = sz) → (us.flatMap fun u => u.cells.toList).length = us.length * sz
  | [], _ => by simp
  | u :: us, h => by
    have h0 : u.cells.toList.length = sz := by simpa using h u (List.mem_cons_self ..)
    rw [List.flatMap_cons, List.length_append, h0, flat_rows_len us fun u hu => h u (List.mem_cons_of_mem _ hu), List.length_cons, Nat.succ_mul]
    omega

theorem buildSlice_core (hm : SimM E w0 S G M ρ L w) {ty e : TypeId} {t : Ty} {bytes len : Nat} (hty : tyElem P ty = some e) (he : elemIs P e t bytes = true) (hlim : Nat.ble (len * t.sz) 16777216 = true) (hev : EvOk M ρ L G ra a) {ps : Array (Nat × Operand)} {base : Nat} (hn : ¬ G base)
    {qs : List (Nat × List AV)} {ids : List Nat} {xs : List (Dat t)} (hfp : FrzP L (listParts ra ps) qs ids) (hlit : litRows t 0 qs = some xs) (hlen : xs.length = len) :
    ∃ A w', (Instr.buildSlice ty len (ps.map fun (i, x) => (i, a.eval x))).run P w = .ok (.slice A len len) w' ∧ After E w0 S G M ρ L ((base, some (.row e t xs)) :: kills ids) (.own base) (.slice A len len) w' := by
  obtain ⟨i, z, hi, hsz, hby, hpos, hb0, hz, hzl, hzs⟩ := elem_run he
  have hrep := listParts_rep hev ps
  have hle := freezeS_le hm (I := fun q => q ∈ ids) hfp.live
  obtain ⟨hs1, hst1⟩ := hm.freezeS (I := fun q => q ∈ ids) hfp.live (L' := ov (kills ids) L) (fun q hq => ov_kills_in hq) (fun q hq => ov_kills_out hq)
  obtain ⟨k1, k2, k3, k4⟩ := lit_rep hle hm hfp (fun id hid g c hr o v hv => freezeS_cells (I := fun q => q ∈ ids) hid hr hv) hlit hrep.1 hrep.2
  rw [listParts_fst (a := a) ps] at k1
  generalize hl : (ps.map fun (i, x) => (i, a.eval x)).toList = l at *
  have hzip := zip_parts l 0 (by rw [k1, List.length_map])
  have hus : (l.map (·.2)).length = len := by rw [← k2, hlen]
  have hfill : ∀ cells : Array Value, cells.size = len * t.sz → Instr.fill (fun i => some (i * t.sz, t.sz)) cells l = some ((l.map (·.2)).flatMap fun u => u.cells.toList).toArray := fun cells hc => by
    rw [hzip]
    have : (((l.map (·.2)).zipIdx 0).map fun x => (x.2, x.1)).map (·.2) = l.map (·.2) := by rw [← hzip]
    rw [this]
    exact Go.Great.fill_whole hpos _ _ k3 (by rw [hus, hc])
  have hcs := flat_rows_len (l.map (·.2)) k3
  obtain ⟨g1, g2⟩ := hs1.alloc hn (b := .row e t xs) (cur := ((l.map (·.2)).flatMap fun u => u.cells.toList).toArray) (e := e) (cap := len)
    ⟨rfl, hpos, by omega, by
      have hl1 : len ≤ len * t.sz := Nat.le_mul_of_pos_right _ hpos
      have := Nat.le_of_ble_eq_true hlim
      simp only [maxLen]
      omega, by rw [List.size_toArray, hcs, hus], fun i x hx => by
      obtain ⟨u, hu1, hu2⟩ := k4 i x hx
      refine ⟨_, hu2, fun j c hc => ?_⟩
      rw [List.getElem?_toArray]
      exact flat_rows_get _ k3 i u hu1 j c hc⟩
  have hgrow : (fun i => G i ∨ i = base) = grow G ((base, some (.row e t xs)) :: kills ids) := by
    funext i
    simp [grow, kills]
  refine ⟨some ⟨w.heap.size, 0, none⟩, _, ?_, ⟨⟨_, _, hle, ?_, by rw [← hgrow]; exact g1, ?_⟩, by rw [← hgrow]; simp [Bd]⟩⟩
  · have h24 : ¬ (len * i.size > 2 ^ 24) := by rw [hsz]; have := Nat.le_of_ble_eq_true hlim; simp; omega
    have e1 : P.info? e = some i := hi
    simp only [Instr.buildSlice, Sem.run_bind, run_underlying (elem_ty hty), Result.andThen_ok, run_sz (show tySz P e = some i.size by simp [tySz, hi]), Sem.run_ite, if_neg h24, Sem.run_pure]
    have hmid : ∀ (zs : Array Value), (Array.map (fun x => zs[x % zs.size]!) (Array.range (len * i.size))).size = len * t.sz := fun zs => by simp [hsz]
    by_cases h0 : len * i.size = 0
    · rw [if_pos h0]
      rw [show (fun j => some (j * i.size, i.size)) = (fun j => some (j * t.sz, t.sz)) by rw [hsz]]
      simp only [hl]
      rw [hfill _ (hmid _)]
      simp [newRow]
    · rw [if_neg h0]
      simp only [zeroValue, Sem.run_bind, run_info hi, Result.andThen_ok, hz, Sem.run_pure]
      rw [show (fun j => some (j * i.size, i.size)) = (fun j => some (j * t.sz, t.sz)) by rw [hsz]]
      simp only [hl]
      rw [hfill _ (hmid _)]
      simp [newRow]
  · have := rep_row_own (M := freezeS w M ρ fun q => q ∈ ids) (ρ := ρ) (L := ov (kills ids) L) (n := base) (g := w.heap.size) (cap := len) (e := e) (t := t) (xs := xs)
    rw [hlen] at this
    exact this
  · exact hst1.trans g2

theorem buildSlice_sound (hm : SimM E w0 S G M ρ L w) {ty e : TypeId} {t : Ty} {bytes len : Nat} (hty : tyElem P ty = some e) (he : elemIs P e t bytes = true) (hlim : Nat.ble (len * t.sz) 16777216 = true) (hev : EvOk M ρ L G ra a) {ps : Array (Nat × Operand)} {base : Nat} (hn : ¬ G base)
    (h : (frzParts (listParts ra ps) fun qs ids => match litRows t 0 qs with
      | some xs => cond (Nat.beq xs.length len) (.done (.own base) ((base, some (.row e t xs)) :: kills ids)) .fail
      | none => .fail).run L done1 = some (v, d)) : MemRes P E w0 S G M ρ L w (Instr.buildSlice ty len (ps.map fun (i, x) => (i, a.eval x))) v d := by
  obtain ⟨qs, ids, h, hfp⟩ := frzParts_inv h
  split at h
  · rename_i xs hlit
    obtain ⟨hlen, h⟩ := run_cond_inv h
    simp only [Qn.run, done1, Option.some.injEq, Prod.mk.injEq] at h
    obtain ⟨rfl, rfl⟩ := h
    obtain ⟨A, w', h1, h2⟩ := buildSlice_core hm hty he hlim hev hn hfp hlit (Nat.eq_of_beq_eq_true hlen)
    exact ⟨_, w', h1, h2⟩
  · exact (run_fail h).elim

/-- A literal that is only read from its beginning on. -/
theorem buildLit_sound (hm : SimM E w0 S G M ρ L w) {ty e : TypeId} {t : Ty} {bytes len : Nat} (hty : tyElem P ty = some e) (he : elemIs P e t bytes = true) (hlim : Nat.ble (len * t.sz) 16777216 = true) (hev : EvOk M ρ L G ra a) {ps : Array (Nat × Operand)} {base : Nat} (hn : ¬ G base)
    (h : (frzParts (listParts ra ps) fun qs ids => match litRows t 0 qs with
      | some xs => cond (Nat.beq xs.length len) (.done (.ro 2 t xs) ((base, none) :: kills ids)) .fail
      | none => .fail).run L done1 = some (v, d)) : MemRes P E w0 S G M ρ L w (Instr.buildSlice ty len (ps.map fun (i, x) => (i, a.eval x))) v d := by
  obtain ⟨qs, ids, h, hfp⟩ := frzParts_inv h
  split at h
  · rename_i xs hlit
    obtain ⟨hlen, h⟩ := run_cond_inv h
    simp only [Qn.run, done1, Option.some.injEq, Prod.mk.injEq] at h
    obtain ⟨rfl, rfl⟩ := h
    obtain ⟨A, w', h1, ⟨M1, ρ1, hle, hrep, hsim, hst⟩, hbd⟩ := buildSlice_core hm hty he hlim hev hn hfp hlit (Nat.eq_of_beq_eq_true hlen)
    have hl1 : ov ((base, some (Blk.row e t xs)) :: kills ids) L base = some (.row e t xs) := upd_same _ _ _
    have hI : ∀ id, id = base → ov ((base, some (Blk.row e t xs)) :: kills ids) L id ≠ none := fun id hid => by rw [hid, hl1]; simp
    have hle2 := freezeS_le hsim (I := (· = base)) hI
    obtain ⟨s1, s2⟩ := hsim.freezeS (I := (· = base)) hI (L' := ov ((base, none) :: kills ids) L) (fun q hq => by subst hq; exact upd_same _ _ _) (fun q hq => by show upd _ base _ q = upd _ base _ q; rw [upd_other _ _ hq, upd_other _ _ hq])
    have hgd : grow G ((base, none) :: kills ids) = G := by
      funext i
      simp [grow, kills]
    have hlv : ∀ q, ov ((base, none) :: kills ids) L q ≠ none → L q = ov ((base, none) :: kills ids) L q := fun q hq => by
      by_cases hqb : q = base
      · subst hqb; exact absurd (upd_same _ _ _) hq
      · have e1 : ov ((base, none) :: kills ids) L q = ov (kills ids) L q := upd_other _ _ hqb
        rw [e1] at hq ⊢
        by_cases hqi : q ∈ ids
        · exact absurd (ov_kills_in hqi) hq
        · rw [ov_kills_out hqi]
    refine ⟨_, w', h1, ⟨_, ρ1, Mem.le_trans hle hle2, ?_, ?_, hst.trans (fun i hi => s2 i (.inl hi))⟩, by simp [Bd]⟩
    · simp only [Rep]
      simp only [Rep] at hrep
      have := own_data (M' := freezeS w' M1 ρ1 (· = base)) hle2 (hsim.blk base) hl1 hrep (fun g cap cur hr hg o u hu => freezeS_cells (I := (· = base)) rfl hr (by rw [cell_of_row w' g o cur e (0, 0) hg]; exact hu))
      refine ⟨by simpa [view] using this, by simp, fun _ => ⟨A, len, rfl⟩, by simp⟩
    · rw [hgd]
      exact { s1 with
        bbx := fun id e' cs hl => hm.bbx id e' cs (by rw [hlv id (by rw [hl]; simp)]; exact hl)
        live := fun id hl => hm.live id (by rw [hlv id hl]; exact hl) }
  · exact (run_fail h).elim

/-! ### The greater and the smaller one -/

theorem max2_run {k k' : IntKind} {x y : Int} : (Builtin.max2 (.int k x) (.int k' y)).run P w = .ok (.int k (mx x y)) w := by simp [Builtin.max2, mx]
theorem maxL_run {k : IntKind} : (ns : List Int) → (n : Int) → ((ns.map (Value.int k)).foldlM Builtin.max2 (.int k n)).run P w = .ok (.int k (ns.foldl mx n)) w
  | [], n => by simp
  | m :: ns, n => by
    simp only [List.map_cons, List.foldlM_cons, Sem.run_bind, max2_run, Result.andThen_ok, List.foldl_cons]
    exact maxL_run ns (mx n m)
theorem min2_run {k k' : IntKind} {x y : Int} : (Builtin.min2 (.int k x) (.int k' y)).run P w = .ok (.int k (mn x y)) w := by simp [Builtin.min2, mn]

end
end Go.R

/- Contracts, and calls by them. -/
namespace Go.R
open Go

/-! ### Contracts -/

/-- A row of somebody's own, whole: its block is in gs. -/
def RowV (M : Mem) (w : World) (F : Nat → Prop) (e : TypeId) (t : Ty) (xs : List (Dat t)) (v : Value) (gs : List Nat) : Prop :=
  ∃ A c, v = .slice A xs.length c ∧ ((c = 0 ∧ xs = [] ∧ gs = []) ∨ ∃ g cur, A = some ⟨g, 0, none⟩ ∧ gs = [g] ∧ F g ∧ (∀ o, M g o = none) ∧ 0 < t.sz ∧ w.heap[g]? = some (.cells cur e (0, 0)) ∧ xs.length ≤ c ∧ c ≤ maxLen ∧ cur.size = c * t.sz ∧ RowIn M t xs cur)

def ArgP (M : Mem) (w : World) : (p : PTy) → DatP p → Value → List Nat → Prop
  | .ro agg t, x, v, gs => gs = [] ∧ ∃ vs, v = oneV agg vs ∧ (agg = false → vs.length = 1) ∧ RepS M t x vs
  | .mv e t, xs, v, gs => RowV M w (fun _ => True) e t xs v gs
  | .mvn e t, xs, v, gs => RowV M w (fun _ => True) e t xs v gs ∧ (xs = [] → v = .slice none 0 0)
  | .pt t, x, v, gs => gs = [] ∧ ∃ (ad : Addr) (us : List Value), v = .pointer (some ad) ∧ ad.spot = none ∧ RepS M t x us ∧ ∀ (j : Nat) (u : Value), us[j]? = some u → M ad.block (ad.off + j) = some u

def ArgsP (M : Mem) (w : World) : (ats : List PTy) → DatPs ats → List Value → List Nat → Prop
  | [], _, vs, gs => vs = [] ∧ gs = []
  | [p], x, vs, gs => ∃ v, vs = [v] ∧ ArgP M w p x v gs
  | p :: q :: ps, x, vs, gs => ∃ v vs' g1 g2, vs = v :: vs' ∧ gs = g1 ++ g2 ∧ ArgP M w p x.1 v g1 ∧ ArgsP M w (q :: ps) x.2 vs' g2

def OutS (M : Mem) (w : World) (F : Nat → Prop) : (t : Ty) → Dat t → List TypeId → List TypeId → List Value → List Nat → Prop
  | .int k, n, es, es', vs, gs => vs = [.int k n] ∧ es' = es ∧ gs = []
  | .bool, b, es, es', vs, gs => vs = [.bool b] ∧ es' = es ∧ gs = []
  | .flt, n, es, es', vs, gs => vs = [.float .f64 n] ∧ es' = es ∧ gs = []
  | .str, s, es, es', vs, gs => vs = [.string s] ∧ es' = es ∧ gs = []
  | .slice t, xs, es, es', vs, gs => ∃ e v, es = e :: es' ∧ vs = [v] ∧ RowV M w F e t xs v gs
  | .nsl t, xs, es, es', vs, gs => RepS M (.nsl t) xs vs ∧ es' = es ∧ gs = []
  | .err, b, es, es', vs, gs => RepS M .err b vs ∧ es' = es ∧ gs = []
  | .pair a b, p, es, es', vs, gs => ∃ em v1 v2 g1 g2, vs = v1 ++ v2 ∧ gs = g1 ++ g2 ∧ OutS M w F a p.1 es em v1 g1 ∧ OutS M w F b p.2 em es' v2 g2
  | .unit, _, es, es', vs, gs => vs = [] ∧ es' = es ∧ gs = []

def OutP (M : Mem) (w : World) (F : Nat → Prop) (r : RTy) (x : Dat r.t) (v : Value) (gs : List Nat) : Prop := ∃ us, v = oneV r.agg us ∧ (r.agg = false → us.length = 1) ∧ OutS M w F r.t x r.es [] us gs

def OutsP (M : Mem) (w : World) (F : Nat → Prop) : (rts : List RTy) → DatRs rts → List Value → List Nat → Prop
  | [], _, vs, gs => vs = [] ∧ gs = []
  | [r], x, vs, gs => ∃ v, vs = [v] ∧ OutP M w F r x v gs
  | r :: q :: rs, x, vs, gs => ∃ v vs' g1 g2, vs = v :: vs' ∧ gs = g1 ++ g2 ∧ OutP M w F r x.1 v g1 ∧ OutsP M w F (q :: rs) x.2 vs' g2

def retV : List Value → Value
  | [v] => v
  | vs => .tuple vs.toArray

structure RetOk (M : Mem) (w : World) (gs : List Nat) (M' : Mem) (w' : World) (rts : List RTy) (r : DatRs rts) (v : Value) : Prop where
  le : M.le M'
  mem : MemOk M' w'
  kp : Kp w w' (· ∈ gs)
  new : ∀ b o u, M' b o = some u → M b o = some u ∨ w.heap.size ≤ b ∨ b ∈ gs
  out : ∃ vs hs, v = retV vs ∧ hs.Nodup ∧ OutsP M' w' (fun g => w.heap.size ≤ g ∨ g ∈ gs) rts r vs hs

/-- The tables that a function reads lie in memory. -/
def GlobOk (M : Mem) (gs : List (Nat × List AV)) : Prop := ∀ g c, (g, c) ∈ gs → GlobAt M g c

structure CalOk (P : Program) (gt : List (Nat × List AV)) (C : Cal) : Prop where
  enter : ∀ args w, (callFunc C.f args).run P w = .ok (.enter C.f args) w
  run : ∀ (M : Mem) (w : World) (x : DatPs C.ats) (vs : List Value) (gs : List Nat) (r : DatRs C.rts), MemOk M w → GlobOk M gt → ArgsP M w C.ats x vs gs → gs.Nodup → C.F x = some r →
    Calls P C.f vs.toArray w fun e w' => ∃ v M', e = .returned v ∧ RetOk M w gs M' w' C.rts r v

/-- What is asked of a function that changes a row in its place: the row's elements lie as they lay. -/
structure MCalOk (P : Program) (gt : List (Nat × List AV)) (C : MCal) : Prop where
  enter : ∀ args w, (callFunc C.f args).run P w = .ok (.enter C.f args) w
  len : ∀ xs x ys, C.F xs x = some ys → ys.length = xs.length
  run : ∀ (M : Mem) (w : World) (xs : List (Dat C.t)) (x : DatPs C.cts) (v : Value) (cvs : List Value) (gs : List Nat) (ys : List (Dat C.t)), MemOk M w → GlobOk M gt → RowV M w (fun _ => True) C.e C.t xs v gs → ArgsP M w C.cts x cvs [] → C.F xs x = some ys →
    Calls P C.f (v :: (match C.g with | some g => [.func (.func g) #[] cvs.toArray] | none => [])).toArray w fun e w' => e = .returned (.tuple #[]) ∧ MemOk M w' ∧ Kp w w' (· ∈ gs) ∧ RowV M w' (fun _ => True) C.e C.t ys v gs

section
variable {P : Program} {E : Env} {w0 : Start} {S G : Nat → Prop} {M : Mem} {ρ : Places} {L : Blks} {w : World} {X : Exit → Act → World → Prop} {o : Oper} {a : Act} {fr : List AV} {fs : List (List AV)} {susp : List (List Value)} {v : AV} {d : List (Nat × Option Blk)}

/-! ### Results come in -/

/-- What holds after blocks have come in. -/
structure Came (E : Env) (w0 : Start) (S G : Nat → Prop) (M : Mem) (ρ : Places) (L : Blks) (w : World) (d : List (Nat × Option Blk)) (gs : List Nat) (ρ' : Places) : Prop where
  sim : SimM E w0 S (grow G d) M ρ' (ov d L) w
  still : Still G ρ L ρ' (ov d L)
  places : ∀ id, ov d L id ≠ none → ∀ g c, ρ' id = some (g, c) → (L id ≠ none ∧ ρ id = some (g, c)) ∨ g ∈ gs

theorem grow_append (d1 d2 : List (Nat × Option Blk)) : grow G (d1 ++ d2) = grow (grow G d2) d1 := by
  funext i
  simp only [grow, List.mem_append, eq_iff_iff]
  constructor
  · rintro (h | ⟨b, h | h⟩)
    · exact .inl (.inl h)
    · exact .inr ⟨b, h⟩
    · exact .inl (.inr ⟨b, h⟩)
  · rintro ((h | ⟨b, h⟩) | ⟨b, h⟩)
    · exact .inl h
    · exact .inr ⟨b, .inr h⟩
    · exact .inr ⟨b, .inl h⟩

theorem ov_append (d1 d2 : List (Nat × Option Blk)) (L : Blks) : ov (d1 ++ d2) L = ov d1 (ov d2 L) := by
  induction d1 with
  | nil => rfl
  | cons p d1 ih => obtain ⟨n, b⟩ := p; show upd (ov (d1 ++ d2) L) n b = upd (ov d1 (ov d2 L)) n b; rw [ih]

theorem Came.nil (h : SimM E w0 S G M ρ L w) : Came E w0 S G M ρ L w [] [] ρ :=
  ⟨by rw [grow_nil]; exact h, Still.refl_of, fun id hl g c hr => .inl ⟨hl, hr⟩⟩

theorem Still.mono {G G' : Nat → Prop} {ρ ρ' : Places} {L L' : Blks} (h : Still G' ρ L ρ' L') (hG : ∀ i, G i → G' i) : Still G ρ L ρ' L' := fun id hid => h id (hG id hid)

theorem Came.trans {d1 d2 : List (Nat × Option Blk)} {g1 g2 : List Nat} {ρ1 ρ2 : Places} (h2 : Came E w0 S G M ρ L w d2 g2 ρ1) (h1 : Came E w0 S (grow G d2) M ρ1 (ov d2 L) w d1 g1 ρ2) : Came E w0 S G M ρ L w (d1 ++ d2) (g1 ++ g2) ρ2 := by
  refine ⟨?_, ?_, ?_⟩
  · rw [grow_append, ov_append]; exact h1.sim
  · rw [ov_append]; exact h2.still.trans (h1.still.mono fun i hi => .inl hi)
  · intro id hl g c hr
    rw [ov_append] at hl
    rcases h1.places id hl g c hr with ⟨k1, k2⟩ | k
    · rcases h2.places id k1 g c k2 with k | k
      · exact .inl k
      · exact .inr (List.mem_append_right _ k)
    · exact .inr (List.mem_append_left _ k)

theorem rowV_in (hm : SimM E w0 S G M ρ L w) {F : Nat → Prop} (hF : ∀ g, F g → w0.heap.size ≤ g ∨ S g) {e : TypeId} {t : Ty} {xs : List (Dat t)} {u : Value} {gs : List Nat} (h : RowV M w F e t xs u gs)
    (hfree : ∀ id, L id ≠ none → ∀ g c, ρ id = some (g, c) → g ∉ gs) {n : Nat} (hn : ¬ G n) : ∃ ρ', Came E w0 S G M ρ L w [(n, some (.row e t xs))] gs ρ' ∧ Rep M ρ' (upd L n (some (.row e t xs))) (.own n) u := by
  obtain ⟨A, c, rfl, ⟨rfl, rfl, rfl⟩ | ⟨g, cur, rfl, rfl, hf, hM, hpos, hg, h1, h2, h3, h4⟩⟩ := h
  · obtain ⟨k1, k2⟩ := hm.empty hn e t
    refine ⟨_, ⟨by rw [← grow_one]; exact k1, k2, fun id hl g c hr => ?_⟩, rep_own_empty⟩
    by_cases hid : id = n
    · subst hid; rw [upd_same] at hr; cases hr
    · rw [upd_other _ _ hid] at hr
      exact .inl ⟨by simpa [ov, upd_other _ _ hid] using hl, hr⟩
  · obtain ⟨k1, k2⟩ := hm.adopt (cur' := cur) hn hg (hF g hf) hM (fun id hl g' c' hr he => hfree id hl g' c' hr (by simp [he])) hpos h1 h2 h3 h4
    rw [setRow_self w g cur e (0, 0) hg] at k1
    refine ⟨_, ⟨by rw [← grow_one]; exact k1, k2, fun id hl g' c' hr => ?_⟩, rep_row_own⟩
    by_cases hid : id = n
    · subst hid; rw [upd_same] at hr; cases hr; exact .inr (by simp)
    · rw [upd_other _ _ hid] at hr
      exact .inl ⟨by simpa [ov, upd_other _ _ hid] using hl, hr⟩

theorem outS_es {F : Nat → Prop} : {t : Ty} → {x : Dat t} → {es es' : List TypeId} → {us : List Value} → {gs : List Nat} → OutS M w F t x es es' us gs → ∀ base, ∃ cs d, outCells base t x es = (cs, d, es') ∧ us.length = t.sz ∧ es'.length ≤ es.length ∧ d.length + es'.length = es.length ∧ ∀ i b, (i, b) ∈ d → base + es'.length ≤ i ∧ i < base + es.length
  | .int _, _, _, _, _, _, h, base => by simp only [OutS] at h; obtain ⟨rfl, rfl, rfl⟩ := h; exact ⟨_, _, rfl, rfl, Nat.le_refl _, by simp, by simp⟩
  | .bool, _, _, _, _, _, h, base => by simp only [OutS] at h; obtain ⟨rfl, rfl, rfl⟩ := h; exact ⟨_, _, rfl, rfl, Nat.le_refl _, by simp, by simp⟩
  | .flt, _, _, _, _, _, h, base => by simp only [OutS] at h; obtain ⟨rfl, rfl, rfl⟩ := h; exact ⟨_, _, rfl, rfl, Nat.le_refl _, by simp, by simp⟩
  | .str, _, _, _, _, _, h, base => by simp only [OutS] at h; obtain ⟨rfl, rfl, rfl⟩ := h; exact ⟨_, _, rfl, rfl, Nat.le_refl _, by simp, by simp⟩
  | .unit, _, _, _, _, _, h, base => by simp only [OutS] at h; obtain ⟨rfl, rfl, rfl⟩ := h; exact ⟨_, _, rfl, rfl, Nat.le_refl _, by simp, by simp⟩
  | .slice _, _, _, es', _, _, h, base => by
    simp only [OutS] at h
    obtain ⟨e, v, rfl, rfl, _⟩ := h
    refine ⟨_, _, rfl, rfl, by simp, by simp; omega, fun i b hi => ?_⟩
    simp only [List.mem_cons, Prod.mk.injEq, List.not_mem_nil, or_false] at hi
    obtain ⟨rfl, _⟩ := hi
    simp
  | .err, _, _, es', _, _, h, base => by
    simp only [OutS] at h
    obtain ⟨h, rfl, rfl⟩ := h
    exact ⟨_, _, rfl, h.len, Nat.le_refl _, by simp, by simp⟩
  | .nsl _, _, _, es', _, _, h, base => by
    simp only [OutS] at h
    obtain ⟨h, rfl, rfl⟩ := h
    exact ⟨_, _, rfl, h.len, Nat.le_refl _, by simp, by simp⟩
  | .pair a b, p, es, es', us, gs, h, base => by
    simp only [OutS] at h
    obtain ⟨em, v1, v2, g1, g2, rfl, rfl, h1, h2⟩ := h
    obtain ⟨c1, d1, e1, l1, n1, q1, m1⟩ := outS_es h1 base
    obtain ⟨c2, d2, e2, l2, n2, q2, m2⟩ := outS_es h2 base
    refine ⟨c1 ++ c2, d1 ++ d2, by simp only [outCells, e1, e2], by simp [Ty.sz, l1, l2], by omega, by rw [List.length_append]; omega, fun i bb hi => ?_⟩
    rcases List.mem_append.1 hi with hi | hi
    · have := m1 i bb hi; omega
    · have := m2 i bb hi; omega

theorem outS_in {F : Nat → Prop} (hF : ∀ g, F g → w0.heap.size ≤ g ∨ S g) : {t : Ty} → {x : Dat t} → {es es' : List TypeId} → {us : List Value} → {gs : List Nat} → OutS M w F t x es es' us gs → gs.Nodup → ∀ {G : Nat → Prop} {ρ : Places} {L : Blks}, SimM E w0 S G M ρ L w →
    (∀ id, L id ≠ none → ∀ g c, ρ id = some (g, c) → g ∉ gs) → ∀ {base : Nat}, (∀ i, base + es'.length ≤ i → i < base + es.length → ¬ G i) → ∀ {cs d}, outCells base t x es = (cs, d, es') →
    ∃ ρ', Came E w0 S G M ρ L w d gs ρ' ∧ RepL M ρ' (ov d L) cs us ∧ BdL (grow G d) cs
  | .int _, _, _, _, _, _, h, _, G, ρ, L, hm, _, base, _, cs, d, he => by simp only [OutS] at h; obtain ⟨rfl, rfl, rfl⟩ := h; simp only [outCells, Prod.mk.injEq] at he; obtain ⟨rfl, rfl, _⟩ := he; exact ⟨ρ, Came.nil hm, by simp [RepL, Rep], by simp [BdL, Bd]⟩
  | .bool, _, _, _, _, _, h, _, G, ρ, L, hm, _, base, _, cs, d, he => by simp only [OutS] at h; obtain ⟨rfl, rfl, rfl⟩ := h; simp only [outCells, Prod.mk.injEq] at he; obtain ⟨rfl, rfl, _⟩ := he; exact ⟨ρ, Came.nil hm, by simp [RepL, Rep], by simp [BdL, Bd]⟩
  | .flt, _, _, _, _, _, h, _, G, ρ, L, hm, _, base, _, cs, d, he => by simp only [OutS] at h; obtain ⟨rfl, rfl, rfl⟩ := h; simp only [outCells, Prod.mk.injEq] at he; obtain ⟨rfl, rfl, _⟩ := he; exact ⟨ρ, Came.nil hm, by simp [RepL, Rep], by simp [BdL, Bd]⟩
  | .str, _, _, _, _, _, h, _, G, ρ, L, hm, _, base, _, cs, d, he => by simp only [OutS] at h; obtain ⟨rfl, rfl, rfl⟩ := h; simp only [outCells, Prod.mk.injEq] at he; obtain ⟨rfl, rfl, _⟩ := he; exact ⟨ρ, Came.nil hm, by simp [RepL, Rep], by simp [BdL, Bd]⟩
  | .unit, _, _, _, _, _, h, _, G, ρ, L, hm, _, base, _, cs, d, he => by simp only [OutS] at h; obtain ⟨rfl, rfl, rfl⟩ := h; simp only [outCells, Prod.mk.injEq] at he; obtain ⟨rfl, rfl, _⟩ := he; exact ⟨ρ, Came.nil hm, by simp [RepL], by simp [BdL]⟩
  | .slice t, xs, _, es', _, _, h, _, G, ρ, L, hm, hfree, base, hn, cs, d, he => by
    simp only [OutS] at h
    obtain ⟨e, v, rfl, rfl, h⟩ := h
    simp only [outCells, Prod.mk.injEq] at he
    obtain ⟨rfl, rfl, _⟩ := he
    obtain ⟨ρ', k1, k2⟩ := rowV_in hm hF h hfree (n := base + es'.length) (hn _ (by omega) (by simp))
    exact ⟨ρ', k1, by simp only [RepL]; exact ⟨_, _, rfl, k2, rfl⟩, by simp [BdL, Bd, grow]⟩
  | .err, b, _, es', _, _, h, _, G, ρ, L, hm, _, base, hn, cs, d, he => by
    simp only [OutS] at h
    obtain ⟨h, rfl, rfl⟩ := h
    simp only [outCells, Prod.mk.injEq] at he
    obtain ⟨rfl, rfl, _⟩ := he
    exact ⟨ρ, Came.nil hm, RepL.of_S (t := .err) h, BdL_cellsOf .err b⟩
  | .nsl t, xs, _, es', _, _, h, _, G, ρ, L, hm, _, base, hn, cs, d, he => by
    simp only [OutS] at h
    obtain ⟨h, rfl, rfl⟩ := h
    simp only [outCells, Prod.mk.injEq] at he
    obtain ⟨rfl, rfl, _⟩ := he
    exact ⟨ρ, Came.nil hm, RepL.of_S h, BdL_cellsOf (.nsl t) xs⟩
  | .pair ta tb, p, es, es', us, gs, h, hnd, G, ρ, L, hm, hfree, base, hn, cs, d, he => by
    simp only [OutS] at h
    obtain ⟨em, v1, v2, g1, g2, rfl, rfl, h1, h2⟩ := h
    obtain ⟨c1, d1, e1, _, n1, _, m1⟩ := outS_es h1 base
    obtain ⟨c2, d2, e2, _, n2, _, m2⟩ := outS_es h2 base
    simp only [outCells, e1, e2, Prod.mk.injEq] at he
    obtain ⟨rfl, rfl, _⟩ := he
    rw [List.nodup_append] at hnd
    obtain ⟨hd1, hd2, hd3⟩ := hnd
    obtain ⟨ρ1, k1, k2, k3⟩ := outS_in hF h2 hd2 hm (fun id hl g c hr hg => hfree id hl g c hr (List.mem_append_right _ hg)) (base := base) (fun i hi hi' => hn i hi (by omega)) e2
    obtain ⟨ρ2, q1, q2, q3⟩ := outS_in hF h1 hd1 k1.sim (fun id hl g c hr hg => by
      rcases k1.places id hl g c hr with ⟨j1, j2⟩ | j
      · exact hfree id j1 g c j2 (List.mem_append_left _ hg)
      · exact hd3 g hg g j rfl) (base := base) (fun i hi hi' hg => by
      rcases hg with hg | ⟨b, hb⟩
      · exact hn i (by omega) hi' hg
      · have := m2 i _ hb; omega) e1
    refine ⟨ρ2, k1.trans q1, ?_, ?_⟩
    · rw [ov_append]
      exact q2.append (k2.mono (Mem.le_refl _) q1.still _ _ k3)
    · rw [grow_append]
      exact q3.append (k3.mono fun i hi => .inl hi)

theorem oneV_rep {agg : Bool} {cs : List AV} {us : List Value} (h1 : agg = false → us.length = 1) (hr : RepL M ρ L cs us) : Rep M ρ L (oneOf agg cs) (oneV agg us) := by
  cases agg with
  | true => simp only [oneOf, oneV, Rep]; exact ⟨_, rfl, by simpa using hr⟩
  | false =>
    have h1 := h1 rfl
    match us, h1 with
    | [u], _ =>
      have hl := hr.length
      match cs, hl with
      | [c], _ => simp only [RepL, List.cons.injEq] at hr; obtain ⟨_, _, ⟨rfl, rfl⟩, hr, _⟩ := hr; simpa [oneOf, oneV] using hr

theorem oneV_bd {agg : Bool} {cs : List AV} (hb : BdL G cs) : Bd G (oneOf agg cs) := by
  cases agg with
  | true => simpa [oneOf, Bd] using hb
  | false =>
    match cs with
    | [] => simp [oneOf, Bd]
    | [c] => simp only [BdL] at hb; exact hb.1
    | _ :: _ :: _ => simp [oneOf, Bd]

theorem outs_in {F : Nat → Prop} (hF : ∀ g, F g → w0.heap.size ≤ g ∨ S g) : {rts : List RTy} → {x : DatRs rts} → {vs : List Value} → {gs : List Nat} → OutsP M w F rts x vs gs → gs.Nodup → ∀ {G : Nat → Prop} {ρ : Places} {L : Blks}, SimM E w0 S G M ρ L w →
    (∀ id, L id ≠ none → ∀ g c, ρ id = some (g, c) → g ∉ gs) → ∀ {base : Nat} {os d}, (∀ i, base ≤ i → i < base + d.length → ¬ G i) → outs base rts x = (os, d) →
    ∃ ρ', Came E w0 S G M ρ L w d gs ρ' ∧ RepL M ρ' (ov d L) os vs ∧ BdL (grow G d) os ∧ ∀ i b, (i, b) ∈ d → base ≤ i ∧ i < base + d.length
  | [], _, _, _, h, _, G, ρ, L, hm, _, base, os, d, _, he => by
    simp only [OutsP] at h
    obtain ⟨rfl, rfl⟩ := h
    simp only [outs, Prod.mk.injEq] at he
    obtain ⟨rfl, rfl⟩ := he
    exact ⟨ρ, Came.nil hm, by simp [RepL], by simp [BdL], by simp⟩
  | [r], x, _, _, h, hnd, G, ρ, L, hm, hfree, base, os, d, hn, he => by
    simp only [OutsP] at h
    obtain ⟨v, rfl, us, rfl, h1, h⟩ := h
    obtain ⟨cs, d', e1, _, n1, q1, m1⟩ := outS_es h base
    simp only [outs, e1, Prod.mk.injEq] at he
    obtain ⟨rfl, rfl⟩ := he
    obtain ⟨ρ', k1, k2, k3⟩ := outS_in hF h hnd hm hfree (base := base) (fun i hi hi' => hn i (by omega) (by simp only [List.length_nil, Nat.add_zero] at q1; omega)) e1
    refine ⟨ρ', k1, by simp only [RepL]; exact ⟨_, _, rfl, oneV_rep h1 k2, rfl⟩, by simp only [BdL]; exact ⟨oneV_bd k3, trivial⟩, fun i b hi => ?_⟩
    have := m1 i b hi
    simp only [List.length_nil, Nat.add_zero] at this q1
    omega
  | r :: q :: rs, x, vs, gs, h, hnd, G, ρ, L, hm, hfree, base, os, d, hn, he => by
    simp only [OutsP] at h
    obtain ⟨v, vs', g1, g2, rfl, rfl, ⟨us, rfl, h1, h⟩, h2⟩ := h
    obtain ⟨cs, d', e1, _, n1, q1, m1⟩ := outS_es h base
    simp only [outs, e1, Prod.mk.injEq] at he
    obtain ⟨rfl, rfl⟩ := he
    rw [List.nodup_append] at hnd
    obtain ⟨hd1, hd2, hd3⟩ := hnd
    simp only [List.length_nil, Nat.add_zero] at m1 q1
    obtain ⟨ρ1, k1, k2, k3, k4⟩ := outs_in hF h2 hd2 hm (fun id hl g c hr hg => hfree id hl g c hr (List.mem_append_right _ hg)) (base := base + r.es.length) (fun i hi hi' => hn i (by omega) (by rw [List.length_append]; omega)) rfl
    obtain ⟨ρ2, j1, j2, j3⟩ := outS_in hF h hd1 k1.sim (fun id hl g c hr hg => by
      rcases k1.places id hl g c hr with ⟨i1, i2⟩ | i1
      · exact hfree id i1 g c i2 (List.mem_append_left _ hg)
      · exact hd3 g hg g i1 rfl) (base := base) (fun i hi hi' hg => by
      rcases hg with hg | ⟨b, hb⟩
      · exact hn i (by simpa using hi) (by rw [List.length_append]; omega) hg
      · have := k4 i _ hb; omega) e1
    refine ⟨ρ2, k1.trans j1, ?_, ?_, fun i b hi => ?_⟩
    · rw [ov_append]
      simp only [RepL]
      exact ⟨_, _, rfl, oneV_rep h1 j2, k2.mono (Mem.le_refl _) j1.still _ _ k3⟩
    · rw [grow_append]
      simp only [BdL]
      exact ⟨oneV_bd j3, k3.mono fun i hi => .inl hi⟩
    · rw [List.length_append]
      rcases List.mem_append.1 hi with hi | hi
      · have := m1 i b hi; omega
      · have := k4 i b hi; omega

/-! ### Arguments -/

/-- What the evaluator has read of one argument. -/
def InP (L : Blks) : (p : PTy) → DatP p → AV → List Nat → List Nat → Prop
  | .ro agg t, x, v, fz, mv => mv = [] ∧ v.isAgg = agg ∧ ∃ cs, Frz L v.cells cs fz ∧ dec t cs = some x
  | .mv e t, xs, v, fz, mv => fz = [] ∧ ((xs = [] ∧ mv = [] ∧ (v = .nils ∨ v = .emp)) ∨ (∃ i, mv = [i] ∧ v = .own i ∧ L i = some (.row e t xs)) ∨ ∃ i b ys, mv = [i] ∧ v = .ownv i 0 (some b) ∧ L i = some (.row e t ys) ∧ xs = List.take b ys)
  | .mvn e t, xs, v, fz, mv => fz = [] ∧ ((xs = [] ∧ mv = [] ∧ v = .nils) ∨ ∃ i, mv = [i] ∧ v = .ownn i ∧ L i = some (.row e t xs))
  | .pt t, x, v, fz, mv => fz = [] ∧ mv = [] ∧ ∃ cs, v = .rptr cs ∧ dec t cs = some x

def InsP (L : Blks) : (ats : List PTy) → DatPs ats → List AV → List Nat → List Nat → Prop
  | [], _, vs, fz, mv => vs = [] ∧ fz = [] ∧ mv = []
  | [p], x, vs, fz, mv => ∃ v, vs = [v] ∧ InP L p x v fz mv
  | p :: q :: ps, x, vs, fz, mv => ∃ v vs' f1 f2 m1 m2, vs = v :: vs' ∧ fz = f1 ++ f2 ∧ mv = m1 ++ m2 ∧ InP L p x.1 v f1 m1 ∧ InsP L (q :: ps) x.2 vs' f2 m2

theorem insRo_inv {agg : Bool} {t : Ty} {av : AV} {k : Dat t → List Nat → Go.R.Qn} {r : AV × List (Nat × Option Blk)} (h : (insRo agg t av k).run L done1 = some r) : ∃ x fz, (k x fz).run L done1 = some r ∧ InP L (.ro agg t) x av fz [] := by
  unfold insRo at h
  obtain ⟨hc, h⟩ := run_cond_inv h
  obtain ⟨cs, fz, h, hf⟩ := frz_inv h
  split at h
  · rename_i x hx
    exact ⟨x, fz, h, rfl, by simpa using (eq_of_beq hc).symm, cs, hf, hx⟩
  · exact (run_fail h).elim

theorem insMv_inv {e : TypeId} {t : Ty} {av : AV} {k : List (Dat t) → List Nat → Go.R.Qn} {r : AV × List (Nat × Option Blk)} (h : (insMv e t av k).run L done1 = some r) : ∃ xs mv, (k xs mv).run L done1 = some r ∧ InP L (.mv e t) xs av [] mv := by
  unfold insMv at h
  split at h
  · exact ⟨[], [], h, rfl, .inl ⟨rfl, rfl, .inl rfl⟩⟩
  · exact ⟨[], [], h, rfl, .inl ⟨rfl, rfl, .inr rfl⟩⟩
  · rename_i id
    replace h := run_ask_inv h
    split at h
    · rename_i e' u xs hl
      split at h
      · rename_i hut
        subst hut
        simp only [castS_self] at h
        obtain ⟨hee, h2⟩ := run_cond_inv h
        obtain rfl := Nat.eq_of_beq_eq_true hee
        exact ⟨xs, [id], h2, rfl, .inr (.inl ⟨id, rfl, rfl, hl⟩)⟩
      · exact (run_fail h).elim
    · exact (run_fail h).elim
  · rename_i id b
    replace h := run_ask_inv h
    split at h
    · rename_i e' u xs hl
      split at h
      · rename_i hut
        subst hut
        simp only [castS_self] at h
        obtain ⟨hee, h2⟩ := run_cond_inv h
        obtain rfl := Nat.eq_of_beq_eq_true hee
        exact ⟨_, [id], h2, rfl, .inr (.inr ⟨id, b, xs, rfl, rfl, hl, rfl⟩)⟩
      · exact (run_fail h).elim
    · exact (run_fail h).elim
  · exact (run_fail h).elim

theorem insMvn_inv {e : TypeId} {t : Ty} {av : AV} {k : List (Dat t) → List Nat → Go.R.Qn} {r : AV × List (Nat × Option Blk)} (h : (insMvn e t av k).run L done1 = some r) : ∃ xs mv, (k xs mv).run L done1 = some r ∧ InP L (.mvn e t) xs av [] mv := by
  unfold insMvn at h
  split at h
  · exact ⟨[], [], h, rfl, .inl ⟨rfl, rfl, rfl⟩⟩
  · rename_i id
    replace h := run_ask_inv h
    split at h
    · rename_i e' u xs hl
      split at h
      · rename_i hut
        subst hut
        simp only [castS_self] at h
        obtain ⟨hee, h2⟩ := run_cond_inv h
        obtain rfl := Nat.eq_of_beq_eq_true hee
        exact ⟨xs, [id], h2, rfl, .inr ⟨id, rfl, rfl, hl⟩⟩
      · exact (run_fail h).elim
    · exact (run_fail h).elim
  · exact (run_fail h).elim

theorem insPt_inv {t : Ty} {av : AV} {k : Dat t → Go.R.Qn} {r : AV × List (Nat × Option Blk)} (h : (insPt t av k).run L done1 = some r) : ∃ x, (k x).run L done1 = some r ∧ InP L (.pt t) x av [] [] := by
  unfold insPt at h
  split at h
  · rename_i cs
    split at h
    · rename_i x hx
      exact ⟨x, h, rfl, rfl, cs, rfl, hx⟩
    · exact (run_fail h).elim
  · exact (run_fail h).elim

theorem ins_inv {r : AV × List (Nat × Option Blk)} : {ats : List PTy} → {avs : List AV} → {k : DatPs ats → List Nat → List Nat → Go.R.Qn} → (ins ats avs k).run L done1 = some r → ∃ x fz mv, (k x fz mv).run L done1 = some r ∧ InsP L ats x avs fz mv
  | [], [], k, h => ⟨(), [], [], h, rfl, rfl, rfl⟩
  | [.ro agg t], [v], k, h => by
    obtain ⟨x, fz, h, hi⟩ := insRo_inv h
    exact ⟨x, fz, [], h, v, rfl, hi⟩
  | [.mv e t], [v], k, h => by
    obtain ⟨x, mv, h, hi⟩ := insMv_inv h
    exact ⟨x, [], mv, h, v, rfl, hi⟩
  | .ro agg t :: q :: ps, v :: vs, k, h => by
    obtain ⟨x, fz, h, hi⟩ := insRo_inv h
    obtain ⟨y, fz', mv, h, hi'⟩ := ins_inv h
    exact ⟨(x, y), fz ++ fz', mv, h, v, vs, fz, fz', [], mv, rfl, rfl, rfl, hi, hi'⟩
  | .mv e t :: q :: ps, v :: vs, k, h => by
    obtain ⟨x, mv, h, hi⟩ := insMv_inv h
    obtain ⟨y, fz', mv', h, hi'⟩ := ins_inv h
    exact ⟨(x, y), fz', mv ++ mv', h, v, vs, [], fz', mv, mv', rfl, rfl, rfl, hi, hi'⟩
  | [.mvn e t], [v], k, h => by
    obtain ⟨x, mv, h, hi⟩ := insMvn_inv h
    exact ⟨x, [], mv, h, v, rfl, hi⟩
  | .mvn e t :: q :: ps, v :: vs, k, h => by
    obtain ⟨x, mv, h, hi⟩ := insMvn_inv h
    obtain ⟨y, fz', mv', h, hi'⟩ := ins_inv h
    exact ⟨(x, y), fz', mv ++ mv', h, v, vs, [], fz', mv, mv', rfl, rfl, rfl, hi, hi'⟩
  | [.mvn _ _], [], k, h => (run_fail (by simpa [ins] using h)).elim
  | [.mvn _ _], _ :: _ :: _, k, h => (run_fail (by simpa [ins] using h)).elim
  | .mvn _ _ :: _ :: _, [], k, h => (run_fail (by simpa [ins] using h)).elim
  | [.pt t], [v], k, h => by
    obtain ⟨x, h, hi⟩ := insPt_inv h
    exact ⟨x, [], [], h, v, rfl, hi⟩
  | .pt t :: q :: ps, v :: vs, k, h => by
    obtain ⟨x, h, hi⟩ := insPt_inv h
    obtain ⟨y, fz', mv', h, hi'⟩ := ins_inv h
    exact ⟨(x, y), fz', mv', h, v, vs, [], fz', [], mv', rfl, rfl, rfl, hi, hi'⟩
  | [.pt _], [], k, h => (run_fail (by simpa [ins] using h)).elim
  | [.pt _], _ :: _ :: _, k, h => (run_fail (by simpa [ins] using h)).elim
  | .pt _ :: _ :: _, [], k, h => (run_fail (by simpa [ins] using h)).elim
  | [], _ :: _, k, h => (run_fail (by simpa [ins] using h)).elim
  | [.ro _ _], [], k, h => (run_fail (by simpa [ins] using h)).elim
  | [.mv _ _], [], k, h => (run_fail (by simpa [ins] using h)).elim
  | [.ro _ _], _ :: _ :: _, k, h => (run_fail (by simpa [ins] using h)).elim
  | [.mv _ _], _ :: _ :: _, k, h => (run_fail (by simpa [ins] using h)).elim
  | .ro _ _ :: _ :: _, [], k, h => (run_fail (by simpa [ins] using h)).elim
  | .mv _ _ :: _ :: _, [], k, h => (run_fail (by simpa [ins] using h)).elim

theorem inP_live {p : PTy} {x : DatP p} {av : AV} {fz mv : List Nat} (h : InP L p x av fz mv) : (∀ id ∈ fz, L id ≠ none) ∧ ∀ id ∈ mv, L id ≠ none := by
  cases p with
  | ro agg t => simp only [InP] at h; obtain ⟨rfl, _, cs, hf, _⟩ := h; exact ⟨hf.live, by simp⟩
  | mv e t =>
    simp only [InP] at h
    obtain ⟨rfl, ⟨_, rfl, _⟩ | ⟨i, rfl, _, hl⟩ | ⟨i, b, ys, rfl, _, hl, _⟩⟩ := h
    · simp
    · exact ⟨by simp, by simp [hl]⟩
    · exact ⟨by simp, by simp [hl]⟩
  | mvn e t =>
    simp only [InP] at h
    obtain ⟨rfl, ⟨_, rfl, _⟩ | ⟨i, rfl, _, hl⟩⟩ := h
    · simp
    · exact ⟨by simp, by simp [hl]⟩
  | pt t =>
    simp only [InP] at h
    obtain ⟨rfl, rfl, _⟩ := h
    simp

theorem insP_live : {ats : List PTy} → {x : DatPs ats} → {avs : List AV} → {fz mv : List Nat} → InsP L ats x avs fz mv → (∀ id ∈ fz, L id ≠ none) ∧ ∀ id ∈ mv, L id ≠ none
  | [], _, _, _, _, h => by simp only [InsP] at h; obtain ⟨_, rfl, rfl⟩ := h; simp
  | [p], _, _, _, _, h => by simp only [InsP] at h; obtain ⟨_, _, h⟩ := h; exact inP_live h
  | p :: q :: ps, _, _, _, _, h => by
    simp only [InsP] at h
    obtain ⟨v, vs', f1, f2, m1, m2, _, rfl, rfl, h1, h2⟩ := h
    have h1 := inP_live h1
    have h2 := insP_live h2
    refine ⟨fun id hid => ?_, fun id hid => ?_⟩
    · rcases List.mem_append.1 hid with hid | hid
      · exact h1.1 id hid
      · exact h2.1 id hid
    · rcases List.mem_append.1 hid with hid | hid
      · exact h1.2 id hid
      · exact h2.2 id hid

/-- An argument, as the callee takes it; its block is that of the row that is handed over. -/
theorem inP_arg {M' : Mem} (hM : M.le M') (hm : SimM E w0 S G M ρ L w) {p : PTy} {x : DatP p} {av : AV} {fz mv : List Nat} (h : InP L p x av fz mv) (hc : ∀ id ∈ fz, ∀ g c, ρ id = some (g, c) → ∀ o v, w.cell? ⟨g, o, none⟩ = some v → M' g o = some v)
    (hmv : ∀ id ∈ mv, ∀ g c, ρ id = some (g, c) → ∀ o, M' g o = none) {u : Value} (hr : Rep M ρ L av u) (hb : Bd G av) : ∃ gs, ArgP M' w p x u gs ∧ (∀ g ∈ gs, ∃ id ∈ mv, ∃ c, ρ id = some (g, c)) ∧ gs.length ≤ 1 := by
  have own : ∀ {e : TypeId} {t : Ty} {i : Nat} {hi : Option Nat} {ys : List (Dat t)}, L i = some (.row e t ys) → OwnV ρ L i 0 hi u → i ∈ mv → ∃ gs, RowV M' w (fun _ => True) e t (view ys 0 hi) u gs ∧ (∀ g ∈ gs, ∃ id ∈ mv, ∃ c, ρ id = some (g, c)) ∧ gs.length ≤ 1 := by
    intro e t i hi ys hl hv him
    have hbk := hm.blk i
    unfold OwnV at hv
    unfold BlkOk at hbk
    rw [hl] at hv hbk
    dsimp only at hv hbk
    obtain ⟨A, c, rfl, hin, hcase⟩ := hv
    have hvl := view_length ys 0 hi hin
    rcases hcase with ⟨h0, h1⟩ | ⟨g, cap, hr', hA, hcap⟩
    · exact ⟨[], ⟨A, c, by rw [hvl], .inl ⟨h0, List.eq_nil_of_length_eq_zero (by rw [hvl]; exact vlen_end hin h1), rfl⟩⟩, by simp, by simp⟩
    · rw [hr'] at hbk
      obtain ⟨hpos, cur, hg, k1, k2, k3, k4⟩ := hbk
      have hXn : vlen ys.length 0 hi ≤ ys.length := by
        cases hi with
        | none => simp [vlen]
        | some b => simp only [vlen, inView] at *; omega
      refine ⟨[g], ⟨A, c, by rw [hvl], .inr ⟨g, cur, by rw [hA]; simp, rfl, trivial, hmv i him g cap hr', hpos, hg, by omega, by omega, by rw [k3]; congr 1; omega, fun j x hx => ?_⟩⟩, fun g' hg' => ?_, by simp⟩
      · have := view_get ys 0 hi j x hx
        rw [Nat.zero_add] at this
        exact (k4.mono hM) j x this
      · simp at hg'; subst hg'; exact ⟨i, him, cap, hr'⟩
  cases p with
  | ro agg t =>
    simp only [InP] at h
    obtain ⟨rfl, ha, cs, hf, hd⟩ := h
    refine ⟨[], ?_, by simp, by simp⟩
    simp only [ArgP]
    obtain ⟨hcr, _⟩ := rep_cells hr (hf.one (dec_one hd))
    have hrep := RepS.of_dec hd (hf.rep hM hm hc (BdL_cells hb) hcr)
    refine ⟨trivial, _, ?_, fun e => ?_, hrep⟩
    · cases av <;> simp only [AV.isAgg] at ha <;> subst ha <;> simp only [oneV]
      case agg c => simp only [Rep] at hr; obtain ⟨us, rfl, _⟩ := hr; simp [Value.cells]
      all_goals
        have hone := hf.one (dec_one hd)
        simp only [AV.cells, List.all_cons, List.all_nil, Bool.and_true] at hone
        rw [(rep_one hr hone).2]
        rfl
    · subst e
      have hl := hcr.length
      cases av <;> simp only [AV.isAgg] at ha <;> simp_all [AV.cells]
  | mv e t =>
    simp only [InP] at h
    obtain ⟨rfl, ⟨rfl, rfl, hv⟩ | ⟨i, rfl, rfl, hl⟩ | ⟨i, b, ys, rfl, rfl, hl, rfl⟩⟩ := h
    · have : ∃ A, u = .slice A 0 0 := by
        rcases hv with rfl | rfl
        · simp only [Rep] at hr; exact ⟨_, hr⟩
        · simp only [Rep] at hr; exact hr
      obtain ⟨A, rfl⟩ := this
      exact ⟨[], ⟨A, 0, rfl, .inl ⟨rfl, rfl, rfl⟩⟩, by simp, by simp⟩
    · simp only [Rep] at hr
      have := own hl hr (by simp)
      simpa [view, ArgP] using this
    · simp only [Rep] at hr
      have := own hl hr (by simp)
      simpa [view, ArgP] using this
  | mvn e t =>
    simp only [InP] at h
    obtain ⟨rfl, ⟨rfl, rfl, rfl⟩ | ⟨i, rfl, rfl, hl⟩⟩ := h
    · simp only [Rep] at hr
      subst hr
      exact ⟨[], ⟨⟨none, 0, rfl, .inl ⟨rfl, rfl, rfl⟩⟩, fun _ => rfl⟩, by simp, by simp⟩
    · simp only [Rep] at hr
      obtain ⟨gs, k1, k2, k3⟩ := own hl hr.1 (by simp)
      exact ⟨gs, ⟨by simpa [view] using k1, fun hx => hr.2 e t (by rw [hl, hx])⟩, k2, k3⟩
  | pt t =>
    simp only [InP] at h
    obtain ⟨rfl, rfl, cs, rfl, hd⟩ := h
    simp only [Rep] at hr
    obtain ⟨ad, us, h1, h2, h3, h4⟩ := hr
    exact ⟨[], ⟨rfl, ad, us, h1, h2, (RepS.of_dec hd h3).mono hM, fun j u hu => hM.at (h4 j u hu)⟩, by simp, by simp⟩

theorem nodup_le_one {gs : List Nat} (h : gs.length ≤ 1) : gs.Nodup := by
  match gs, h with
  | [], _ => exact List.nodup_nil
  | [g], _ => simp

theorem insP_args {M' : Mem} (hM : M.le M') (hm : SimM E w0 S G M ρ L w) : {ats : List PTy} → {x : DatPs ats} → {avs : List AV} → {fz mv : List Nat} → InsP L ats x avs fz mv → (∀ id ∈ fz, ∀ g c, ρ id = some (g, c) → ∀ o v, w.cell? ⟨g, o, none⟩ = some v → M' g o = some v) →
    (∀ id ∈ mv, ∀ g c, ρ id = some (g, c) → ∀ o, M' g o = none) → mv.Nodup → ∀ {us : List Value}, RepL M ρ L avs us → BdL G avs → ∃ gs, ArgsP M' w ats x us gs ∧ gs.Nodup ∧ ∀ g ∈ gs, ∃ id ∈ mv, ∃ c, ρ id = some (g, c)
  | [], _, _, _, _, h, _, _, _, us, hr, _ => by
    simp only [InsP] at h
    obtain ⟨rfl, rfl, rfl⟩ := h
    simp only [RepL] at hr
    exact ⟨[], ⟨hr, rfl⟩, List.nodup_nil, by simp⟩
  | [p], _, _, _, _, h, hc, hmv, _, us, hr, hb => by
    simp only [InsP] at h
    obtain ⟨v, rfl, h⟩ := h
    simp only [RepL, BdL] at hr hb
    obtain ⟨u, _, rfl, hr, rfl⟩ := hr
    obtain ⟨gs, k1, k2, k3⟩ := inP_arg hM hm h hc hmv hr hb.1
    exact ⟨gs, ⟨u, rfl, k1⟩, nodup_le_one k3, k2⟩
  | p :: q :: ps, _, _, _, _, h, hc, hmv, hnd, us, hr, hb => by
    simp only [InsP] at h
    obtain ⟨v, vs', f1, f2, m1, m2, rfl, rfl, rfl, h1, h2⟩ := h
    simp only [RepL, BdL] at hr hb
    obtain ⟨u, us', rfl, hr1, hr2⟩ := hr
    rw [List.nodup_append] at hnd
    obtain ⟨n1, n2, n3⟩ := hnd
    obtain ⟨g1, k1, k2, k3⟩ := inP_arg hM hm h1 (fun id hid => hc id (List.mem_append_left _ hid)) (fun id hid => hmv id (List.mem_append_left _ hid)) hr1 hb.1
    obtain ⟨g2, j1, j2, j3⟩ := insP_args hM hm h2 (fun id hid => hc id (List.mem_append_right _ hid)) (fun id hid => hmv id (List.mem_append_right _ hid)) n2 hr2 hb.2
    refine ⟨g1 ++ g2, ⟨u, us', g1, g2, rfl, rfl, k1, j1⟩, ?_, fun g hg => ?_⟩
    · rw [List.nodup_append]
      refine ⟨nodup_le_one k3, j2, fun a ha b hb' e => ?_⟩
      subst e
      obtain ⟨i1, hi1, c1, r1⟩ := k2 a ha
      obtain ⟨i2, hi2, c2, r2⟩ := j3 a hb'
      have l1 := (inP_live h1).2 i1 hi1
      have l2 := (insP_live h2).2 i2 hi2
      exact n3 i1 hi1 i2 hi2 (hm.inj i1 i2 l1 l2 a c1 c2 r1 r2)
    · rcases List.mem_append.1 hg with hg | hg
      · obtain ⟨id, hid, c, hr'⟩ := k2 g hg; exact ⟨id, List.mem_append_left _ hid, c, hr'⟩
      · obtain ⟨id, hid, c, hr'⟩ := j3 g hg; exact ⟨id, List.mem_append_right _ hid, c, hr'⟩

end
end Go.R

/- A call by its contract. -/
namespace Go.R
open Go

section
variable {P : Program} {E : Env} {w0 : Start} {S G : Nat → Prop} {M : Mem} {ρ : Places} {L : Blks} {w : World} {X : Exit → Act → World → Prop} {o : Oper} {a : Act} {fr : List AV} {fs : List (List AV)} {susp : List (List Value)} {v : AV} {d : List (Nat × Option Blk)}

theorem RepS.noSlice {M M2 : Mem} : {t : Ty} → {x : Dat t} → {vs : List Value} → t.noSlice = true → RepS M t x vs → RepS M2 t x vs
  | .int _, _, _, _, h => h
  | .bool, _, _, _, h => h
  | .flt, _, _, hn, _ => by simp [Ty.noSlice] at hn
  | .str, _, _, _, h => h
  | .slice _, _, _, hn, _ => by simp [Ty.noSlice] at hn
  | .nsl _, _, _, hn, _ => by simp [Ty.noSlice] at hn
  | .err, _, _, hn, _ => by simp [Ty.noSlice] at hn
  | .pair a b, p, vs, hn, h => by
    simp only [Ty.noSlice, Bool.and_eq_true] at hn
    simp only [RepS] at h ⊢
    obtain ⟨v1, v2, e, h1, h2⟩ := h
    exact ⟨v1, v2, e, RepS.noSlice hn.1 h1, RepS.noSlice hn.2 h2⟩
  | .unit, _, _, _, h => h

theorem le_none {M M' : Mem} (h : M.le M') {g o : Nat} (hn : M' g o = none) : M g o = none := by
  cases hm : M g o with
  | none => rfl
  | some v => rw [h.at hm] at hn; cases hn

theorem RowV.flat {M M' : Mem} (hM : M.le M') {F : Nat → Prop} {e : TypeId} {t : Ty} {xs : List (Dat t)} {u : Value} {gs : List Nat} (hn : t.noSlice = true) (h : RowV M' w F e t xs u gs) : RowV M w F e t xs u gs := by
  obtain ⟨A, c, rfl, hc | ⟨g, cur, rfl, rfl, hf, hm, hpos, hg, h1, h2, h3, h4⟩⟩ := h
  · exact ⟨A, c, rfl, .inl hc⟩
  · exact ⟨_, c, rfl, .inr ⟨g, cur, rfl, rfl, hf, fun o => le_none hM (hm o), hpos, hg, h1, h2, h3, fun i x hx => let ⟨cs, a, b⟩ := h4 i x hx; ⟨cs, a.noSlice hn, b⟩⟩⟩

theorem OutS.flat {M M' : Mem} (hM : M.le M') {F : Nat → Prop} : {t : Ty} → {x : Dat t} → {es es' : List TypeId} → {us : List Value} → {gs : List Nat} → t.flat = true → OutS M' w F t x es es' us gs → OutS M w F t x es es' us gs
  | .int _, _, _, _, _, _, _, h => h
  | .bool, _, _, _, _, _, _, h => h
  | .flt, _, _, _, _, _, _, h => h
  | .str, _, _, _, _, _, _, h => h
  | .unit, _, _, _, _, _, _, h => h
  | .err, _, _, _, _, _, _, h => h
  | .slice t, xs, _, _, _, _, hn, h => by
    simp only [OutS] at h ⊢
    obtain ⟨e, v, h1, h2, h3⟩ := h
    exact ⟨e, v, h1, h2, h3.flat hM hn⟩
  | .pair a b, p, _, _, _, _, hn, h => by
    simp only [Ty.flat, Bool.and_eq_true] at hn
    simp only [OutS] at h ⊢
    obtain ⟨em, v1, v2, g1, g2, h1, h2, h3, h4⟩ := h
    exact ⟨em, v1, v2, g1, g2, h1, h2, OutS.flat hM hn.1 h3, OutS.flat hM hn.2 h4⟩

theorem OutsP.flat {M M' : Mem} (hM : M.le M') {F : Nat → Prop} : {rts : List RTy} → {x : DatRs rts} → {vs : List Value} → {gs : List Nat} → (rts.all fun r => r.t.flat) = true → OutsP M' w F rts x vs gs → OutsP M w F rts x vs gs
  | [], _, _, _, _, h => h
  | [r], _, _, _, hn, h => by
    simp only [List.all_cons, List.all_nil, Bool.and_true] at hn
    simp only [OutsP] at h ⊢
    obtain ⟨v, h1, us, h2, h3, h4⟩ := h
    exact ⟨v, h1, us, h2, h3, h4.flat hM hn⟩
  | r :: q :: rs, _, _, _, hn, h => by
    rw [List.all_cons, Bool.and_eq_true] at hn
    simp only [OutsP] at h ⊢
    obtain ⟨v, vs', g1, g2, h1, h2, ⟨us, h3, h4, h5⟩, h6⟩ := h
    exact ⟨v, vs', g1, g2, h1, h2, ⟨us, h3, h4, h5.flat hM hn.1⟩, OutsP.flat hM hn.2 h6⟩

theorem distinct_nodup : {l : List Nat} → distinct l = true → l.Nodup
  | [], _ => List.nodup_nil
  | a :: l, h => by
    simp only [distinct, Bool.and_eq_true, Bool.not_eq_true'] at h
    refine List.nodup_cons.2 ⟨fun hm => ?_, distinct_nodup h.2⟩
    have : l.any (Nat.beq a) = true := List.any_eq_true.2 ⟨a, hm, Nat.beq_refl a⟩
    rw [this] at h
    cases h.1

theorem not_any {l : List Nat} {i : Nat} (h : (!(l.any (Nat.beq i))) = true) : i ∉ l := fun hm => by
  have : l.any (Nat.beq i) = true := List.any_eq_true.2 ⟨i, hm, Nat.beq_refl i⟩
  rw [this] at h
  cases h

/-- A block keeps its kind. -/
def Shape : Option Blk → Blk → Prop
  | some (.row e t xs), .row e' t' xs' => e = e' ∧ t = t' ∧ List.length xs = List.length xs'
  | some (.box e cs), .box e' cs' => e = e' ∧ cs.length = cs'.length
  | _, _ => False

/-- The numbers that come are new ones. -/
def IdsOk (L : Blks) (base : Nat) (d : List (Nat × Option Blk)) : Prop := ∀ i b, (i, some b) ∈ d → (base ≤ i ∧ i < base + d.length) ∨ Shape (L i) b

theorem pcall_ids {C : Cal} {avs : List AV} {base : Nat} (h : (pcallQ C base avs).run L done1 = some (v, d)) : IdsOk L base d := by
  unfold pcallQ at h
  obtain ⟨x, fz, mv, h, _⟩ := ins_inv h
  obtain ⟨_, h⟩ := run_cond_inv h
  cases hF : C.F x with
  | none => rw [hF] at h; simp [Qn.run] at h
  | some r =>
    rw [hF] at h
    simp only [Qn.run, Option.bind_some] at h
    generalize outs base C.rts r = q at h
    obtain ⟨os, d1⟩ := q
    obtain ⟨hids, h⟩ := run_cond_inv h
    simp only [Qn.run, done1, Option.some.injEq, Prod.mk.injEq] at h
    obtain ⟨rfl, rfl⟩ := h
    intro i b hi
    rcases List.mem_append.1 hi with hi | hi
    · have := List.all_eq_true.1 hids _ hi
      simp only [Bool.and_eq_true] at this
      have h1 := Nat.le_of_ble_eq_true this.1
      have h2 : i < base + d1.length := by simpa using this.2
      rw [List.length_append]
      exact .inl ⟨h1, by omega⟩
    · simp [kills] at hi

/-- A call has gone by: blocks of kl are gone; what the callee was given was gs. -/
theorem SimM.call (h : SimM E w0 S G M ρ L w) {kl gs : List Nat} {M' : Mem} {w' : World} (hle : M.le M') (hmem : MemOk M' w') (hkp : Kp w w' (· ∈ gs)) (hgs : ∀ g ∈ gs, w0.heap.size ≤ g ∨ S g) (hnew : ∀ b o u, M' b o = some u → w0.m b o = some u ∨ w0.heap.size ≤ b ∨ S b)
    (hout : ∀ id, id ∉ kl → L id ≠ none → ∀ g c, ρ id = some (g, c) → g ∉ gs ∧ ∀ o, M' g o = none) :
    SimM E w0 S G M' ρ (ov (kills kl) L) w' ∧ Still G ρ L ρ (ov (kills kl) L) := by
  have hlive : ∀ id, ov (kills kl) L id ≠ none → id ∉ kl ∧ L id ≠ none := fun id hl => by
    by_cases hi : id ∈ kl
    · exact absurd (ov_kills_in hi) hl
    · exact ⟨hi, by rwa [ov_kills_out hi] at hl⟩
  have hst : Still G ρ L ρ (ov (kills kl) L) := fun id hg => by
    by_cases hi : id ∈ kl
    · exact .inl (ov_kills_in hi)
    · rw [ov_kills_out hi]; exact Still.refl_of id hg
  refine ⟨⟨hmem, ?_, fun g c hg => (h.glob g c hg).mono hle, fun id hl g c hr => ?_, fun id id' hl1 hl2 => h.inj id id' (hlive id hl1).2 (hlive id' hl2).2, fun id => ?_, fun id e cs hl => ?_, fun id hl => h.live id (hlive id hl).2, Mem.le_trans h.le hle, hnew⟩, hst⟩
  · refine ⟨hkp.os.trans h.kp.os, hkp.tape.trans h.kp.tape, hkp.output.trans h.kp.output, Nat.le_trans h.kp.size hkp.size, DrawLe.trans h.kp.drawn hkp.drawn, fun k hk hs => ?_⟩
    rw [hkp.block k (Nat.lt_of_lt_of_le hk h.kp.size) (fun hm => by
      rcases hgs k hm with h1 | h1
      · omega
      · exact hs h1)]
    exact h.kp.block k hk hs
  · obtain ⟨hn, hl⟩ := hlive id hl
    exact ⟨(h.own id hl g c hr).1, (hout id hn hl g c hr).2⟩
  · by_cases hi : id ∈ kl
    · simp [BlkOk, ov_kills_in hi]
    · exact (h.blk id).keep (ov_kills_out hi) rfl hle hst (h.bbx id) (fun hl g c hr => hkp.block g (h.place_lt hl hr) (hout id hi hl g c hr).1)
  · have := hlive id (by rw [hl]; simp)
    exact h.bbx id e cs (by rw [← hl, ov_kills_out this.1])

theorem rep_tup {os : List AV} {vs : List Value} (h : RepL M ρ L os vs) : Rep M ρ L (tupOf os) (retV vs) := by
  match os, h with
  | [], h => simp only [RepL] at h; subst h; simp [tupOf, retV, Rep, RepL]
  | [a], h => obtain ⟨u, rfl, hu⟩ := RepL_one h; exact hu
  | a :: b :: os, h =>
    have hl := h.length
    match vs, hl with
    | u :: v :: vs, _ => simp only [tupOf, retV, Rep]; exact ⟨_, rfl, by simpa using h⟩

theorem bd_tup {os : List AV} (h : BdL G os) : Bd G (tupOf os) := by
  match os, h with
  | [], h => simp [tupOf, Bd, BdL]
  | [a], h => simp only [BdL] at h; exact h.1
  | a :: b :: os, h => simpa [tupOf, Bd] using h

theorem pcall_sound (hm : SimM E w0 S G M ρ L w) {C : Cal} (hC : CalOk P E.gs C) {avs : List AV} {us : List Value} (hr : RepL M ρ L avs us) (hb : BdL G avs) {base : Nat} (hn : ∀ i, base ≤ i → i < base + d.length → ¬ G i)
    (h : (pcallQ C base avs).run L done1 = some (v, d)) : Calls P C.f us.toArray w (fun e w' => ∃ v', e = .returned v' ∧ After E w0 S G M ρ L d v v' w') := by
  unfold pcallQ at h
  obtain ⟨x, fz, mv, h, hin⟩ := ins_inv h
  obtain ⟨hc, h⟩ := run_cond_inv h
  simp only [Bool.and_eq_true, List.all_eq_true] at hc
  obtain ⟨hc1, hc2⟩ := hc
  have hnd := distinct_nodup hc1
  have hdis : ∀ i ∈ mv, i ∉ fz := fun i hi => not_any (hc2 i hi)
  cases hF : C.F x with
  | none => rw [hF] at h; simp [Qn.run] at h
  | some r =>
    rw [hF] at h
    simp only [Qn.run, Option.bind_some] at h
    generalize hos : outs base C.rts r = q at h
    obtain ⟨os, d1⟩ := q
    obtain ⟨hids, h⟩ := run_cond_inv h
    simp only [Qn.run, done1, Option.some.injEq, Prod.mk.injEq] at h
    obtain ⟨rfl, rfl⟩ := h
    have hlv := insP_live hin
    -- the memory that the callee is given
    have hle := freezeS_le hm (I := fun q => q ∈ fz) hlv.1
    have hok := freezeS_ok hm (I := fun q => q ∈ fz)
    have hmv : ∀ id ∈ mv, ∀ g c, ρ id = some (g, c) → ∀ o, freezeS w M ρ (fun q => q ∈ fz) g o = none := fun id hid g c hr' o => by
      unfold freezeS
      rw [if_neg]
      · exact (hm.own id (hlv.2 id hid) g c hr').2 o
      · rintro ⟨id', hi', c', hr2⟩
        exact hdis id hid (by rw [hm.inj id id' (hlv.2 id hid) (hlv.1 id' hi') g c c' hr' hr2]; exact hi')
    obtain ⟨gs, ha, hgn, hgs⟩ := insP_args hle hm hin (fun id hid g c hr' o v hv => freezeS_cells (I := fun q => q ∈ fz) hid hr' hv) hmv hnd hr hb
    have hglob : GlobOk (freezeS w M ρ (fun q => q ∈ fz)) E.gs := fun g c hg => (hm.glob g c hg).mono hle
    refine (hC.run _ w x us gs r hok hglob ha hgn hF).mono fun e w' hret => ?_
    obtain ⟨v', M', rfl, hret⟩ := hret
    refine ⟨v', rfl, ?_⟩
    obtain ⟨vs, hs, rfl, hsn, hout⟩ := hret.out
    have hgsS : ∀ g ∈ gs, w0.heap.size ≤ g ∨ S g := fun g hg => by
      obtain ⟨id, hid, c, hr'⟩ := hgs g hg
      exact (hm.own id (hlv.2 id hid) g c hr').1
    -- the memory and the blocks behind the call
    have key : ∃ M2, ∃ kl, kl = mv ++ _root_.cond (C.rts.all fun r => r.t.flat) [] fz ∧ M.le M2 ∧ MemOk M2 w' ∧ OutsP M2 w' (fun g => w.heap.size ≤ g ∨ g ∈ gs) C.rts r vs hs ∧
        (∀ id, id ∉ kl → L id ≠ none → ∀ g c, ρ id = some (g, c) → g ∉ gs ∧ ∀ o, M2 g o = none) ∧ ∀ b o u, M2 b o = some u → w0.m b o = some u ∨ w0.heap.size ≤ b ∨ S b := by
      have notgs : ∀ id, id ∉ mv → L id ≠ none → ∀ g c, ρ id = some (g, c) → g ∉ gs := fun id hid hl g c hr' hg => by
        obtain ⟨id', hid', c', hr2⟩ := hgs g hg
        exact hid (by rw [hm.inj id id' hl (hlv.2 id' hid') g c c' hr' hr2]; exact hid')
      cases hfl : (C.rts.all fun r => r.t.flat) with
      | true =>
        refine ⟨M, _, rfl, Mem.le_refl _, hm.mem.kp hret.kp fun b hb o => (let ⟨id, hid, c, hr'⟩ := hgs b hb; (hm.own id (hlv.2 id hid) b c hr').2 o), hout.flat (Mem.le_trans hle hret.le) hfl, fun id hid hl g c hr' => ?_, hm.new⟩
        simp only [cond_true, List.append_nil] at hid
        exact ⟨notgs id hid hl g c hr', (hm.own id hl g c hr').2⟩
      | false =>
        refine ⟨M', _, rfl, Mem.le_trans hle hret.le, hret.mem, hout, fun id hid hl g c hr' => ?_, fun b o u hu => ?_⟩
        rotate_left
        · rcases hret.new _ _ _ hu with h1 | h1 | h1
          · unfold freezeS at h1
            split at h1
            · rename_i hx
              obtain ⟨id, hi, c, hr⟩ := hx
              exact .inr (hm.own id (hlv.1 id hi) b c hr).1
            · exact hm.new b o u h1
          · exact .inr (.inl (Nat.le_trans hm.kp.size h1))
          · exact .inr (hgsS b h1)
        simp only [cond_false, List.mem_append, not_or] at hid
        refine ⟨notgs id hid.1 hl g c hr', fun o => ?_⟩
        cases hM' : M' g o with
        | none => rfl
        | some u =>
          rcases hret.new _ _ _ hM' with h1 | h1 | h1
          · unfold freezeS at h1
            rw [if_neg] at h1
            · rw [(hm.own id hl g c hr').2 o] at h1; cases h1
            · rintro ⟨id', hi', c', hr2⟩
              exact hid.2 (by rw [hm.inj id id' hl (hlv.1 id' hi') g c c' hr' hr2]; exact hi')
          · exact absurd (hm.place_lt hl hr') (Nat.not_lt.2 h1)
          · exact absurd h1 (notgs id hid.1 hl g c hr')
    obtain ⟨M2, kl, hkl, k1, k2, k3, k4, k5⟩ := key
    rw [← hkl]
    obtain ⟨s1, s2⟩ := hm.call k1 k2 hret.kp hgsS k5 k4
    have hF : ∀ g, (w.heap.size ≤ g ∨ g ∈ gs) → w0.heap.size ≤ g ∨ S g := fun g hg => by
      rcases hg with hg | hg
      · exact .inl (Nat.le_trans hm.kp.size hg)
      · exact hgsS g hg
    have hFs : ∀ {rts : List RTy} {x : DatRs rts} {vs : List Value} {hs : List Nat}, OutsP M2 w' (fun g => w.heap.size ≤ g ∨ g ∈ gs) rts x vs hs → ∀ g ∈ hs, w.heap.size ≤ g ∨ g ∈ gs := by
      have hrow : ∀ {e : TypeId} {t : Ty} {xs : List (Dat t)} {u : Value} {hs : List Nat}, RowV M2 w' (fun g => w.heap.size ≤ g ∨ g ∈ gs) e t xs u hs → ∀ g ∈ hs, w.heap.size ≤ g ∨ g ∈ gs := by
        intro e t xs u hs h g hg
        obtain ⟨A, c, _, ⟨_, _, rfl⟩ | ⟨g', cur, _, rfl, hf, _⟩⟩ := h
        · simp at hg
        · simp at hg; subst hg; exact hf
      have hS : ∀ {t : Ty} {x : Dat t} {es es' : List TypeId} {us : List Value} {hs : List Nat}, OutS M2 w' (fun g => w.heap.size ≤ g ∨ g ∈ gs) t x es es' us hs → ∀ g ∈ hs, w.heap.size ≤ g ∨ g ∈ gs := by
        intro t
        induction t with
        | int => intro x es es' us hs h; simp only [OutS] at h; simp [h.2.2]
        | bool => intro x es es' us hs h; simp only [OutS] at h; simp [h.2.2]
        | str => intro x es es' us hs h; simp only [OutS] at h; simp [h.2.2]
        | unit => intro x es es' us hs h; simp only [OutS] at h; simp [h.2.2]
        | slice t _ => intro x es es' us hs h; simp only [OutS] at h; obtain ⟨e, u, _, _, h⟩ := h; exact hrow h
        | nsl t _ => intro x es es' us hs h; simp only [OutS] at h; simp [h.2.2]
        | err => intro x es es' us hs h; simp only [OutS] at h; simp [h.2.2]
        | flt => intro x es es' us hs h; simp only [OutS] at h; simp [h.2.2]
        | pair a b iha ihb =>
          intro x es es' us hs h g hg
          simp only [OutS] at h
          obtain ⟨em, v1, v2, g1, g2, _, rfl, h1, h2⟩ := h
          rcases List.mem_append.1 hg with hg | hg
          · exact iha h1 g hg
          · exact ihb h2 g hg
      intro rts
      induction rts with
      | nil => intro x vs hs h; simp only [OutsP] at h; simp [h.2]
      | cons r rs ih =>
        intro x vs hs h g hg
        cases rs with
        | nil => simp only [OutsP] at h; obtain ⟨v, _, us, _, _, h⟩ := h; exact hS h g hg
        | cons q rs =>
          simp only [OutsP] at h
          obtain ⟨v, vs', g1, g2, _, rfl, ⟨us, _, _, h1⟩, h2⟩ := h
          rcases List.mem_append.1 hg with hg | hg
          · exact hS h1 g hg
          · exact ih h2 g hg
    obtain ⟨ρ', c1, c2, c3, _⟩ := outs_in hF k3 hsn s1 (fun id hl g c hr' hg => by
      have hid : id ∉ kl ∧ L id ≠ none := by
        by_cases hi : id ∈ kl
        · exact absurd (ov_kills_in hi) hl
        · exact ⟨hi, by rwa [ov_kills_out hi] at hl⟩
      rcases hFs k3 g hg with h1 | h1
      · exact absurd (hm.place_lt hid.2 hr') (Nat.not_lt.2 h1)
      · exact (k4 id hid.1 hid.2 g c hr').1 h1) (fun i h1 h2 => hn i h1 (by rw [List.length_append]; omega)) hos
    refine ⟨⟨M2, ρ', k1, ?_, ?_, ?_⟩, ?_⟩
    · rw [ov_append]; exact rep_tup c2
    · rw [ov_append, grow_append, grow_kills]; exact c1.sim
    · rw [ov_append]; exact s2.trans c1.still
    · rw [grow_append, grow_kills]; exact bd_tup c3

end
end Go.R

/- Calls that change a row in its place. -/
namespace Go.R
open Go

section
variable {P : Program} {E : Env} {w0 : Start} {S G : Nat → Prop} {M : Mem} {ρ : Places} {L : Blks} {w : World} {v : AV} {d : List (Nat × Option Blk)}

/-- What is captured, as data. -/
def MCaps (M : Mem) (w : World) (C : MCal) (us : List Value) (x : DatPs C.cts) : Prop :=
  ∃ cvs, us = (match C.g with | some g => [.func (.func g) #[] cvs.toArray] | none => []) ∧ ArgsP M w C.cts x cvs []

theorem mcaps_inv (hm : SimM E w0 S G M ρ L w) {C : MCal} {avs : List AV} {us : List Value} (hr : RepL M ρ L avs us) (hb : BdL G avs) {k : DatPs C.cts → Go.R.Qn} {r : AV × List (Nat × Option Blk)} (h : (mcapsQ C avs k).run L done1 = some r) :
    ∃ x, (k x).run L done1 = some r ∧ MCaps M w C us x := by
  unfold mcapsQ at h
  have fin : ∀ {caps : List AV} {cvs : List Value}, RepL M ρ L caps cvs → BdL G caps → (ins C.cts caps fun x fz mv => cond (fz.isEmpty && mv.isEmpty) (k x) .fail).run L done1 = some r → ∃ x, (k x).run L done1 = some r ∧ ArgsP M w C.cts x cvs [] := by
    intro caps cvs hcr hcb h
    obtain ⟨x, fz, mv, h, hi⟩ := ins_inv h
    obtain ⟨hc, h⟩ := run_cond_inv h
    simp only [Bool.and_eq_true, List.isEmpty_iff] at hc
    obtain ⟨rfl, rfl⟩ := hc
    obtain ⟨gs, k1, _, k3⟩ := insP_args (Mem.le_refl M) hm hi (by simp) (by simp) List.nodup_nil hcr hcb
    have : gs = [] := by
      cases gs with
      | nil => rfl
      | cons g gs => obtain ⟨_, hid, _⟩ := k3 g (by simp); simp at hid
    subst this
    exact ⟨x, h, k1⟩
  split at h
  · rename_i hg
    obtain ⟨x, h1, h2⟩ := fin (caps := []) (cvs := []) (by simp [RepL]) (by simp [BdL]) h
    simp only [RepL] at hr
    exact ⟨x, h1, [], by rw [hg, hr], h2⟩
  · rename_i g g' caps hg
    obtain ⟨hgg, h2⟩ := run_cond_inv h
    obtain rfl := Nat.eq_of_beq_eq_true hgg
    clear h
    obtain ⟨u, rfl, hu⟩ := RepL_one hr
    simp only [Rep] at hu
    obtain ⟨cv, rfl, hcr⟩ := hu
    simp only [BdL, Bd] at hb
    obtain ⟨x, h1, h3⟩ := fin hcr hb.1 h2
    exact ⟨x, h1, cv.toList, by rw [hg], h3⟩
  · exact (run_fail h).elim

/-- The row behind the call. -/
theorem row_back (hm : SimM E w0 S G M ρ L w) {id : Nat} {e : TypeId} {t : Ty} {xs ys : List (Dat t)} (hl : L id = some (.row e t xs)) {u : Value} {gs : List Nat} (hlen : ys.length = xs.length)
    (hgs : gs = [] ∨ ∃ g cap, gs = [g] ∧ ρ id = some (g, cap) ∧ u = .slice (some ⟨g, 0, none⟩) xs.length cap) {w' : World}
    (hmem : MemOk M w') (hkp : Kp w w' (· ∈ gs)) (hrow : RowV M w' (fun _ => True) e t ys u gs) :
    SimM E w0 S G M ρ (upd L id (some (.row e t ys))) w' ∧ Still G ρ L ρ (upd L id (some (.row e t ys))) := by
  have hlive : ∀ q, upd L id (some (.row e t ys)) q ≠ none → L q ≠ none := fun q hq => by
    by_cases e : q = id
    · rw [e, hl]; simp
    · rwa [upd_other _ _ e] at hq
  have hin : ∀ g ∈ gs, ∃ c, ρ id = some (g, c) := fun g hg => by
    rcases hgs with rfl | ⟨g', cap, rfl, hr, _⟩
    · simp at hg
    · simp only [List.mem_singleton] at hg; subst hg; exact ⟨cap, hr⟩
  have hst : Still G ρ L ρ (upd L id (some (.row e t ys))) := fun q _ => by
    by_cases e : q = id
    · subst e; rw [upd_same, hl]; exact .inr ⟨⟨rfl, hlen.symm⟩, rfl⟩
    · rw [upd_other _ _ e]; exact Still.refl_of (G := fun _ => True) q trivial
  refine ⟨⟨hmem, ?_, hm.glob, fun q hq => hm.own q (hlive q hq), fun q q' h1 h2 => hm.inj q q' (hlive q h1) (hlive q' h2), fun q => ?_, fun q e' cs hq => ?_, fun q hq => hm.live q (hlive q hq), hm.le, hm.new⟩, hst⟩
  · refine ⟨hkp.os.trans hm.kp.os, hkp.tape.trans hm.kp.tape, hkp.output.trans hm.kp.output, Nat.le_trans hm.kp.size hkp.size, DrawLe.trans hm.kp.drawn hkp.drawn, fun k hk hs => ?_⟩
    rw [hkp.block k (Nat.lt_of_lt_of_le hk hm.kp.size) (fun hg => by
      obtain ⟨c, hr⟩ := hin k hg
      rcases (hm.own id (by rw [hl]; simp) k c hr).1 with h1 | h1
      · omega
      · exact hs h1)]
    exact hm.kp.block k hk hs
  · by_cases e' : q = id
    · subst e'
      simp only [BlkOk, upd_same]
      have hbk := hm.blk q
      unfold BlkOk at hbk
      rw [hl] at hbk
      dsimp only at hbk
      obtain ⟨A', c', heq, hrow⟩ := hrow
      rcases hgs with rfl | ⟨g, cap, rfl, hr, rfl⟩
      · have hy0 : ys = [] := by
          rcases hrow with ⟨_, h, _⟩ | ⟨_, _, _, h, _⟩
          · exact h
          · simp at h
        subst hy0
        cases hr : ρ q with
        | none => rfl
        | some p =>
          obtain ⟨g, cap⟩ := p
          rw [hr] at hbk
          dsimp only at hbk ⊢
          obtain ⟨h0, cur, h1, h2, h3, h4, h5⟩ := hbk
          refine ⟨h0, cur, ?_, by simp, h3, h4, fun i x hx => by simp at hx⟩
          rw [hkp.block g (hm.place_lt (by rw [hl]; simp) hr) (by simp)]
          exact h1
      · rw [hr]
        simp only [Value.slice.injEq] at heq
        obtain ⟨rfl, _, rfl⟩ := heq
        rcases hrow with ⟨_, _, h⟩ | ⟨g', cur', hA, hg2, _, _, hpos, hg', q1, q2, q3, q4⟩
        · simp at h
        · simp only [List.cons.injEq, and_true] at hg2
          subst hg2
          exact ⟨hpos, cur', hg', q1, q2, q3, q4⟩
    · exact (hm.blk q).keep (upd_other _ _ e') rfl (Mem.le_refl _) hst (hm.bbx q) (fun hq g c hr => hkp.block g (hm.place_lt hq hr) (fun hg => by
        obtain ⟨c2, hr2⟩ := hin g hg
        exact e' (hm.inj q id hq (by rw [hl]; simp) g c c2 hr hr2)))
  · by_cases e : q = id
    · subst e; rw [upd_same] at hq; cases hq
    · rw [upd_other _ _ e] at hq; exact hm.bbx q e' cs hq

theorem rep_unit : Rep M ρ L (.tup []) (.tuple #[]) := by simp only [Rep]; exact ⟨#[], rfl, by simp [RepL]⟩

theorem mcall_sound (hm : SimM E w0 S G M ρ L w) {C : MCal} (hC : MCalOk P E.gs C) {avs : List AV} {us : List Value} (hr : RepL M ρ L avs us) (hb : BdL G avs) {base : Nat}
    (h : (mcallQ C avs).run L done1 = some (v, d)) : Calls P C.f us.toArray w (fun e w' => ∃ v', e = .returned v' ∧ After E w0 S G M ρ L d v v' w') ∧ IdsOk L base d := by
  have hglob : GlobOk M E.gs := hm.glob
  unfold mcallQ at h
  split at h
  · rename_i av r
    simp only [RepL] at hr
    obtain ⟨u, us', rfl, hru, hrr⟩ := hr
    simp only [BdL] at hb
    obtain ⟨x, h, cvs, rfl, hx⟩ := mcaps_inv hm hrr hb.2 h
    have nil : ∀ {A : Option Addr}, u = .slice A 0 0 → (Qn.bind (C.F [] x) fun _ => Qn.done (.tup []) []).run L done1 = some (v, d) →
        Calls P C.f (u :: (match C.g with | some g => [.func (.func g) #[] cvs.toArray] | none => [])).toArray w (fun e w' => ∃ v', e = .returned v' ∧ After E w0 S G M ρ L d v v' w') ∧ IdsOk L base d := by
      intro A hu h
      subst hu
      cases hF : C.F [] x with
      | none => rw [hF] at h; simp [Qn.run] at h
      | some ys =>
        rw [hF] at h
        simp only [Qn.run, Option.bind_some, done1, Option.some.injEq, Prod.mk.injEq] at h
        obtain ⟨rfl, rfl⟩ := h
        refine ⟨(hC.run M w [] x (.slice A 0 0) cvs [] ys hm.mem hglob ⟨A, 0, rfl, .inl ⟨rfl, rfl, rfl⟩⟩ hx hF).mono fun e w' hret => ?_, fun i b hi => by simp at hi⟩
        obtain ⟨rfl, h1, h2, h3⟩ := hret
        obtain ⟨s1, s2⟩ := hm.call (kl := []) (gs := []) (Mem.le_refl _) h1 h2 (by simp) hm.new (fun id _ hl g c hr => ⟨by simp, (hm.own id hl g c hr).2⟩)
        refine ⟨_, rfl, ⟨M, ρ, Mem.le_refl _, rep_unit, ?_, ?_⟩, by simp [Bd, BdL]⟩
        · simpa [kills, ov, grow_nil] using s1
        · simpa [kills, ov] using s2
    split at h
    · simp only [Rep] at hru; exact nil hru h
    · simp only [Rep] at hru; obtain ⟨A, hru⟩ := hru; exact nil hru h
    · rename_i id _
      replace h := run_ask_inv h
      split at h
      · rename_i e q xs hl
        split at h
        · rename_i hq
          subst hq
          simp only [castS_self] at h
          obtain ⟨hee, h2⟩ := run_cond_inv h
          obtain rfl := Nat.eq_of_beq_eq_true hee
          clear h
          have h := h2
          clear h2
          cases hF : C.F xs x with
          | none => rw [hF] at h; simp [Qn.run] at h
          | some ys =>
            rw [hF] at h
            simp only [Qn.run, Option.bind_some, done1, Option.some.injEq, Prod.mk.injEq] at h
            obtain ⟨rfl, rfl⟩ := h
            have hlen := hC.len xs x ys hF
            have hb1 : G id := hb.1
            simp only [Rep] at hru
            -- what the callee is given
            have key : ∃ gs, RowV M w (fun _ => True) C.e C.t xs u gs ∧ (gs = [] ∨ ∃ g cap, gs = [g] ∧ ρ id = some (g, cap) ∧ u = .slice (some ⟨g, 0, none⟩) xs.length cap) := by
              have hv := hru
              have hbk := hm.blk id
              unfold OwnV at hv
              unfold BlkOk at hbk
              rw [hl] at hv hbk
              dsimp only at hv hbk
              obtain ⟨A, c, rfl, _, hcase⟩ := hv
              simp only [vlen, Nat.sub_zero]
              rcases hcase with ⟨rfl, h1⟩ | ⟨g, cap, hr', hA, hcap⟩
              · exact ⟨[], ⟨A, 0, rfl, .inl ⟨rfl, List.eq_nil_of_length_eq_zero h1.symm, rfl⟩⟩, .inl rfl⟩
              · rw [hr'] at hbk
                dsimp only at hbk
                obtain ⟨h0, cur, h1, h2, h3, h4, h5⟩ := hbk
                rw [Nat.zero_add] at hcap
                subst hcap
                rw [Nat.zero_mul] at hA
                exact ⟨[g], ⟨A, c, rfl, .inr ⟨g, cur, hA, rfl, trivial, (hm.own id (by rw [hl]; simp) g c hr').2, h0, h1, h2, h3, h4, h5⟩⟩, .inr ⟨g, c, rfl, hr', by rw [hA]⟩⟩
            obtain ⟨gs, k1, k2⟩ := key
            refine ⟨(hC.run M w xs x u cvs gs ys hm.mem hglob k1 hx hF).mono fun e w' hret => ?_, fun i b hi => ?_⟩
            · obtain ⟨rfl, h1, h2, h3⟩ := hret
              obtain ⟨s1, s2⟩ := row_back hm hl hlen k2 h1 h2 h3
              refine ⟨_, rfl, ⟨M, ρ, Mem.le_refl _, rep_unit, ?_, s2⟩, by simp [Bd, BdL]⟩
              rw [grow_cons_live hb1, grow_nil]
              exact s1
            · simp only [List.mem_cons, Prod.mk.injEq, Option.some.injEq, List.not_mem_nil, or_false] at hi
              obtain ⟨rfl, rfl⟩ := hi
              right
              rw [hl]
              exact ⟨rfl, rfl, hlen.symm⟩
        · exact (run_fail h).elim
      · exact (run_fail h).elim
    · exact (run_fail h).elim
  · exact (run_fail h).elim

end
end Go.R

/- A call, seen from the caller: what the callee is given, and what is known behind it; blocks that are lent besides (g0). -/
namespace Go.R
open Go

/-- What a callee leaves that was lent a box: the box's pieces, its results. -/
structure RetB (M : Mem) (w : World) (g0 gs : List Nat) (M' : Mem) (w' : World) (ps : List PTy) (y : DatPs ps) (us : List Value) (rts : List RTy) (r : DatRs rts) (vs : List Value) (hs1 hs2 : List Nat) : Prop where
  le : M.le M'
  mem : MemOk M' w'
  kp : Kp w w' (· ∈ g0 ++ gs)
  new : ∀ b o u, M' b o = some u → M b o = some u ∨ w.heap.size ≤ b ∨ b ∈ gs
  nd : (hs1 ++ hs2).Nodup
  back : ArgsP M' w' ps y us hs1
  given : ∀ g ∈ hs1, w.heap.size ≤ g ∨ g ∈ gs
  out : OutsP M' w' (fun g => w.heap.size ≤ g ∨ g ∈ gs) rts r vs hs2
  taken : ∀ g ∈ hs2, w.heap.size ≤ g ∨ g ∈ gs

section
variable {P : Program} {E : Env} {w0 : Start} {S G : Nat → Prop} {M : Mem} {ρ : Places} {L : Blks} {w : World} {v : AV} {d : List (Nat × Option Blk)}

theorem repL_undef : (vs : List Value) → RepL M ρ L (List.replicate vs.length .undef) vs
  | [] => by simp [RepL]
  | v :: vs => by simp only [List.length_cons, List.replicate_succ, RepL]; exact ⟨v, vs, rfl, by simp [Rep], repL_undef vs⟩

theorem bdL_undefs : (n : Nat) → BdL G (List.replicate n .undef)
  | 0 => by simp [BdL]
  | n + 1 => by simp only [List.replicate_succ, BdL]; exact ⟨by simp [Bd], bdL_undefs n⟩

/-- A call has gone by in which a box was lent: nothing is known of its cells yet. -/
theorem SimM.callB (h : SimM E w0 S G M ρ L w) {id : Nat} {e : TypeId} {cs : List AV} {g cap : Nat} (hl : L id = some (.box e cs)) (hρ : ρ id = some (g, cap)) {kl gs : List Nat} {M' : Mem} {w' : World} {cur' : Array Value} (hid : id ∉ kl) (hle : M.le M') (hmem : MemOk M' w') (hkp : Kp w w' (· ∈ gs)) (hgs : ∀ g ∈ gs, w0.heap.size ≤ g ∨ S g) (hnew : ∀ b o u, M' b o = some u → w0.m b o = some u ∨ w0.heap.size ≤ b ∨ S b)
    (hbox : w'.heap[g]? = some (.cells cur' e (0, 0))) (hMg : ∀ o, M' g o = none)
    (hout : ∀ q, q ∉ kl → q ≠ id → L q ≠ none → ∀ g' c, ρ q = some (g', c) → g' ∉ gs ∧ ∀ o, M' g' o = none) :
    SimM E w0 S G M' ρ (ov (kills kl) (upd L id (some (.box e (List.replicate cur'.size .undef))))) w' ∧ Still G ρ L ρ (ov (kills kl) (upd L id (some (.box e (List.replicate cur'.size .undef))))) := by
  have hliv : ∀ q, ov (kills kl) (upd L id (some (.box e (List.replicate cur'.size .undef)))) q ≠ none → q ∉ kl ∧ L q ≠ none := fun q hq => by
    by_cases hi : q ∈ kl
    · exact absurd (ov_kills_in hi) hq
    · rw [ov_kills_out hi] at hq
      refine ⟨hi, ?_⟩
      by_cases hqi : q = id
      · rw [hqi, hl]; simp
      · rwa [upd_other _ _ hqi] at hq
  have hst : Still G ρ L ρ (ov (kills kl) (upd L id (some (.box e (List.replicate cur'.size .undef))))) := fun q hg => by
    by_cases hi : q ∈ kl
    · exact .inl (ov_kills_in hi)
    · rw [ov_kills_out hi]
      by_cases hqi : q = id
      · rw [hqi, upd_same, hl]; exact .inr ⟨trivial, rfl⟩
      · rw [upd_other _ _ hqi]; exact Still.refl_of q hg
  refine ⟨⟨hmem, ?_, fun g c hg => (h.glob g c hg).mono hle, fun q hq g' c hr => ?_, fun q q' hl1 hl2 => h.inj q q' (hliv q hl1).2 (hliv q' hl2).2, fun q => ?_, fun q e' cs' hq => ?_, fun q hq => h.live q (hliv q hq).2, Mem.le_trans h.le hle, hnew⟩, hst⟩
  · refine ⟨hkp.os.trans h.kp.os, hkp.tape.trans h.kp.tape, hkp.output.trans h.kp.output, Nat.le_trans h.kp.size hkp.size, DrawLe.trans h.kp.drawn hkp.drawn, fun k hk hs => ?_⟩
    rw [hkp.block k (Nat.lt_of_lt_of_le hk h.kp.size) (fun hm => by
      rcases hgs k hm with h1 | h1
      · omega
      · exact hs h1)]
    exact h.kp.block k hk hs
  · obtain ⟨hn, hq⟩ := hliv q hq
    refine ⟨(h.own q hq g' c hr).1, ?_⟩
    by_cases hqi : q = id
    · rw [hqi, hρ] at hr
      cases hr
      exact hMg
    · exact (hout q hn hqi hq g' c hr).2
  · by_cases hi : q ∈ kl
    · simp [BlkOk, ov_kills_in hi]
    · by_cases hqi : q = id
      · subst hqi
        unfold BlkOk
        rw [ov_kills_out hi, upd_same]
        have hu := repL_undef (M := M') (ρ := ρ) (L := ov (kills kl) (upd L q (some (.box e (List.replicate cur'.size .undef))))) cur'.toList
        rw [Array.length_toList] at hu
        exact ⟨g, cap, cur', hρ, hbox, hu⟩
      · exact (h.blk q).keep (by rw [ov_kills_out hi, upd_other _ _ hqi]) rfl hle hst (h.bbx q) (fun hq g' c hr => hkp.block g' (h.place_lt hq hr) (hout q hi hqi hq g' c hr).1)
  · by_cases hi : q ∈ kl
    · rw [ov_kills_in hi] at hq; cases hq
    · rw [ov_kills_out hi] at hq
      by_cases hqi : q = id
      · rw [hqi, upd_same] at hq
        cases hq
        exact bdL_undefs _
      · rw [upd_other _ _ hqi] at hq
        exact h.bbx q e' cs' hq

/-- The cells of a box are told anew. -/
theorem SimM.setBox (h : SimM E w0 S G M ρ L w) {id : Nat} {e : TypeId} {cs cs' : List AV} (hl : L id = some (.box e cs)) {g cap : Nat} {cur : Array Value} (hρ : ρ id = some (g, cap)) (hg : w.heap[g]? = some (.cells cur e (0, 0))) (hr : RepL M ρ L cs' cur.toList) (hb : BdL G cs') :
    SimM E w0 S G M ρ (upd L id (some (.box e cs'))) w ∧ ∀ {G' : Nat → Prop}, Still G' ρ L ρ (upd L id (some (.box e cs'))) := by
  have hst : ∀ {G' : Nat → Prop}, Still G' ρ L ρ (upd L id (some (.box e cs'))) := fun q hq' => by
    by_cases hq : q = id
    · subst hq; rw [upd_same, hl]; exact .inr ⟨trivial, rfl⟩
    · rw [upd_other _ _ hq]; exact Still.refl_of (G := fun _ => True) q trivial
  have hlive : ∀ q, upd L id (some (.box e cs')) q ≠ none → L q ≠ none := fun q hq => by
    by_cases hqi : q = id
    · subst hqi; rw [hl]; simp
    · rwa [upd_other _ _ hqi] at hq
  refine ⟨⟨h.mem, h.kp, h.glob, fun q hq => h.own q (hlive q hq), fun q q' h1 h2 => h.inj q q' (hlive q h1) (hlive q' h2), fun q => ?_, fun q e2 cs2 hq => ?_, fun q hq => h.live q (hlive q hq), h.le, h.new⟩, hst⟩
  · by_cases hqi : q = id
    · subst hqi
      simp only [BlkOk, upd_same]
      exact ⟨g, cap, cur, hρ, hg, hr.mono (Mem.le_refl _) (hst (G' := G)) _ _ hb⟩
    · exact (h.blk q).keep (upd_other _ _ hqi) rfl (Mem.le_refl _) hst (h.bbx q) (fun _ _ _ _ => rfl)
  · by_cases hqi : q = id
    · subst hqi
      rw [upd_same] at hq
      cases hq
      exact hb
    · rw [upd_other _ _ hqi] at hq
      exact h.bbx q e2 cs2 hq

theorem ov_notin {L : Blks} {id : Nat} : {d : List (Nat × Option Blk)} → (∀ b, (id, b) ∉ d) → ov d L id = L id
  | [], _ => rfl
  | (n, b) :: d, h => by
    have hne : id ≠ n := fun e => h b (by rw [e]; exact List.mem_cons_self ..)
    show upd (ov d L) n b id = L id
    rw [upd_other _ _ hne]
    exact ov_notin fun b' hb => h b' (List.mem_cons_of_mem _ hb)

theorem RowV.mono {F F' : Nat → Prop} {e : TypeId} {t : Ty} {xs : List (Dat t)} {v : Value} {gs : List Nat} (h : RowV M w F e t xs v gs) (hF : ∀ g ∈ gs, F' g) : RowV M w F' e t xs v gs := by
  obtain ⟨A, c, rfl, hc | ⟨g, cur, rfl, rfl, hf, rest⟩⟩ := h
  · exact ⟨A, c, rfl, .inl hc⟩
  · exact ⟨_, c, rfl, .inr ⟨g, cur, rfl, rfl, hF g (by simp), rest⟩⟩

theorem argOf_in {p : PTy} {x : DatP p} {v : Value} {gs : List Nat} (h : ArgP M w p x v gs) (hS : ∀ g ∈ gs, w0.heap.size ≤ g ∨ S g) (hm : SimM E w0 S G M ρ L w) (hfree : ∀ id, L id ≠ none → ∀ g c, ρ id = some (g, c) → g ∉ gs) {n : Nat} (hn : ¬ G n) {av : AV} {d : List (Nat × Option Blk)} (he : argOf p x n = (av, d)) :
    ∃ ρ', Came E w0 S G M ρ L w d gs ρ' ∧ Rep M ρ' (ov d L) av v ∧ Bd (grow G d) av ∧ ∀ i b, (i, b) ∈ d → i = n := by
  cases p with
  | ro agg t =>
    simp only [ArgP] at h
    obtain ⟨rfl, us, rfl, h1, h2⟩ := h
    simp only [argOf, Prod.mk.injEq] at he
    obtain ⟨rfl, rfl⟩ := he
    exact ⟨ρ, Came.nil hm, oneV_rep h1 (RepL.of_S h2), oneV_bd (BdL_cellsOf _ _), by simp⟩
  | mv e t =>
    simp only [ArgP] at h
    simp only [argOf, Prod.mk.injEq] at he
    obtain ⟨rfl, rfl⟩ := he
    obtain ⟨ρ', k1, k2⟩ := rowV_in (F := fun g => w0.heap.size ≤ g ∨ S g) hm (fun g hg => hg) (h.mono hS) hfree hn
    exact ⟨ρ', k1, k2, by simp [Bd, grow], by simp⟩
  | mvn e t =>
    simp only [ArgP] at h
    simp only [argOf, Prod.mk.injEq] at he
    obtain ⟨rfl, rfl⟩ := he
    obtain ⟨ρ', k1, k2⟩ := rowV_in (F := fun g => w0.heap.size ≤ g ∨ S g) hm (fun g hg => hg) (h.1.mono hS) hfree hn
    refine ⟨ρ', k1, ?_, by simp [Bd, grow], by simp⟩
    simp only [Rep] at k2 ⊢
    refine ⟨k2, fun e' t' hl => ?_⟩
    have hl' : upd L n (some (.row e t x)) n = some (.row e' t' []) := hl
    rw [upd_same] at hl'
    cases hl'
    exact h.2 rfl
  | pt t =>
    simp only [ArgP] at h
    obtain ⟨rfl, ad, us, rfl, hs0, h3, h4⟩ := h
    simp only [argOf, Prod.mk.injEq] at he
    obtain ⟨rfl, rfl⟩ := he
    exact ⟨ρ, Came.nil hm, by simp only [Rep]; exact ⟨ad, us, rfl, hs0, RepL.of_S h3, h4⟩, by simp only [Bd]; exact BdL_cellsOf _ _, by simp⟩

theorem argOf_len {p : PTy} {x : DatP p} {n : Nat} {v : AV} {d : List (Nat × Option Blk)} (h : argOf p x n = (v, d)) : ∀ i b, (i, b) ∈ d → i = n ∧ d.length = 1 := by
  cases p <;> simp only [argOf, Prod.mk.injEq] at h <;> obtain ⟨_, rfl⟩ := h <;> simp

theorem backs_in : {ats : List PTy} → {x : DatPs ats} → {vs : List Value} → {gs : List Nat} → ArgsP M w ats x vs gs → gs.Nodup → (∀ g ∈ gs, w0.heap.size ≤ g ∨ S g) → ∀ {G : Nat → Prop} {ρ : Places} {L : Blks}, SimM E w0 S G M ρ L w →
    (∀ id, L id ≠ none → ∀ g c, ρ id = some (g, c) → g ∉ gs) → ∀ {n : Nat} {avs d}, (∀ i, n ≤ i → i < n + d.length → ¬ G i) → backs n ats x = (avs, d) →
    ∃ ρ', Came E w0 S G M ρ L w d gs ρ' ∧ RepL M ρ' (ov d L) avs vs ∧ BdL (grow G d) avs ∧ (∀ i b, (i, b) ∈ d → n ≤ i ∧ i < n + d.length)
  | [], _, _, _, h, _, _, G, ρ, L, hm, _, n, avs, d, _, he => by
    simp only [ArgsP] at h
    obtain ⟨rfl, rfl⟩ := h
    simp only [backs, Prod.mk.injEq] at he
    obtain ⟨rfl, rfl⟩ := he
    exact ⟨ρ, Came.nil hm, by simp [RepL], by simp [BdL], by simp⟩
  | [p], x, _, _, h, hnd, hS, G, ρ, L, hm, hfree, n, avs, d, hn, he => by
    simp only [ArgsP] at h
    obtain ⟨v, rfl, h⟩ := h
    simp only [backs] at he
    generalize hq : argOf p x n = q at he
    obtain ⟨av, d'⟩ := q
    simp only [Prod.mk.injEq] at he
    obtain ⟨rfl, rfl⟩ := he
    cases p with
    | ro agg t =>
      simp only [ArgP] at h
      obtain ⟨rfl, us, rfl, h1, h2⟩ := h
      simp only [argOf, Prod.mk.injEq] at hq
      obtain ⟨rfl, rfl⟩ := hq
      exact ⟨ρ, Came.nil hm, by simp only [RepL]; exact ⟨_, _, rfl, oneV_rep h1 (RepL.of_S h2), rfl⟩, by simp only [BdL]; exact ⟨oneV_bd (BdL_cellsOf _ _), trivial⟩, by simp⟩
    | mv e t =>
      have hd : d'.length = 1 := by simp only [argOf, Prod.mk.injEq] at hq; rw [← hq.2]; rfl
      obtain ⟨ρ', k1, k2, k3, k4⟩ := argOf_in h hS hm hfree (hn n (Nat.le_refl _) (by omega)) hq
      exact ⟨ρ', k1, by simp only [RepL]; exact ⟨_, _, rfl, k2, rfl⟩, by simp only [BdL]; exact ⟨k3, trivial⟩, fun i b hi => by have := k4 i b hi; omega⟩
    | mvn e t =>
      have hd : d'.length = 1 := by simp only [argOf, Prod.mk.injEq] at hq; rw [← hq.2]; rfl
      obtain ⟨ρ', k1, k2, k3, k4⟩ := argOf_in h hS hm hfree (hn n (Nat.le_refl _) (by omega)) hq
      exact ⟨ρ', k1, by simp only [RepL]; exact ⟨_, _, rfl, k2, rfl⟩, by simp only [BdL]; exact ⟨k3, trivial⟩, fun i b hi => by have := k4 i b hi; omega⟩
    | pt t =>
      simp only [ArgP] at h
      obtain ⟨rfl, ad, us, rfl, hs0, h3, h4⟩ := h
      simp only [argOf, Prod.mk.injEq] at hq
      obtain ⟨rfl, rfl⟩ := hq
      exact ⟨ρ, Came.nil hm, by simp only [RepL]; exact ⟨_, _, rfl, by simp only [Rep]; exact ⟨ad, us, rfl, hs0, RepL.of_S h3, h4⟩, rfl⟩, by simp only [BdL]; exact ⟨by simp only [Bd]; exact BdL_cellsOf _ _, trivial⟩, by simp⟩
  | p :: q :: ps, x, vs, gs, h, hnd, hS, G, ρ, L, hm, hfree, n, avs, d, hn, he => by
    simp only [ArgsP] at h
    obtain ⟨v, vs', g1, g2, rfl, rfl, h1, h2⟩ := h
    simp only [backs] at he
    generalize hq2 : backs n (q :: ps) x.2 = q2 at he
    obtain ⟨avs', d2⟩ := q2
    simp only at he
    generalize hq1 : argOf p x.1 (n + d2.length) = q1 at he
    obtain ⟨av, d1⟩ := q1
    simp only [Prod.mk.injEq] at he
    obtain ⟨rfl, rfl⟩ := he
    rw [List.nodup_append] at hnd
    obtain ⟨hd1, hd2, hd3⟩ := hnd
    obtain ⟨ρ1, k1, k2, k3, k4⟩ := backs_in h2 hd2 (fun g hg => hS g (List.mem_append_right _ hg)) hm (fun id hl g c hr hg => hfree id hl g c hr (List.mem_append_right _ hg)) (fun i hi hi' => hn i hi (by rw [List.length_append]; omega)) hq2
    have one : ∃ ρ2, Came E w0 S (grow G d2) M ρ1 (ov d2 L) w d1 g1 ρ2 ∧ Rep M ρ2 (ov d1 (ov d2 L)) av v ∧ Bd (grow (grow G d2) d1) av ∧ ∀ i b, (i, b) ∈ d1 → i = n + d2.length := by
      cases p with
      | ro agg t =>
        simp only [ArgP] at h1
        obtain ⟨rfl, us, rfl, h3, h4⟩ := h1
        simp only [argOf, Prod.mk.injEq] at hq1
        obtain ⟨rfl, rfl⟩ := hq1
        exact ⟨ρ1, Came.nil k1.sim, oneV_rep h3 (RepL.of_S h4), oneV_bd (BdL_cellsOf _ _), by simp⟩
      | mv e t =>
        have hd : d1.length = 1 := by simp only [argOf, Prod.mk.injEq] at hq1; rw [← hq1.2]; rfl
        exact argOf_in h1 (fun g hg => hS g (List.mem_append_left _ hg)) k1.sim (fun id hl g c hr hg => by
          rcases k1.places id hl g c hr with ⟨i1, i2⟩ | i1
          · exact hfree id i1 g c i2 (List.mem_append_left _ hg)
          · exact hd3 g hg g i1 rfl) (fun hg => by
          rcases hg with hg | ⟨b, hb⟩
          · exact hn (n + d2.length) (by omega) (by rw [List.length_append]; omega) hg
          · have := k4 _ _ hb; omega) hq1
      | mvn e t =>
        have hd : d1.length = 1 := by simp only [argOf, Prod.mk.injEq] at hq1; rw [← hq1.2]; rfl
        exact argOf_in h1 (fun g hg => hS g (List.mem_append_left _ hg)) k1.sim (fun id hl g c hr hg => by
          rcases k1.places id hl g c hr with ⟨i1, i2⟩ | i1
          · exact hfree id i1 g c i2 (List.mem_append_left _ hg)
          · exact hd3 g hg g i1 rfl) (fun hg => by
          rcases hg with hg | ⟨b, hb⟩
          · exact hn (n + d2.length) (by omega) (by rw [List.length_append]; omega) hg
          · have := k4 _ _ hb; omega) hq1
      | pt t =>
        simp only [ArgP] at h1
        obtain ⟨rfl, ad, us, rfl, hs0, h3, h4⟩ := h1
        simp only [argOf, Prod.mk.injEq] at hq1
        obtain ⟨rfl, rfl⟩ := hq1
        exact ⟨ρ1, Came.nil k1.sim, by simp only [Rep]; exact ⟨ad, us, rfl, hs0, RepL.of_S h3, h4⟩, by simp only [Bd]; exact BdL_cellsOf _ _, by simp⟩
    obtain ⟨ρ2, j1, j2, j3, j4⟩ := one
    refine ⟨ρ2, k1.trans j1, ?_, ?_, fun i b hi => ?_⟩
    · rw [ov_append]
      simp only [RepL]
      exact ⟨_, _, rfl, j2, k2.mono (Mem.le_refl _) j1.still _ _ k3⟩
    · rw [grow_append]
      simp only [BdL]
      exact ⟨j3, k3.mono fun i hi => .inl hi⟩
    · rw [List.length_append]
      rcases List.mem_append.1 hi with hi | hi
      · have := j4 i b hi
        have := (argOf_len hq1 i b hi).2
        omega
      · have := k4 i b hi; omega

/-- A call in which a box is lent, seen from the caller. -/
theorem call_coreP (hm : SimM E w0 S G M ρ L w) {ats ps : List PTy} {rts : List RTy} {avs : List AV} {us : List Value} (hr : RepL M ρ L avs us) (hb : BdL G avs) {x : DatPs ats} {fz mv : List Nat} (hin : InsP L ats x avs fz mv) (hnd : mv.Nodup) (hdis : ∀ i ∈ mv, i ∉ fz)
    {id : Nat} {e : TypeId} {cs : List AV} {g cap : Nat} (hl : L id = some (.box e cs)) (hρ : ρ id = some (g, cap)) (hidk : id ∉ mv ∧ id ∉ fz) :
    ∃ Mf gs, MemOk Mf w ∧ GlobOk Mf E.gs ∧ ArgsP Mf w ats x us gs ∧ gs.Nodup ∧ (∀ g ∈ gs, ∃ id ∈ mv, ∃ c, ρ id = some (g, c)) ∧
      (∀ o, Mf g o = none) ∧ g ∉ gs ∧
      ∀ (M' : Mem) (w' : World) (y : DatPs ps) (us' : List Value) (r : DatRs rts) (vs : List Value) (hs1 hs2 : List Nat) (cur' : Array Value), RetB Mf w [g] gs M' w' ps y us' rts r vs hs1 hs2 → w'.heap[g]? = some (.cells cur' e (0, 0)) → (∀ o, M' g o = none) →
        ∀ {base : Nat} {bs os : List AV} {d1 d2 : List (Nat × Option Blk)}, backs base ps y = (bs, d1) → outs (base + d1.length) rts r = (os, d2) → (∀ i, base ≤ i → i < base + d1.length + d2.length → ¬ G i) →
          ∃ ρ', M.le M' ∧ RepL M' ρ' (ov (d2 ++ (d1 ++ kills (mv ++ fz))) (upd L id (some (.box e (List.replicate cur'.size .undef))))) bs us' ∧ RepL M' ρ' (ov (d2 ++ (d1 ++ kills (mv ++ fz))) (upd L id (some (.box e (List.replicate cur'.size .undef))))) os vs ∧ SimM E w0 S (grow G (d2 ++ (d1 ++ kills (mv ++ fz)))) M' ρ' (ov (d2 ++ (d1 ++ kills (mv ++ fz))) (upd L id (some (.box e (List.replicate cur'.size .undef))))) w' ∧
            Still G ρ L ρ' (ov (d2 ++ (d1 ++ kills (mv ++ fz))) (upd L id (some (.box e (List.replicate cur'.size .undef))))) ∧ BdL (grow G (d2 ++ (d1 ++ kills (mv ++ fz)))) bs ∧ BdL (grow G (d2 ++ (d1 ++ kills (mv ++ fz)))) os ∧ ρ' id = some (g, cap) ∧ ov (d2 ++ (d1 ++ kills (mv ++ fz))) (upd L id (some (.box e (List.replicate cur'.size .undef)))) id = some (.box e (List.replicate cur'.size .undef)) := by
  have hlv := insP_live hin
  -- the memory that the callee is given
  have hle := freezeS_le hm (I := fun q => q ∈ fz) hlv.1
  have hok := freezeS_ok hm (I := fun q => q ∈ fz)
  have hmv : ∀ id ∈ mv, ∀ g c, ρ id = some (g, c) → ∀ o, freezeS w M ρ (fun q => q ∈ fz) g o = none := fun id hid g c hr' o => by
    unfold freezeS
    rw [if_neg]
    · exact (hm.own id (hlv.2 id hid) g c hr').2 o
    · rintro ⟨id', hi', c', hr2⟩
      exact hdis id hid (by rw [hm.inj id id' (hlv.2 id hid) (hlv.1 id' hi') g c c' hr' hr2]; exact hi')
  obtain ⟨gs, ha, hgn, hgs⟩ := insP_args hle hm hin (fun id hid g c hr' o v hv => freezeS_cells (I := fun q => q ∈ fz) hid hr' hv) hmv hnd hr hb
  have hglob : GlobOk (freezeS w M ρ (fun q => q ∈ fz)) E.gs := fun g c hg => (hm.glob g c hg).mono hle
  have hlive0 : L id ≠ none := by rw [hl]; simp
  have hggs : g ∉ gs := fun hg => by
    obtain ⟨id', hid', c', hr2⟩ := hgs g hg
    exact hidk.1 (by rw [hm.inj id id' hlive0 (hlv.2 id' hid') g cap c' hρ hr2]; exact hid')
  refine ⟨_, gs, hok, hglob, ha, hgn, hgs, fun o => ?_, hggs, fun M' w' y us' r vs hs1 hs2 cur' hret hbox hMg base bs os d1 d2 hbs hos hn => ?_⟩
  · unfold freezeS
    rw [if_neg]
    · exact (hm.own id hlive0 g cap hρ).2 o
    · rintro ⟨id', hi', c', hr2⟩
      exact hidk.2 (by rw [hm.inj id id' hlive0 (hlv.1 id' hi') g cap c' hρ hr2]; exact hi')
  have hgsS : ∀ g ∈ gs, w0.heap.size ≤ g ∨ S g := fun g hg => by
    obtain ⟨id, hid, c, hr'⟩ := hgs g hg
    exact (hm.own id (hlv.2 id hid) g c hr').1
  have notgs : ∀ q, q ∉ mv → L q ≠ none → ∀ g' c, ρ q = some (g', c) → g' ∉ gs := fun q hq hl' g' c hr' hg => by
    obtain ⟨id', hid', c', hr2⟩ := hgs g' hg
    exact hq (by rw [hm.inj q id' hl' (hlv.2 id' hid') g' c c' hr' hr2]; exact hid')
  have k4 : ∀ q, q ∉ mv ++ fz → q ≠ id → L q ≠ none → ∀ g' c, ρ q = some (g', c) → g' ∉ [g] ++ gs ∧ ∀ o, M' g' o = none := fun q hq hqi hl' g' c hr' => by
    rw [List.mem_append, not_or] at hq
    refine ⟨fun hg => ?_, fun o => ?_⟩
    · rcases List.mem_append.1 hg with hg | hg
      · rw [List.mem_singleton] at hg
        subst hg
        exact hqi (hm.inj q id hl' hlive0 g' c cap hr' hρ)
      · exact notgs q hq.1 hl' g' c hr' hg
    · cases hM' : M' g' o with
      | none => rfl
      | some u =>
        rcases hret.new _ _ _ hM' with h1 | h1 | h1
        · unfold freezeS at h1
          rw [if_neg] at h1
          · rw [(hm.own q hl' g' c hr').2 o] at h1; cases h1
          · rintro ⟨id', hi', c', hr2⟩
            exact hq.2 (by rw [hm.inj q id' hl' (hlv.1 id' hi') g' c c' hr' hr2]; exact hi')
        · exact absurd (hm.place_lt hl' hr') (Nat.not_lt.2 h1)
        · exact absurd h1 (notgs q hq.1 hl' g' c hr')
  have k4c : id ∉ mv ++ fz := by rw [List.mem_append, not_or]; exact hidk
  have k1 : M.le M' := Mem.le_trans hle hret.le
  have k5 : ∀ b o u, M' b o = some u → w0.m b o = some u ∨ w0.heap.size ≤ b ∨ S b := fun b o u hu => by
    rcases hret.new _ _ _ hu with h1 | h1 | h1
    · unfold freezeS at h1
      split at h1
      · rename_i hx
        obtain ⟨id, hi, c, hr⟩ := hx
        exact .inr (hm.own id (hlv.1 id hi) b c hr).1
      · exact hm.new b o u h1
    · exact .inr (.inl (Nat.le_trans hm.kp.size h1))
    · exact .inr (hgsS b h1)
  obtain ⟨s1, s2⟩ := hm.callB hl hρ k4c k1 hret.mem hret.kp (fun g' hg => by
    rcases List.mem_append.1 hg with hg | hg
    · rw [List.mem_singleton] at hg
      rw [hg]
      exact (hm.own id hlive0 g cap hρ).1
    · exact hgsS g' hg) k5 hbox hMg k4
  have hF : ∀ g, (w.heap.size ≤ g ∨ g ∈ gs) → w0.heap.size ≤ g ∨ S g := fun g hg => by
    rcases hg with hg | hg
    · exact .inl (Nat.le_trans hm.kp.size hg)
    · exact hgsS g hg
  have hfree : ∀ q, ov (kills (mv ++ fz)) (upd L id (some (.box e (List.replicate cur'.size .undef)))) q ≠ none → ∀ g' c, ρ q = some (g', c) → ¬ (w.heap.size ≤ g' ∨ g' ∈ gs) := fun q hl' g' c hr' hgs' => by
    have hq : q ∉ mv ++ fz ∧ (q = id ∨ L q ≠ none) := by
      by_cases hi : q ∈ mv ++ fz
      · exact absurd (ov_kills_in hi) hl'
      · rw [ov_kills_out hi] at hl'
        by_cases hqi : q = id
        · exact ⟨hi, .inl hqi⟩
        · rw [upd_other _ _ hqi] at hl'
          exact ⟨hi, .inr hl'⟩
    by_cases hqi : q = id
    · rw [hqi, hρ] at hr'
      cases hr'
      rcases hgs' with h1 | h1
      · exact absurd (hm.place_lt hlive0 hρ) (Nat.not_lt.2 h1)
      · exact hggs h1
    · have hlq := hq.2.resolve_left hqi
      rcases hgs' with h1 | h1
      · exact absurd (hm.place_lt hlq hr') (Nat.not_lt.2 h1)
      · exact (k4 q hq.1 hqi hlq g' c hr').1 (List.mem_append_right _ h1)
  have hnd2 := List.nodup_append.1 hret.nd
  obtain ⟨ρ1, a1, a2, a3, a4⟩ := backs_in hret.back hnd2.1 (fun g' hg => hF g' (hret.given g' hg)) s1 (fun q hl' g' c hr' hg => hfree q hl' g' c hr' (hret.given g' hg)) (n := base) (fun i h1 h2 => hn i h1 (by omega)) hbs
  obtain ⟨ρ', c1, c2, c3, c4⟩ := outs_in hF hret.out hnd2.2.1 a1.sim (fun q hl' g' c hr' hg => by
    rcases a1.places q hl' g' c hr' with ⟨h1, h2⟩ | h1
    · exact hfree q h1 g' c h2 (hret.taken g' hg)
    · exact hnd2.2.2 g' h1 g' hg rfl) (base := base + d1.length) (fun i h1 h2 hg => by
    rcases hg with hg | ⟨b, hb⟩
    · exact hn i (by omega) (by omega) hg
    · have := a4 i _ hb; omega) hos
  have hG : G id := hm.live id hlive0
  have hbx : ov d2 (ov d1 (ov (kills (mv ++ fz)) (upd L id (some (.box e (List.replicate cur'.size .undef)))))) id = some (.box e (List.replicate cur'.size .undef)) := by
    rw [ov_notin (fun b hb => by
      have := c4 id b hb
      exact hn id (by omega) (by omega) hG), ov_notin (fun b hb => by
      have := a4 id b hb
      exact hn id this.1 (by omega) hG), ov_kills_out k4c, upd_same]
  refine ⟨ρ', k1, ?_, ?_, ?_, ?_, ?_, ?_, ?_, ?_⟩
  · rw [ov_append, ov_append]; exact a2.mono (Mem.le_refl _) c1.still _ _ a3
  · rw [ov_append, ov_append]; exact c2
  · rw [ov_append, ov_append, grow_append, grow_append, grow_kills]; exact c1.sim
  · rw [ov_append, ov_append]; exact (s2.trans a1.still).trans (c1.still.mono fun i hi => .inl hi)
  · rw [grow_append, grow_append, grow_kills]; exact a3.mono fun i hi => .inl hi
  · rw [grow_append, grow_append, grow_kills]; exact c3
  · rcases c1.still id (.inl hG) with h1 | h1
    · rw [hbx] at h1; cases h1
    · rcases a1.still id hG with h2 | h2
      · have := h1.1
        rw [h2] at this
        simp [Alike] at this
      · rw [h1.2, h2.2, hρ]
  · rw [ov_append, ov_append]; exact hbx

end
end Go.R

/- Contracts for functions that work on a box in its place, and their calls. -/
namespace Go.R
open Go

/-- The same of values. -/
def groupV : List (Bool × Nat) → List Value → List Value
  | [], _ => []
  | (agg, n) :: r, vs => oneV agg (vs.take n) :: groupV r (vs.drop n)

def flatV (vs : List Value) : List Value := vs.flatMap fun v => v.cells.toList

structure BCalOk (P : Program) (gt : List (Nat × List AV)) (C : BCal) : Prop where
  enter : ∀ args w, (callFunc C.f args).run P w = .ok (.enter C.f args) w
  run : ∀ (M : Mem) (w : World) (x : DatPs (C.ps ++ C.ats)) (g : Nat) (cur : Array Value) (vs : List Value) (gs : List Nat) (r : DatPs C.ps × DatRs C.rts), MemOk M w → GlobOk M gt → ArgsP M w (C.ps ++ C.ats) x (groupV C.sizes cur.toList ++ vs) gs → gs.Nodup → g ∉ gs → (∀ o, M g o = none) →
    w.heap[g]? = some (.cells cur C.e (0, 0)) → fitS C.sizes cur.size = true → C.F x = some r →
    Calls P C.f (.pointer (some ⟨g, 0, none⟩) :: vs).toArray w fun e w' => ∃ (M' : Mem) (us' vs' : List Value) (hs1 hs2 : List Nat) (cur' : Array Value), e = .returned (retV vs') ∧ RetB M w [g] gs M' w' C.ps r.1 us' C.rts r.2 vs' hs1 hs2 ∧
      w'.heap[g]? = some (.cells cur' C.e (0, 0)) ∧ cur'.toList = flatV us' ∧ ∀ o, M' g o = none

section
variable {P : Program} {E : Env} {w0 : Start} {S G : Nat → Prop} {M : Mem} {ρ : Places} {L : Blks} {w : World} {v : AV} {d : List (Nat × Option Blk)}

theorem rep_group : {sz : List (Bool × Nat)} → {cs : List AV} → {vs : List Value} → fitS sz cs.length = true → RepL M ρ L cs vs → RepL M ρ L (groupA sz cs) (groupV sz vs)
  | [], _, _, _, _ => by simp [groupA, groupV, RepL]
  | (agg, n) :: r, cs, vs, h, hr => by
    simp only [fitS, Bool.and_eq_true, Bool.or_eq_true] at h
    obtain ⟨⟨h1, h2⟩, h3⟩ := h
    have h2 := Nat.le_of_ble_eq_true h2
    have hlen := hr.length
    simp only [groupA, groupV, RepL]
    refine ⟨_, _, rfl, oneV_rep (fun e => ?_) (hr.take n), rep_group (by rw [List.length_drop]; exact h3) (hr.drop n)⟩
    have hn : n = 1 := by
      rcases h1 with h1 | h1
      · rw [e] at h1; cases h1
      · exact Nat.eq_of_beq_eq_true h1
    rw [List.length_take]
    omega

theorem bd_group : {sz : List (Bool × Nat)} → {cs : List AV} → BdL G cs → BdL G (groupA sz cs)
  | [], _, _ => by simp [groupA, BdL]
  | (agg, n) :: r, cs, h => by
    simp only [groupA, BdL]
    exact ⟨oneV_bd (h.take n), bd_group (h.drop n)⟩

theorem rep_flat : {as : List AV} → {us : List Value} → RepL M ρ L as us → (flatA as).all AV.oneCell = true → RepL M ρ L (flatA as) (flatV us)
  | [], us, h, _ => by simp only [RepL] at h; subst h; simp [flatA, flatV, RepL]
  | a :: as, us, h, hc => by
    simp only [RepL] at h
    obtain ⟨u, us', rfl, h1, h2⟩ := h
    simp only [flatA, List.flatMap_cons, List.all_append, Bool.and_eq_true] at hc
    simp only [flatA, flatV, List.flatMap_cons]
    exact (rep_cells h1 hc.1).1.append (rep_flat h2 hc.2)

theorem bd_flat : {as : List AV} → BdL G as → BdL G (flatA as)
  | [], _ => by simp [flatA, BdL]
  | a :: as, h => by
    simp only [BdL] at h
    simp only [flatA, List.flatMap_cons]
    refine BdL.append ?_ (bd_flat h.2)
    cases a <;> simp_all [AV.cells, BdL, Bd]

theorem ov_two {A B : Blks} {id : Nat} : {d : List (Nat × Option Blk)} → {b : Option Blk} → (id, b) ∈ d → ov d A id = ov d B id
  | (n, c) :: d, b, h => by
    show upd (ov d A) n c id = upd (ov d B) n c id
    by_cases e : id = n
    · rw [e, upd_same, upd_same]
    · rw [upd_other _ _ e, upd_other _ _ e]
      rcases List.mem_cons.1 h with h | h
      · simp only [Prod.mk.injEq] at h
        exact absurd h.1 e
      · exact ov_two h

theorem bcall_sound (hm : SimM E w0 S G M ρ L w) {C : BCal} (hC : BCalOk P E.gs C) {b : AV} {u : Value} {avs : List AV} {us : List Value} (hru : Rep M ρ L b u) (hr : RepL M ρ L avs us) (hb : BdL G avs) {base : Nat} (hn : ∀ i, base ≤ i → i < base + d.length → ¬ G i)
    (h : (bcallQ C base b avs).run L done1 = some (v, d)) : Calls P C.f (u :: us).toArray w (fun e w' => ∃ v', e = .returned v' ∧ After E w0 S G M ρ L d v v' w') ∧ IdsOk L base d := by
  unfold bcallQ at h
  split at h
  · rename_i id
    replace h := run_ask_inv h
    split at h
    · rename_i e cs hl
      obtain ⟨hc, h2⟩ := run_cond_inv h
      clear h
      simp only [Bool.and_eq_true] at hc
      obtain ⟨he, hfit⟩ := hc
      obtain rfl := Nat.eq_of_beq_eq_true he
      obtain ⟨x, fz, mv, h, hin⟩ := ins_inv h2
      clear h2
      obtain ⟨hc, h⟩ := run_cond_inv h
      simp only [Bool.and_eq_true, List.all_eq_true] at hc
      obtain ⟨⟨⟨hc1, hc2⟩, hc3⟩, hc4⟩ := hc
      cases hF : C.F x with
      | none => rw [hF] at h; simp [Qn.run] at h
      | some r =>
        rw [hF] at h
        simp only [Qn.run, Option.bind_some] at h
        generalize hbs : backs base C.ps r.1 = q1 at h
        obtain ⟨bs, d1⟩ := q1
        simp only at h
        generalize hos : outs (base + d1.length) C.rts r.2 = q at h
        obtain ⟨os, d2⟩ := q
        obtain ⟨hcc, h⟩ := run_cond_inv h
        simp only [Bool.and_eq_true] at hcc
        obtain ⟨⟨hids, hone⟩, hlen⟩ := hcc
        have hlen := Nat.eq_of_beq_eq_true hlen
        simp only [Qn.run, done1, Option.some.injEq, Prod.mk.injEq] at h
        obtain ⟨rfl, rfl⟩ := h
        -- the box
        have hbk := hm.blk id
        unfold BlkOk at hbk
        rw [hl] at hbk
        dsimp only at hbk
        obtain ⟨g, cap, cur, hρ, hheap, hrep⟩ := hbk
        have hu : u = .pointer (some ⟨g, 0, none⟩) := by
          simp only [Rep] at hru
          unfold PtrV at hru
          rw [hl] at hru
          dsimp only at hru
          obtain ⟨g', cap', h1, _, h2⟩ := hru
          rw [hρ] at h1
          cases h1
          exact h2
        subst hu
        have hbcs := hm.bbx id C.e cs hl
        have hcl : cur.size = cs.length := by have := hrep.length; simpa using this
        obtain ⟨Mf, gs, m1, m2, m3, m4, m5, m6, m7, core⟩ := call_coreP hm (ps := C.ps) (rts := C.rts) ((rep_group hfit hrep).append hr) ((bd_group hbcs).append hb) hin (distinct_nodup hc1) (fun i hi => not_any (hc2 i hi)) hl hρ ⟨not_any hc3, not_any hc4⟩
        refine ⟨(hC.run Mf w x g cur us gs r m1 m2 m3 m4 m7 m6 hheap (by rw [hcl]; exact hfit) hF).mono fun e w' hret => ?_, ?_⟩
        · obtain ⟨M', us', vs', hs1, hs2, cur', rfl, hret, hbox, hcur, hMg⟩ := hret
          obtain ⟨ρ', k1, k3b, k3, k4, k5, k6b, k6, k7, k8⟩ := core M' w' r.1 us' r.2 vs' hs1 hs2 cur' hret hbox hMg hbs hos (fun i h1 h2 => hn i h1 (by simp only [List.length_cons, List.length_append]; omega))
          refine ⟨_, rfl, ?_⟩
          obtain ⟨s1, s2⟩ := k4.setBox k8 k7 hbox (cs' := flatA bs) (by rw [hcur]; exact rep_flat k3b hone) (bd_flat k6b)
          have hupd : upd (ov (d2 ++ (d1 ++ kills (mv ++ fz))) (upd L id (some (.box C.e (List.replicate cur'.size .undef))))) id (some (.box C.e (flatA bs))) =
              ov ((id, some (.box C.e (flatA bs))) :: (d2 ++ (d1 ++ kills (mv ++ fz)))) L := by
            funext q
            show _ = upd (ov (d2 ++ (d1 ++ kills (mv ++ fz))) L) id _ q
            by_cases hq : q = id
            · rw [hq, upd_same, upd_same]
            · rw [upd_other _ _ hq, upd_other _ _ hq]
              by_cases hqd : ∃ b, (q, b) ∈ (d2 ++ (d1 ++ kills (mv ++ fz)))
              · obtain ⟨bb, hbb⟩ := hqd
                exact ov_two hbb
              · rw [ov_notin (fun b hb => hqd ⟨b, hb⟩), ov_notin (fun b hb => hqd ⟨b, hb⟩), upd_other _ _ hq]
          have hgrow : grow G (d2 ++ (d1 ++ kills (mv ++ fz))) = grow G ((id, some (.box C.e (flatA bs))) :: (d2 ++ (d1 ++ kills (mv ++ fz)))) := by
            funext i
            have hG : G id := hm.live id (by rw [hl]; simp)
            simp only [grow, List.mem_cons, eq_iff_iff]
            constructor
            · rintro (h | ⟨b, h⟩)
              · exact .inl h
              · exact .inr ⟨b, .inr h⟩
            · rintro (h | ⟨b, h | h⟩)
              · exact .inl h
              · simp only [Prod.mk.injEq] at h
                exact .inl (by rw [h.1]; exact hG)
              · exact .inr ⟨b, h⟩
          rw [hupd] at s1
          refine ⟨⟨M', ρ', k1, ?_, ?_, ?_⟩, ?_⟩
          · rw [← hupd]
            exact rep_tup (k3.mono (Mem.le_refl _) (s2 (G' := grow G (d2 ++ (d1 ++ kills (mv ++ fz))))) _ _ k6)
          · rw [← hgrow]; exact s1
          · rw [← hupd]; exact k5.trans s2
          · rw [← hgrow]; exact bd_tup k6
        · intro i b hi
          rcases List.mem_cons.1 hi with hi | hi
          · simp only [Prod.mk.injEq, Option.some.injEq] at hi
            obtain ⟨rfl, rfl⟩ := hi
            exact .inr (by rw [hl]; exact ⟨rfl, hlen.symm⟩)
          · rcases List.mem_append.1 hi with hi | hi
            · have := List.all_eq_true.1 hids _ (List.mem_append_left _ hi)
              simp only [Bool.and_eq_true] at this
              have h1 := Nat.le_of_ble_eq_true this.1
              have h2 : i < base + (d1.length + d2.length) := by simpa using this.2
              exact .inl ⟨h1, by simp only [List.length_cons, List.length_append]; omega⟩
            · rcases List.mem_append.1 hi with hi | hi
              · have := List.all_eq_true.1 hids _ (List.mem_append_right _ hi)
                simp only [Bool.and_eq_true] at this
                have h1 := Nat.le_of_ble_eq_true this.1
                have h2 : i < base + (d1.length + d2.length) := by simpa using this.2
                exact .inl ⟨h1, by simp only [List.length_cons, List.length_append]; omega⟩
              · simp [kills] at hi
    · exact (run_fail h).elim
  · exact (run_fail h).elim

/-- What a function does that the machine does itself. -/
def XOk (P : Program) (C : XCal) : Prop := ∀ {M : Mem} {ρ : Places} {L : Blks} {G : Nat → Prop} {a v : AV} {u : Value} {d : List (Nat × Option Blk)}, Rep M ρ L a u → (C.F a).run L done1 = some (v, d) → d = [] ∧ ∃ y, (∀ w, (callFunc C.f #[u]).run P w = .ok (.value y) w) ∧ Plain M ρ L G v y

/-- What is known of the callees. -/
structure CsOk (P : Program) (E : Env) : Prop where
  cs : ∀ (i : Nat) (C : Cal), E.cs[i]? = some C → CalOk P E.gs C
  ms : ∀ (i : Nat) (C : MCal), E.ms[i]? = some C → MCalOk P E.gs C
  bs : ∀ (i : Nat) (C : BCal), E.bs[i]? = some C → BCalOk P E.gs C
  xs : ∀ (i : Nat) (C : XCal), E.xs[i]? = some C → XOk P C

end
end Go.R

/- Operations on rows in their place; rows that become data. -/
namespace Go.R
open Go

section
variable {P : Program} {E : Env} {w0 : Start} {S G : Nat → Prop} {M : Mem} {ρ : Places} {L : Blks} {w : World} {X : Exit → Act → World → Prop} {o : Oper} {a : Act} {fr : List AV} {fs : List (List AV)} {susp : List (List Value)} {v : AV} {d : List (Nat × Option Blk)} {base : Nat}

theorem Frz.bd {cs cs' : List AV} {ids : List Nat} (h : Frz L cs cs' ids) (hb : BdL G cs) : BdL G cs' := by
  induction h with
  | nil => exact hb
  | own _ _ ih => simp only [BdL] at hb ⊢; exact ⟨by simp [Bd], ih hb.2⟩
  | ownv _ _ ih => simp only [BdL] at hb ⊢; exact ⟨by simp [Bd], ih hb.2⟩
  | other _ ih => simp only [BdL] at hb ⊢; exact ⟨hb.1, ih hb.2⟩

theorem ids_kills (ids : List Nat) : IdsOk L base (kills ids) := fun i b h => by
  obtain ⟨_, _, h⟩ := List.mem_map.1 h
  cases h

theorem move_sound (hm : SimM E w0 S G M ρ L w) {an : An} {x : AV} {xv : Value} (hx : Rep M ρ L x xv) (hb : Bd G x) (h : (moveQ an x).run L done1 = some (v, d)) :
    MemRes P E w0 S G M ρ L w (Pure.pure xv) v d ∧ IdsOk L base d := by
  unfold moveQ at h
  split at h
  · obtain ⟨cs, ids, h, hfz⟩ := frz_inv h
    split at h
    · rename_i u
      simp only [Qn.run, done1, Option.some.injEq, Prod.mk.injEq] at h
      obtain ⟨rfl, rfl⟩ := h
      have hfs := hm.freezeS (I := fun q => q ∈ ids) hfz.live (L' := ov (kills ids) L) (fun q hq => ov_kills_in hq) (fun q hq => ov_kills_out hq)
      have hle := freezeS_le hm (I := fun q => q ∈ ids) hfz.live
      have hr : RepL (freezeS w M ρ (fun q => q ∈ ids)) ρ L [u] [xv] :=
        hfz.rep hle hm (fun q hq g' c' hr' o' v' hv' => freezeS_cells hq hr' hv') (by simp only [BdL]; exact ⟨hb, trivial⟩) (by simp only [RepL]; exact ⟨_, _, rfl, hx, rfl⟩)
      have hbd : BdL G [u] := hfz.bd (by simp only [BdL]; exact ⟨hb, trivial⟩)
      simp only [BdL] at hbd
      obtain ⟨u', e, hr⟩ := RepL_one hr
      simp only [List.cons.injEq, and_true] at e
      subst e
      refine ⟨⟨xv, w, by simp, ⟨⟨_, ρ, hle, hr.mono (Mem.le_refl _) hfs.2 _ _ hbd.1, ?_, hfs.2⟩, ?_⟩⟩, ids_kills ids⟩
      · rw [grow_kills]; exact hfs.1
      · rw [grow_kills]; exact hbd.1
    · exact (run_fail h).elim
  · obtain ⟨rfl, rfl⟩ := run_pure_inv h
    refine ⟨⟨xv, w, by simp, ⟨⟨M, ρ, Mem.le_refl _, hx, ?_, Still.refl_of⟩, ?_⟩⟩, fun i b h => by simp at h⟩
    · rw [grow_nil]; exact hm
    · rw [grow_nil]; exact hb

/-! ### Captured variables that are only read from here on -/

inductive FrzB (L : Blks) : List AV → List AV → List Nat → Prop
  | nil : FrzB L [] [] []
  | box {id e cs cs' ids r vs ids'} (h : L id = some (.box e cs)) (hf : Frz L cs cs' ids) (t' : FrzB L r vs ids') : FrzB L (.ptr id 0 0 :: r) (.rptr cs' :: vs) (id :: (ids ++ ids'))
  | other {v r vs ids} (t' : FrzB L r vs ids) : FrzB L (v :: r) (v :: vs) ids

theorem frzB_inv {r : AV × List (Nat × Option Blk)} : {cs : List AV} → {k : List AV → List Nat → Go.R.Qn} → (frzB cs k).run L done1 = some r → ∃ cs' ids, (k cs' ids).run L done1 = some r ∧ FrzB L cs cs' ids
  | [], k, h => ⟨[], [], by simpa [frzB] using h, .nil⟩
  | c :: r', k, h => by
    unfold frzB at h
    split at h
    · rename_i e1; cases e1
    · rename_i id r2 e1
      cases e1
      replace h := run_ask_inv h
      split at h
      · rename_i e cs hl
        obtain ⟨cs', ids, h, hf⟩ := frz_inv h
        obtain ⟨vs, ids', h1, h2⟩ := frzB_inv h
        exact ⟨_, _, h1, .box hl hf h2⟩
      · exact (run_fail h).elim
    · rename_i v r2 _ e1
      cases e1
      obtain ⟨cs', ids, h1, h2⟩ := frzB_inv h
      exact ⟨_, _, h1, .other h2⟩

theorem FrzB.live {cs cs' : List AV} {ids : List Nat} (h : FrzB L cs cs' ids) : ∀ id ∈ ids, L id ≠ none := by
  induction h with
  | nil => simp
  | box h hf _ ih =>
    intro id hid
    rcases List.mem_cons.1 hid with rfl | hid
    · rw [h]; simp
    · rcases List.mem_append.1 hid with hid | hid
      · exact hf.live id hid
      · exact ih id hid
  | other _ ih => exact ih

theorem FrzB.bd (hm : SimM E w0 S G M ρ L w) {cs cs' : List AV} {ids : List Nat} (h : FrzB L cs cs' ids) (hb : BdL G cs) : BdL G cs' := by
  induction h with
  | nil => exact hb
  | box h hf _ ih => simp only [BdL] at hb ⊢; exact ⟨by simp only [Bd]; exact hf.bd (hm.bbx _ _ _ h), ih hb.2⟩
  | other _ ih => simp only [BdL] at hb ⊢; exact ⟨hb.1, ih hb.2⟩

theorem FrzB.rep {M' : Mem} (hM : M.le M') {cs cs' : List AV} {ids : List Nat} (h : FrzB L cs cs' ids) (hs : SimM E w0 S G M ρ L w) (hc : ∀ id ∈ ids, ∀ g c, ρ id = some (g, c) → ∀ o v, w.cell? ⟨g, o, none⟩ = some v → M' g o = some v)
    (hb : BdL G cs) {us : List Value} (hr : RepL M ρ L cs us) : RepL M' ρ L cs' us := by
  induction h generalizing us with
  | nil => simpa [RepL] using hr
  | @box id e cs cs' ids r vs ids' h hf _ ih =>
    simp only [RepL, BdL] at hr hb ⊢
    obtain ⟨v, r', rfl, h1, h2⟩ := hr
    refine ⟨v, r', rfl, ?_, ih (fun id hid => hc id (List.mem_cons_of_mem _ (List.mem_append_right _ hid))) hb.2 h2⟩
    have hbk := hs.blk id
    unfold BlkOk at hbk
    rw [h] at hbk
    dsimp only at hbk
    obtain ⟨g, cap, cur, hρ, hg, hrep⟩ := hbk
    simp only [Rep, PtrV, h] at h1
    obtain ⟨g', c', hr', _, rfl⟩ := h1
    rw [hρ] at hr'
    cases hr'
    simp only [Rep]
    refine ⟨⟨g, 0, none⟩, cur.toList, rfl, rfl, hf.rep hM hs (fun q hq => hc q (List.mem_cons_of_mem _ (List.mem_append_left _ hq))) (hs.bbx _ _ _ h) hrep, fun j u hu => ?_⟩
    refine hc id (List.mem_cons_self ..) g cap hρ _ _ ?_
    rw [cell_of_row w g _ cur _ (0, 0) hg]
    simpa using hu
  | other _ ih =>
    simp only [RepL, BdL] at hr hb ⊢
    obtain ⟨v, r', rfl, h1, h2⟩ := hr
    exact ⟨v, r', rfl, h1.mono hM Still.refl_of _ _ hb.1, ih hc hb.2 h2⟩

theorem caps_sound (hm : SimM E w0 S G M ρ L w) {f : FuncId} {cs : List AV} {us : List Value} (hr : RepL M ρ L cs us) (hb : BdL G cs) (h : (frzB cs fun vs ids => .done (.fn f vs) (kills ids)).run L done1 = some (v, d)) :
    MemRes P E w0 S G M ρ L w (Pure.pure (.func (.func f) #[] us.toArray)) v d ∧ IdsOk L base d := by
  obtain ⟨vs, ids, h, hf⟩ := frzB_inv h
  simp only [Qn.run, done1, Option.some.injEq, Prod.mk.injEq] at h
  obtain ⟨rfl, rfl⟩ := h
  have hfs := hm.freezeS (I := fun q => q ∈ ids) hf.live (L' := ov (kills ids) L) (fun q hq => ov_kills_in hq) (fun q hq => ov_kills_out hq)
  have hle := freezeS_le hm (I := fun q => q ∈ ids) hf.live
  have hr2 := hf.rep hle hm (fun q hq g' c' hr' o' v' hv' => freezeS_cells hq hr' hv') hb hr
  have hbd := hf.bd hm hb
  have hrv : Rep (freezeS w M ρ (fun q => q ∈ ids)) ρ L (.fn f vs) (.func (.func f) #[] us.toArray) := by simp only [Rep]; exact ⟨_, rfl, hr2⟩
  have hbv : Bd G (.fn f vs) := by simp only [Bd]; exact hbd
  refine ⟨⟨_, w, by simp, ⟨⟨_, ρ, hle, hrv.mono (Mem.le_refl _) hfs.2 _ _ hbv, ?_, hfs.2⟩, ?_⟩⟩, ids_kills ids⟩
  · rw [grow_kills]; exact hfs.1
  · rw [grow_kills]; exact hbv

theorem cut3_sound (hm : SimM E w0 S G M ρ L w) {ty e : TypeId} {sz : Nat} (hty : tyElem P ty = some e) (hsz : tySz P e = some sz) {av : AV} {xv : Value} (hx : Rep M ρ L av xv) {lo hi mx : Option AV} {olo ohi omx : Option Value}
    (hlo : RepO M ρ L lo olo) (hhi : RepO M ρ L hi ohi) (hmx : RepO M ρ L mx omx) (h : (cut3 av lo hi mx).run L done1 = some (v, d)) :
    d = [] ∧ PureRes P M ρ L G w (Instr.sliceAt ty xv olo ohi omx) v := by
  unfold cut3 at h
  split at h
  · rename_i k1 l k2 h' k3 m
    cases olo with
    | none => simp [RepO] at hlo
    | some vl =>
      cases ohi with
      | none => simp [RepO] at hhi
      | some vh =>
        cases omx with
        | none => simp [RepO] at hmx
        | some vm =>
          simp only [RepO, Rep] at hlo hhi hmx
          subst hlo hhi hmx
          split at h
          · rename_i id
            replace h := run_ask_inv h
            split at h
            · rename_i e' t' xs hl
              obtain ⟨hg, h⟩ := run_guard_inv h
              obtain ⟨rfl, rfl⟩ := run_pure_inv h
              simp only [Bool.and_eq_true, decide_eq_true_eq] at hg
              obtain ⟨⟨⟨g1, g2⟩, g3⟩, g4⟩ := hg
              simp only [Rep] at hx
              unfold OwnV at hx
              rw [hl] at hx
              dsimp only at hx
              obtain ⟨A, c, rfl, hin, hcase⟩ := hx
              have hlc := own_cap hm hl (hi := none) hin hcase
              simp only [vlen] at hlc
              refine ⟨rfl, .slice (if m.toNat = l.toNat then A else A.map (·.add (l.toNat * sz))) (h'.toNat - l.toNat) (m.toNat - l.toNat), ?_, ⟨by simp [Rep], by simp [Bd]⟩⟩
              simp only [Instr.sliceAt, Sem.run_bind, run_underlying (elem_ty hty), Result.andThen_ok, Instr.slice, Instr.sliceBounds, sliceBound_ok (show (0 : Int) ≤ m by omega) (show m ≤ (c : Int) by omega), sliceBound_ok (show (0 : Int) ≤ h' by omega) (show h' ≤ ((m.toNat : Nat) : Int) by omega),
                sliceBound_ok (show (0 : Int) ≤ l by omega) (show l ≤ ((h'.toNat : Nat) : Int) by omega), Sem.run_pure, run_sz hsz]
            · exact (run_fail h).elim
          · exact (run_fail h).elim
  · exact (run_fail h).elim

/-- A row of which a part is written anew. -/
theorem RowIn.splice {t : Ty} {xs ys : List (Dat t)} {cur : Array Value} {news : List Value} {b : Nat} (h : RowIn M t xs cur) (hb : b + ys.length ≤ xs.length) (hcap : xs.length * t.sz ≤ cur.size) (hn : news.length = ys.length * t.sz)
    (hnew : ∀ (i : Nat) (x : Dat t), ys[i]? = some x → ∃ us, RepS M t x us ∧ ∀ (j : Nat) (u : Value), us[j]? = some u → news[i * t.sz + j]? = some u) :
    RowIn M t (xs.take b ++ ys ++ xs.drop (b + ys.length)) (cur.toList.take (b * t.sz) ++ news ++ cur.toList.drop (b * t.sz + news.length)).toArray := fun i x hx => by
  have hfit : b * t.sz + news.length ≤ cur.size := by
    rw [hn, ← Nat.add_mul]
    exact Nat.le_trans (Nat.mul_le_mul_right _ hb) hcap
  obtain ⟨_, s2, s3⟩ := splice_cur (cur := cur) (o := b * t.sz) (us := news) hfit
  have htk : (xs.take b).length = b := by rw [List.length_take]; omega
  rcases Nat.lt_or_ge i b with hi | hi
  · rw [List.append_assoc, List.getElem?_append_left (by omega), List.getElem?_take, if_pos hi] at hx
    obtain ⟨us, k1, k2⟩ := h i x hx
    refine ⟨us, k1, fun j u hu => ?_⟩
    have hj : j < t.sz := by rw [← k1.len]; exact (List.getElem?_eq_some_iff.1 hu).1
    have : (i + 1) * t.sz ≤ b * t.sz := Nat.mul_le_mul_right _ hi
    rw [Nat.succ_mul] at this
    rw [s2 _ (.inl (by omega))]
    exact k2 j u hu
  · rcases Nat.lt_or_ge i (b + ys.length) with hi2 | hi2
    · rw [List.append_assoc, List.getElem?_append_right (by omega), htk, List.getElem?_append_left (by omega)] at hx
      obtain ⟨us, k1, k2⟩ := hnew (i - b) x hx
      refine ⟨us, k1, fun j u hu => ?_⟩
      have hk := k2 j u hu
      have hlt := (List.getElem?_eq_some_iff.1 hk).1
      have e : i * t.sz + j = b * t.sz + ((i - b) * t.sz + j) := by
        rw [← Nat.add_assoc, ← Nat.add_mul, show b + (i - b) = i by omega]
      rw [e, s3 _ hlt]
      exact hk
    · rw [List.getElem?_append_right (by simp only [List.length_append, htk]; omega)] at hx
      simp only [List.length_append, htk, List.getElem?_drop] at hx
      rw [show b + ys.length + (i - (b + ys.length)) = i by omega] at hx
      obtain ⟨us, k1, k2⟩ := h i x hx
      refine ⟨us, k1, fun j u hu => ?_⟩
      have : (b + ys.length) * t.sz ≤ i * t.sz := Nat.mul_le_mul_right _ hi2
      rw [Nat.add_mul, ← hn] at this
      rw [s2 _ (.inr (by omega))]
      exact k2 j u hu

theorem splice_len {α : Type} {xs ys : List α} {b : Nat} (hb : b + ys.length ≤ xs.length) : (xs.take b ++ ys ++ xs.drop (b + ys.length)).length = xs.length := by
  simp only [List.length_append, List.length_take, List.length_drop]
  omega

theorem ids_shape {id : Nat} {e : TypeId} {t : Ty} {xs zs : List (Dat t)} (hl : L id = some (.row e t xs)) (hz : zs.length = xs.length) : IdsOk L base [(id, some (.row e t zs))] := fun i b h => by
  simp only [List.mem_singleton, Prod.mk.injEq, Option.some.injEq] at h
  obtain ⟨rfl, rfl⟩ := h
  right
  rw [hl]
  exact ⟨rfl, rfl, hz.symm⟩

theorem room_sound (hm : SimM E w0 S G M ρ L w) {ty e tt : TypeId} {t : Ty} {bytes : Nat} (hty : tyElem P ty = some e) (he : elemIs P e t bytes = true) {sa xa : AV} {sv xv : Value} (hs : Rep M ρ L sa sv) (hbs : Bd G sa) (hx : Rep M ρ L xa xv)
    (h : (roomQ e t sa xa).run L done1 = some (v, d)) : MemRes P E w0 S G M ρ L w (Builtin.append_ #[ty, ty] tt #[sv, xv]) v d ∧ IdsOk L base d := by
  obtain ⟨i, z, hi, hsz, hby, hpos, hb0, hz, hzl, hzs⟩ := elem_run he
  have hu := elem_ty hty
  have hsz' : tySz P e = some t.sz := by simp [tySz, hi, hsz]
  unfold roomQ at h
  split at h
  · rename_i id b
    replace h := run_ask_inv h
    split at h
    · rename_i e' u xs hl
      split at h
      · rename_i hut
        subst hut
        simp only [castS_self] at h
        obtain ⟨hee, h⟩ := run_cond_inv h
        obtain rfl := Nat.eq_of_beq_eq_true hee
        obtain ⟨ys, id', h, hsrc, _⟩ := rows_inv hm hx h
        obtain ⟨hg, h⟩ := run_guard_inv h
        have hg := Nat.le_of_ble_eq_true hg
        simp only [Qn.run, done1, Option.some.injEq, Prod.mk.injEq] at h
        obtain ⟨rfl, rfl⟩ := h
        simp only [Rep] at hs
        simp only [Bd] at hbs
        have hlen := splice_len (xs := xs) (ys := ys) hg
        refine ⟨?_, ids_shape hl hlen⟩
        have hs0 := hs
        unfold OwnV at hs
        rw [hl] at hs
        dsimp only at hs
        obtain ⟨A, c, rfl, hin, hcase⟩ := hs
        simp only [inView] at hin
        have hlc := own_cap hm hl (hi := some b) (by simp only [inView]; exact hin) hcase
        simp only [vlen, Nat.sub_zero] at hlc ⊢
        obtain ⟨B, c', news, rfl, hnl, hn1, hnr, hcell⟩ := hsrc.flat
        have fin : ∀ {w' : World}, SimM E w0 S G M ρ (upd L id (some (.row e' u (xs.take b ++ ys ++ xs.drop (b + ys.length))))) w' → Still G ρ L ρ (upd L id (some (.row e' u (xs.take b ++ ys ++ xs.drop (b + ys.length))))) →
            After E w0 S G M ρ L [(id, some (.row e' u (xs.take b ++ ys ++ xs.drop (b + ys.length))))] (.ownv id 0 (some (b + ys.length))) (.slice A (b + ys.length) c) w' := fun h1 h2 => by
          refine ⟨⟨M, ρ, Mem.le_refl _, ?_, by rw [grow_cons_live hbs, grow_nil]; exact h1, h2⟩, by rw [grow_cons_live hbs, grow_nil]; simpa [Bd] using hbs⟩
          show Rep M ρ (upd L id _) _ _
          simp only [Rep]
          unfold OwnV
          rw [upd_same]
          refine ⟨A, c, by simp [vlen], by simp only [inView, hlen]; omega, ?_⟩
          rw [hlen]
          exact hcase
        rcases Nat.eq_zero_or_pos ys.length with hy0 | hyp
        · have hy : ys = [] := List.eq_nil_of_length_eq_zero hy0
          subst hy
          have hxs : xs.take b ++ ([] : List (Dat u)) ++ xs.drop (b + ([] : List (Dat u)).length) = xs := by simp
          refine ⟨_, _, append_zero hty hsz' hlc, ?_⟩
          have := fin (w' := w)
          rw [hxs] at this ⊢
          have hL : upd L id (some (.row e' u xs)) = L := by
            funext q
            by_cases eq : q = id
            · subst eq; rw [upd_same, hl]
            · rw [upd_other _ _ eq]
          rw [hL] at this
          exact this hm Still.refl_of
        · rcases hcase with ⟨h1, h2⟩ | ⟨g, cap, hr, hA, hcap⟩
          · omega
          · have hcell' : ∃ ad, B = some ad ∧ ∀ j u, news[j]? = some u → w.cell? (ad.add j) = some u := by
              rcases hcell with h | h
              · exact h
              · subst h; simp at hyp
            clear hcell
            obtain ⟨ad, rfl, hcell⟩ := hcell'
            have hblk := hm.blk id
            unfold BlkOk at hblk
            rw [hl] at hblk
            dsimp only at hblk
            rw [hr] at hblk
            obtain ⟨_, cur, hgc, q1, q2, q3, q4⟩ := hblk
            simp only [Nat.zero_mul, Nat.zero_add] at hA hcap
            subst hcap hA
            have hroom : b + ys.length ≤ c := by omega
            have hfit : b * i.size + news.length ≤ cur.size := by
              rw [hsz, hnl, q3, ← Nat.add_mul]
              exact Nat.mul_le_mul_right _ hroom
            have hrun := run_append_room (P := P) w ty tt e' i hu hi g b c cur hgc ad ys.length c' news (by rw [hsz]; exact hnl) hcell hn1 hroom hfit
            rw [hsz] at hrun hfit
            obtain ⟨s1, _, _⟩ := splice_cur (cur := cur) (o := b * u.sz) (us := news) hfit
            have hw := hm.write (b' := .row e' u (xs.take b ++ ys ++ xs.drop (b + ys.length))) (cur' := (cur.toList.take (b * u.sz) ++ news ++ cur.toList.drop (b * u.sz + news.length)).toArray) hl hr hgc (by simp only [Alike]; exact ⟨trivial, hlen.symm⟩)
              ⟨rfl, hpos, by rw [hlen]; exact q1, q2, by rw [s1, q3], q4.splice hg (by rw [q3]; exact Nat.mul_le_mul_right _ q1) hnl hnr⟩
            exact ⟨_, _, hrun, fin hw.1 hw.2⟩
      · exact (run_fail h).elim
    · exact (run_fail h).elim
  · exact (run_fail h).elim


theorem clear_run {ty e tt : TypeId} {z : Value} (hu : P.underlying ty = some (.slice e)) (hz : ∀ w, (zeroValue e).run P w = .ok z w) (h1 : ∀ u ∈ z.cells.toList, u.oneCell' = true) {g q n c : Nat} {cur : Array Value} (hg : w.heap[g]? = some (.cells cur e (0, 0))) (hn : 0 < n) (hfit : q + n * z.cells.size ≤ cur.size) :
    (Builtin.clear_ #[ty] tt #[.slice (some ⟨g, q, none⟩) n c]).run P w = .ok (.tuple #[]) (w.setRow g (cur.toList.take q ++ (Builtin.zeroCells z.cells n).toList ++ cur.toList.drop (q + (Builtin.zeroCells z.cells n).toList.length)).toArray) := by
  have hl : (Builtin.zeroCells z.cells n).toList.length = n * z.cells.size := by rw [Array.length_toList, size_zeroCells]
  have hst := run_storeCells_at P g q e (Builtin.zeroCells z.cells n).toList 0 cur w hg (by rw [hl]; omega) (fun v hv => by
    rw [Array.mem_toList_iff] at hv
    simp only [Builtin.zeroCells, Array.mem_map, Array.mem_range] at hv
    obtain ⟨k, hk, rfl⟩ := hv
    have hs : 0 < z.cells.size := by
      rcases Nat.eq_zero_or_pos z.cells.size with h0 | h0
      · rw [h0] at hk; simp at hk
      · exact h0
    have hlt := Nat.mod_lt k hs
    rw [getElem!_pos z.cells _ hlt]
    exact h1 _ (by simp))
  simp only [Nat.add_zero] at hst
  obtain ⟨m, rfl⟩ : ∃ m, n = m + 1 := ⟨n - 1, by omega⟩
  simp [Builtin.clear_, run_underlying hu, hz, hst]

theorem clear_sound (hm : SimM E w0 S G M ρ L w) {ty e tt : TypeId} {t : Ty} {bytes : Nat} (hty : tyElem P ty = some e) (he : elemIs P e t bytes = true) {sa : AV} {sv : Value} (hs : Rep M ρ L sa sv) (hbs : Bd G sa)
    (h : (clearQ e t sa).run L done1 = some (v, d)) : MemRes P E w0 S G M ρ L w (Builtin.clear_ #[ty] tt #[sv]) v d ∧ IdsOk L base d := by
  obtain ⟨i, z, hi, hsz, hby, hpos, hb0, hz, hzl, hzs⟩ := elem_run he
  have hu := elem_ty hty
  have hz0 : ∀ w, (zeroValue e).run P w = .ok z w := fun w => by simp [zeroValue, typeInfo, hi, hz]
  unfold clearQ at h
  split at h
  · rename_i id lo hh
    replace h := run_ask_inv h
    split at h
    · rename_i e' u xs hl
      split at h
      · rename_i hut
        subst hut
        simp only [castS_self] at h
        obtain ⟨hee, h⟩ := run_cond_inv h
        obtain rfl := Nat.eq_of_beq_eq_true hee
        simp only [Qn.run, done1, Option.some.injEq, Prod.mk.injEq] at h
        obtain ⟨rfl, rfl⟩ := h
        simp only [Rep] at hs
        simp only [Bd] at hbs
        unfold OwnV at hs
        rw [hl] at hs
        dsimp only at hs
        obtain ⟨A, c, rfl, hin, hcase⟩ := hs
        simp only [inView] at hin
        have hfill : lo + (List.replicate (hh - lo) u.dflt).length = hh := by rw [List.length_replicate]; omega
        have hlen : (xs.take lo ++ List.replicate (hh - lo) u.dflt ++ xs.drop hh).length = xs.length := by
          have := splice_len (xs := xs) (ys := List.replicate (hh - lo) u.dflt) (b := lo) (by rw [hfill]; exact hin.2)
          rwa [hfill] at this
        refine ⟨?_, ids_shape hl hlen⟩
        have fin : ∀ {w' : World}, SimM E w0 S G M ρ (upd L id (some (.row e' u (xs.take lo ++ List.replicate (hh - lo) u.dflt ++ xs.drop hh)))) w' → Still G ρ L ρ (upd L id (some (.row e' u (xs.take lo ++ List.replicate (hh - lo) u.dflt ++ xs.drop hh)))) →
            After E w0 S G M ρ L [(id, some (.row e' u (xs.take lo ++ List.replicate (hh - lo) u.dflt ++ xs.drop hh)))] (.tup []) (.tuple #[]) w' := fun h1 h2 => by
          refine ⟨⟨M, ρ, Mem.le_refl _, by simp only [Rep]; exact ⟨#[], rfl, by simp [RepL]⟩, by rw [grow_cons_live hbs, grow_nil]; exact h1, h2⟩, by simp [Bd, BdL]⟩
        rcases Nat.eq_zero_or_pos (hh - lo) with hy0 | hyp
        · have e0 : hh = lo := by omega
          subst e0
          have hxs : xs.take hh ++ List.replicate (hh - hh) u.dflt ++ xs.drop hh = xs := by simp
          simp only [vlen, Nat.sub_self]
          refine ⟨.tuple #[], w, ?_, ?_⟩
          · cases A <;> simp [Builtin.clear_, run_underlying hu]
          · have := fin (w' := w)
            rw [Nat.sub_self] at hxs this
            rw [hxs] at this ⊢
            have hL : upd L id (some (.row e' u xs)) = L := by
              funext q
              by_cases eq : q = id
              · subst eq; rw [upd_same, hl]
              · rw [upd_other _ _ eq]
            rw [hL] at this
            exact this hm Still.refl_of
        · rcases hcase with ⟨h1, h2⟩ | ⟨g, cap, hr, hA, hcap⟩
          · omega
          · have hblk := hm.blk id
            unfold BlkOk at hblk
            rw [hl] at hblk
            dsimp only at hblk
            rw [hr] at hblk
            obtain ⟨_, cur, hgc, q1, q2, q3, q4⟩ := hblk
            subst hA
            simp only [vlen]
            have hfit : lo * u.sz + (hh - lo) * z.cells.size ≤ cur.size := by
              rw [hzs, q3, ← Nat.add_mul]
              exact Nat.mul_le_mul_right _ (by omega)
            have hnl : (Builtin.zeroCells z.cells (hh - lo)).toList.length = (hh - lo) * u.sz := by rw [Array.length_toList, size_zeroCells, hzs]
            have hrun := clear_run (P := P) (w := w) (tt := tt) (c := c) hu hz0 (fun v hv => by rw [hzl] at hv; exact (RepS_dflt M u).one v hv) hgc hyp hfit
            obtain ⟨s1, _, _⟩ := splice_cur (cur := cur) (o := lo * u.sz) (us := (Builtin.zeroCells z.cells (hh - lo)).toList) (by rw [hnl]; rw [hzs] at hfit; exact hfit)
            have hsp := q4.splice (ys := List.replicate (hh - lo) u.dflt) (news := (Builtin.zeroCells z.cells (hh - lo)).toList) (b := lo) (by rw [hfill]; exact hin.2) (by rw [q3]; exact Nat.mul_le_mul_right _ q1) (by rw [hnl, List.length_replicate]) (fun k x hx => by
              have hk : k < hh - lo := by have := (List.getElem?_eq_some_iff.1 hx).1; rwa [List.length_replicate] at this
              rw [List.getElem?_replicate, if_pos hk, Option.some.injEq] at hx
              subst hx
              refine ⟨_, RepS_dflt M u, fun j v hv => ?_⟩
              have hj : j < u.sz := by rw [← (RepS_dflt M u).len]; exact (List.getElem?_eq_some_iff.1 hv).1
              have := made_get z.cells u hzl hzs (hh - lo) k j hk hj
              rw [Array.getElem?_toList, ← hv, ← this]
              unfold Builtin.zeroCells madeCells
              rw [hzs])
            rw [hfill] at hsp
            have hw := hm.write (b' := .row e' u (xs.take lo ++ List.replicate (hh - lo) u.dflt ++ xs.drop hh)) hl hr hgc (by simp only [Alike]; exact ⟨trivial, hlen.symm⟩)
              ⟨rfl, hpos, by rw [hlen]; exact q1, q2, by rw [s1, q3], hsp⟩
            exact ⟨_, _, hrun, fin hw.1 hw.2⟩
      · exact (run_fail h).elim
    · exact (run_fail h).elim
  · exact (run_fail h).elim

theorem zeros_sound (hm : SimM E w0 S G M ρ L w) {ty tn e tt : TypeId} {t : Ty} {bytes : Nat} {kn : IntKind} (hty : tyElem P ty = some e) (he : elemIs P e t bytes = true) (hI : P.underlying tn = some (.int kn)) {sa xa : AV} {sv xv : Value} (hs : Rep M ρ L sa sv) (hx : Rep M ρ L xa xv) {base : Nat} (hn : ¬ G base)
    (h : (zerosQ e t bytes base sa xa).run L done1 = some (v, d)) : MemRes P E w0 S G M ρ L w (Builtin.append_ #[ty, tn] tt #[sv, xv]) v d := by
  obtain ⟨i, z, hi, hsz, hby, hpos, hb0, hz, hzl, hzs⟩ := elem_run he
  have hu := elem_ty hty
  have nil : ∀ {A : Option Addr} {n : Int}, sv = .slice A 0 0 → xv = .int .i64 n → (Qn.guard (decide (1 ≤ n) && decide (n * (bytes : Int) ≤ 281474976710656)) (.done (.own base) [(base, some (.row e t (List.replicate n.toNat t.dflt)))])).run L done1 = some (v, d) → MemRes P E w0 S G M ρ L w (Builtin.append_ #[ty, tn] tt #[sv, xv]) v d := by
    intro A n hsv hxv h
    obtain ⟨hg, h⟩ := run_guard_inv h
    simp only [Qn.run, done1, Option.some.injEq, Prod.mk.injEq] at h
    obtain ⟨rfl, rfl⟩ := h
    simp only [Bool.and_eq_true, decide_eq_true_eq] at hg
    obtain ⟨g1, g2⟩ := hg
    obtain ⟨k, rfl⟩ : ∃ k : Nat, n = k := ⟨n.toNat, by omega⟩
    rw [Int.toNat_natCast]
    have hkb : k * bytes ≤ 281474976710656 := by
      rw [← Int.natCast_mul] at g2
      omega
    have hk : k ≤ 281474976710656 := Nat.le_trans (Nat.le_mul_of_pos_right _ hb0) hkb
    have hold : (Builtin.firstCells i.size 0 (.slice A 0 0)).run P w.drew = .ok ([] : List Value).toArray w.drew := by
      cases A <;> simp [Builtin.firstCells, loadCells, loadCellsFrom]
    have hr := Lib.run_append_grow_zeros (P := P) w ty tn tt e i z .i64 kn hu hI hi hz A 0 0 [] hold k (by omega) (by omega) (by omega) (by omega) (by rw [hby]; omega) (by rw [hby, Nat.zero_add]; unfold Builtin.nextslicecap; rw [if_pos (by omega)]; exact hkb)
    have hge := grownCap_ge w (0 + k) 0 e
    have hle := grownCap_le_maxLen w (0 + k) 0 e (by simp only [maxLen]; omega)
    rw [hsv, hxv]
    refine ⟨_, _, hr, After.alloc (b := .row e t (List.replicate k t.dflt)) hm.drew hn (cap := grownCap w (0 + k) 0 e) ⟨rfl, hpos, by rw [List.length_replicate]; omega, hle, ?_, rowIn_replicate fun q j hq hj => ?_⟩ ?_ (by simp [Bd])⟩
    · rw [Array.size_append, Array.size_append, size_zeroCells, size_zeroCells, hzs, List.size_toArray, List.length_nil, Nat.zero_add, ← Nat.add_mul]
      congr 1
      omega
    · have hlt : q * t.sz + j < k * t.sz := by
        have : (q + 1) * t.sz ≤ k * t.sz := Nat.mul_le_mul_right _ hq
        rw [Nat.succ_mul] at this
        omega
      have hzc : (Builtin.zeroCells z.cells k).size = k * t.sz := by rw [size_zeroCells, hzs]
      rw [Array.getElem?_append_left (by rw [Array.size_append, hzc]; omega), Array.getElem?_append_right (by simp), List.size_toArray, List.length_nil, Nat.sub_zero]
      have := made_get z.cells t hzl hzs k q j hq hj
      rw [← this]
      unfold Builtin.zeroCells madeCells
      rw [hzs]
    · have := rep_row_own (M := M) (ρ := ρ) (L := L) (n := base) (g := w.drew.heap.size) (cap := grownCap w (0 + k) 0 e) (e := e) (t := t) (xs := List.replicate k t.dflt)
      rw [List.length_replicate] at this
      rw [Nat.zero_add] at this ⊢
      exact this
  unfold zerosQ at h
  split at h
  · simp only [Rep] at hs
    split at h
    · simp only [Rep] at hx
      exact nil hs hx h
    · exact (run_fail h).elim
  · simp only [Rep] at hs
    obtain ⟨A, hs⟩ := hs
    split at h
    · simp only [Rep] at hx
      exact nil hs hx h
    · exact (run_fail h).elim
  · exact (run_fail h).elim

end
end Go.R

/- Every operation. -/
namespace Go.R
open Go

/-! ### What is asked of an operation's types -/

def arrIs (P : Program) (t : TypeId) (n sz : Nat) : Option TypeId := match tyArr P t with
  | some (m, e) => cond (Nat.beq m n && (tySz P e == some sz)) (some e) none
  | none => none

def elemT (P : Program) (t e : TypeId) : Bool := tyElem P t == some e

def chkCall (P : Program) (an : An) (c : Call) : Bool :=
  match c.callee with
  | .builtin .len => match an, c.argTypes.toList with
    | .elem e _ _, [t] => elemT P t e
    | .n, [t] => tyStr P t
    | _, _ => false
  | .builtin .cap => match an, c.argTypes.toList with
    | .elem e _ _, [t] => elemT P t e
    | _, _ => false
  | .builtin .append => match an, c.argTypes.toList with
    | .elem e ty b, [t, u] => Nat.beq t u && elemT P t e && elemIs P e ty b
    | .room e ty b, [t, u] => Nat.beq t u && elemT P t e && elemIs P e ty b
    | .elemz e ty b, [t, u] => (tyInt P u).isSome && elemT P t e && elemIs P e ty b
    | _, _ => false
  | .builtin .clear => match an, c.argTypes.toList with
    | .elem e ty b, [t] => elemT P t e && elemIs P e ty b
    | _, _ => false
  | _ => true

def isNilIf : Operand → Bool
  | .const .nilIface => true
  | _ => false

theorem isNilIf_eq {x : Operand} (h : isNilIf x = true) : x = .const .nilIface := by
  unfold isNilIf at h
  split at h
  · rfl
  · cases h

def chkBin (P : Program) (an : An) (t : TypeId) (y : Operand) : Bool :=
  match an with
  | .eqs ty => eqOk P 30 t ty && !(P.eqGuardType P.depth t) && tyAgg P t == some true
  | .eqt .bool => match P.underlying t with | some .bool => true | _ => false
  | .eqt (.slice _) => (tyElem P t).isSome
  | .eqt .unit => match P.underlying t with | some (.pointer _) => true | _ => false
  | .eqt .err => isNilIf y && match P.underlying t with | some (.interface _) => true | _ => false
  | _ => true

def chkOp (P : Program) (an : An) (op : Op) : Bool :=
  match op with
  | .binOp _ t _ y _ => chkBin P an t y
  | .convert s t _ => (P.underlying s).isSome && match an with
    | .conv k => tyInt P t == some k
    | .n => tyStr P t
    | .eqt .flt => tyFlt P t
    | _ => true
  | .fieldAddr s _ f => match an with
    | .off q => match tyField P s f with
      | some (o, ft) => Nat.beq o q && match tySz P ft with | some (_ + 1) => true | _ => false
      | none => false
    | _ => true
  | .field t _ f => match an with
    | .part off sz agg => match tyField P t f with
      | some (o, ft) => Nat.beq o off && tySz P ft == some sz && tyAgg P ft == some agg
      | none => false
    | _ => true
  | .index t _ _ => match an with
    | .idx n sz agg | .idxS n sz agg => match arrIs P t n sz with
      | some e => tyAgg P e == some agg
      | none => false
    | .n => tyStr P t
    | _ => true
  | .indexAddr t _ _ => match an with
    | .idxA n sz | .idxAs n sz => (arrIs P t n sz).isSome
    | .elem e ty _ => elemT P t e && tySz P e == some ty.sz
    | _ => true
  | .load t _ => match an with
    | .load sz agg => tySz P t == some sz && tyAgg P t == some agg
    | .loadDyn => tyAgg P t == some false
    | _ => true
  | .store t _ _ => match an with
    | .store sz => tySz P t == some sz
    | .nstore => tySz P t == some 1
    | _ => true
  | .alloc e => match an with
    | .cells z => zeroIs P e (avsEq z)
    | _ => true
  | .build t _ => match an with
    | .build z places => zeroIs P t (avsEq z) && placesOk P t places z.length
    | _ => true
  | .buildSlice t len _ => match an with
    | .elem e ty b => elemT P t e && elemIs P e ty b && Nat.ble (len * ty.sz) 16777216
    | .elemz e ty b => elemT P t e && elemIs P e ty b && Nat.ble (len * ty.sz) 16777216
    | _ => true
  | .makeSlice t _ _ => match an with
    | .elem e ty b => elemT P t e && elemIs P e ty b
    | _ => true
  | .slice t _ _ _ _ => match an with
    | .elem e ty _ => elemT P t e && tySz P e == some ty.sz
    | .cut e sz => elemT P t e && tySz P e == some sz
    | .n => tyStr P t
    | _ => true
  | .call c => chkCall P an c
  | _ => true

theorem elemT_eq {P : Program} {t e : TypeId} (h : elemT P t e = true) : tyElem P t = some e := by simpa [elemT] using h

theorem arrIs_eq {P : Program} {t e : TypeId} {n sz : Nat} (h : arrIs P t n sz = some e) : tyArr P t = some (n, e) ∧ tySz P e = some sz := by
  unfold arrIs at h
  split at h
  · rename_i m e' hu
    cases hc : (Nat.beq m n && (tySz P e' == some sz)) with
    | false => rw [hc] at h; cases h
    | true =>
      rw [hc] at h
      simp only [cond_true, Option.some.injEq] at h
      subst h
      simp only [Bool.and_eq_true, beq_iff_eq] at hc
      have := Nat.eq_of_beq_eq_true hc.1
      subst this
      exact ⟨hu, hc.2⟩
  · cases h

section
variable {P : Program} {E : Env} {w0 : Start} {S G : Nat → Prop} {M : Mem} {ρ : Places} {L : Blks} {w : World} {X : Exit → Act → World → Prop} {o : Oper} {a : Act} {fr : List AV} {fs : List (List AV)} {susp : List (List Value)} {v : AV} {d : List (Nat × Option Blk)} {ra : Operand → AV} {base : Nat}

theorem IdsOk.nil : IdsOk L base [] := fun _ _ h => by simp at h
theorem IdsOk.one {b : Blk} {r : List (Nat × Option Blk)} (hr : ∀ i c, (i, some c) ∉ r) : IdsOk L base ((base, some b) :: r) := fun i c h => by
  rcases List.mem_cons.1 h with h | h
  · cases h; exact .inl ⟨Nat.le_refl _, by simp⟩
  · exact absurd h (hr i c)

/-- What op_sound says. -/
def Sound (P : Program) (E : Env) (w0 : Start) (S G : Nat → Prop) (M : Mem) (ρ : Places) (L : Blks) (o : Oper) (a : Act) (w : World) (X : Exit → Act → World → Prop) (base : Nat) (v : AV) (d : List (Nat × Option Blk)) : Prop :=
  OpRes P E w0 S G M ρ L o a w X v d ∧ IdsOk L base d

theorem Sound.of_pure (h : SimM E w0 S G M ρ L w) {s : Go.Sem Value} (he : ∀ w, (execOp a.eval o).run P w = (s.run P w).andThen fun v w => .ok (.value v) w) (hp : d = [] ∧ PureRes P M ρ L G w s v) : Sound P E w0 S G M ρ L o a w X base v d :=
  ⟨OpRes.of_pure h he hp, by rw [hp.1]; exact IdsOk.nil⟩

theorem OpRes.of_op {o' : Oper} (h1 : o'.op = o.op) (h2 : o'.dst = o.dst) (h3 : o'.type = o.type) (h : OpRes P E w0 S G M ρ L o' a w X v d) : OpRes P E w0 S G M ρ L o a w X v d := by
  unfold OpRes Oper.wp at h ⊢
  have e : execOp a.eval o' = execOp a.eval o := by
    unfold execOp
    rw [h1, h3]
  rw [e] at h
  rw [h2] at h
  cases hr : (execOp a.eval o).run P w with
  | ok n w' =>
    rw [hr] at h
    cases n <;> simp only [Oper.upon, h2] at h ⊢ <;> exact h
  | halt r w' =>
    rw [hr] at h
    cases r <;> simp only [Oper.upon] at h ⊢ <;> exact h

theorem pure_of {v' v2 : AV} {u : Value} (h : (Qn.pure v').run L done1 = some (v2, d)) (hr : Rep M ρ L v' u) (hb : Bd G v') : d = [] ∧ PureRes P M ρ L G w (Pure.pure u) v2 := by
  obtain ⟨rfl, rfl⟩ := run_pure_inv h
  exact ⟨rfl, u, by simp, ⟨hr, hb⟩⟩

theorem strSlice_sound {ty : TypeId} (hty : tyStr P ty = true) {s : ByteArray} {lo hi mx : Option AV} {olo ohi omx : Option Value} (hlo : RepO M ρ L lo olo) (hhi : RepO M ρ L hi ohi) (hmx : RepO M ρ L mx omx)
    (h : (sliceQ .unit (.str s) lo hi mx).run L done1 = some (v, d)) : d = [] ∧ PureRes P M ρ L G w (Instr.sliceAt ty (.string s) olo ohi omx) v := by
  cases mx with
  | some m =>
    simp only [sliceQ] at h
    cases hi with
    | none => exact (run_fail h).elim
    | some h' =>
      simp only [AV.isSlice, Bool.and_false] at h
      exact (run_fail h).elim
  | none =>
    cases omx with
    | some m => simp [RepO] at hmx
    | none =>
      simp only [sliceQ] at h
      obtain ⟨l, h', h, hb, hl1, hl2⟩ := bounds_sound (P := P) (w := w) h hlo hhi false (Nat.le_refl _)
      obtain ⟨rfl, rfl⟩ := run_pure_inv h
      refine ⟨rfl, _, ?_, plain_str _⟩
      simp only [Instr.sliceAt, Sem.run_bind, run_underlying (str_ty hty), Result.andThen_ok, Instr.slice, Option.isSome_none, Bool.false_eq_true, if_false, hb, Sem.run_pure]

theorem RepO.of_map (hev : EvOk M ρ L G ra a) (x : Option Operand) : RepO M ρ L (x.map ra) (x.map a.eval) := by
  cases x with
  | none => simp [RepO]
  | some x => exact (hev x).1

theorem bin_sound {an : An} {op : BinOp} {t : TypeId} {ox oy : Operand} {x y : AV} (hk : chkBin P an t oy = true) (hx : Rep M ρ L x (a.eval ox)) (hy : Rep M ρ L y (a.eval oy)) (h : (binQ an op x y).run L done1 = some (v, d)) :
    (eqGuard op t ox oy (a.eval ox) (a.eval oy)).run P w = .ok () w ∧ d = [] ∧ PureRes P M ρ L G w (binOp op t (a.eval ox) (a.eval oy)) v := by
  generalize a.eval ox = xv at *
  generalize a.eval oy = yv at *
  unfold binQ at h
  split at h
  · rename_i k n k' n'
    have := rep_int hx
    have := rep_int hy
    subst xv yv
    refine ⟨eqGuard_skip (by simp) (by simp), ?_⟩
    split at h
    · exact ishift_sound h t
    · rename_i hs
      split at h
      · rename_i hkk
        subst hkk
        exact ibin_sound h t hs
      · exact (run_fail h).elim
  · have := rep_str hx
    have := rep_str hy
    subst xv yv
    exact ⟨eqGuard_skip (by simp) (by simp), sbin_sound h t⟩
  · have := rep_flt hx
    have := rep_flt hy
    subst xv yv
    exact ⟨eqGuard_skip (by simp) (by simp), fbin_sound h t⟩
  · have := rep_bool hx
    have := rep_bool hy
    subst xv yv
    refine ⟨eqGuard_skip (by simp) (by simp), ?_⟩
    split at h
    · simp only [chkBin] at hk
      split at hk
      · exact eqBool_sound ‹_› h
      · cases hk
    · exact (run_fail h).elim
  · split at h
    · rename_i ty
      obtain ⟨_, h⟩ := run_cond_inv h
      simp only [chkBin, Bool.and_eq_true, Bool.not_eq_true', beq_iff_eq] at hk
      exact eqStruct_sound hk.1.1 hk.1.2 hk.2 hx hy h
    · exact (run_fail h).elim
  · split at h
    · simp only [chkBin] at hk
      obtain ⟨e, he⟩ := Option.isSome_iff_exists.1 hk
      obtain ⟨⟨A, n, c, rfl, rfl⟩, h2⟩ := nilQ_sound (G := G) (w := w) (elem_ty he) hx hy h
      exact ⟨eqGuard_skip (by simp) (by simp), h2⟩
    · simp only [chkBin, Bool.and_eq_true] at hk
      obtain ⟨hy0, hk⟩ := hk
      split at h
      · rename_i b _ _ _ _ _
        split at hk
        · rename_i ms hu
          simp only [Rep] at hx hy
          have hyv := hy.1 trivial
          subst hyv
          have hcase : xv = .nilIface ∨ ∃ u p, xv = .iface u p := by
            cases b with
            | false => exact .inl (hx.1 rfl)
            | true => exact .inr (hx.2 rfl)
          refine ⟨?_, if_fin (b := !b) (eqIf_run hu hx) hcase h⟩
          rw [isNilIf_eq hy0]
          unfold eqGuard
          rcases hcase with rfl | ⟨u, p, rfl⟩
          · cases op <;> simp
          · cases op <;> simp
        · cases hk
      · exact (run_fail h).elim
    · simp only [chkBin] at hk
      split at hk
      · rename_i e hu
        split at h
        · simp only [Rep] at hx hy
          obtain ⟨b, q, rfl⟩ := hx.form
          subst hy
          exact ⟨eqGuard_skip (by simp) (by simp), nil_fin (b := false) (by rw [eqPtr_run hu]; rfl) (.inr ⟨_, _, rfl, rfl⟩) h⟩
        · simp only [Rep] at hx hy
          subst hx hy
          exact ⟨eqGuard_skip (by simp) (by simp), nil_fin (b := true) (by rw [eqPtr_run hu]; rfl) (.inr ⟨_, _, rfl, rfl⟩) h⟩
        · exact (run_fail h).elim
      · cases hk
    · exact (run_fail h).elim

theorem map2 {args : Array Operand} {f : Operand → AV} {x y : AV} (h : args.toList.map f = [x, y]) : ∃ p q, args = #[p, q] ∧ f p = x ∧ f q = y := by
  obtain ⟨l⟩ := args
  match l, h with
  | [p, q], h => simp only [List.map_cons, List.map_nil, List.cons.injEq, and_true] at h; exact ⟨p, q, rfl, h.1, h.2⟩

theorem map3 {args : Array Operand} {f : Operand → AV} {x y z : AV} (h : args.toList.map f = [x, y, z]) : ∃ p q r, args = #[p, q, r] ∧ f p = x ∧ f q = y ∧ f r = z := by
  obtain ⟨l⟩ := args
  match l, h with
  | [p, q, r], h => simp only [List.map_cons, List.map_nil, List.cons.injEq, and_true] at h; exact ⟨p, q, r, rfl, h.1, h.2.1, h.2.2⟩

theorem args_rep (hev : EvOk M ρ L G ra a) (args : Array Operand) : RepL M ρ L (args.toList.map ra) (args.map a.eval).toList ∧ BdL G (args.toList.map ra) := by
  rw [Array.toList_map]
  generalize args.toList = l
  induction l with
  | nil => simp [RepL, BdL]
  | cons p l ih => simp only [List.map_cons, RepL, BdL]; exact ⟨⟨_, _, rfl, (hev p).1, ih.1⟩, (hev p).2, ih.2⟩

theorem chk_len {an : An} {c : Call} (hcal : c.callee = .builtin .len) (hk : chkCall P an c = true) : (∃ e ty b t, an = .elem e ty b ∧ c.argTypes = #[t] ∧ elemT P t e = true) ∨ (an = .n ∧ ∃ t, c.argTypes = #[t] ∧ tyStr P t = true) := by
  unfold chkCall at hk
  rw [hcal] at hk
  dsimp only at hk
  cases hl : c.argTypes.toList with
  | nil => rw [hl] at hk; cases an <;> cases hk
  | cons t l =>
    rw [hl] at hk
    cases l with
    | cons u l => cases an <;> cases hk
    | nil =>
      have ht : c.argTypes = #[t] := Array.ext' (by simpa using hl)
      cases an <;> dsimp only at hk <;> try (cases hk; done)
      · exact .inr ⟨rfl, t, ht, hk⟩
      · exact .inl ⟨_, _, _, t, rfl, ht, hk⟩

theorem chk_cap {an : An} {c : Call} (hcal : c.callee = .builtin .cap) (hk : chkCall P an c = true) : ∃ e ty b t, an = .elem e ty b ∧ c.argTypes = #[t] ∧ elemT P t e = true := by
  unfold chkCall at hk
  rw [hcal] at hk
  dsimp only at hk
  cases hl : c.argTypes.toList with
  | nil => rw [hl] at hk; cases an <;> cases hk
  | cons t l =>
    rw [hl] at hk
    cases l with
    | cons u l => cases an <;> cases hk
    | nil =>
      have ht : c.argTypes = #[t] := Array.ext' (by simpa using hl)
      cases an <;> dsimp only at hk <;> try (cases hk; done)
      exact ⟨_, _, _, t, rfl, ht, hk⟩

theorem chk_zeros {e : TypeId} {ty : Ty} {b : Nat} {c : Call} (hcal : c.callee = .builtin .append) (hk : chkCall P (.elemz e ty b) c = true) : ∃ t u kn, c.argTypes = #[t, u] ∧ P.underlying u = some (.int kn) ∧ elemT P t e = true ∧ elemIs P e ty b = true := by
  unfold chkCall at hk
  rw [hcal] at hk
  dsimp only at hk
  cases hl : c.argTypes.toList with
  | nil => rw [hl] at hk; cases hk
  | cons t l =>
    rw [hl] at hk
    cases l with
    | nil => cases hk
    | cons u l =>
      cases l with
      | cons q l => cases hk
      | nil =>
        simp only [Bool.and_eq_true] at hk
        obtain ⟨⟨h1, h2⟩, h3⟩ := hk
        obtain ⟨kn, hkn⟩ := Option.isSome_iff_exists.1 h1
        exact ⟨t, u, kn, Array.ext' (by simpa using hl), int_ty hkn, h2, h3⟩

theorem chk_append {an : An} {c : Call} (hcal : c.callee = .builtin .append) (hz : ∀ e ty b, an ≠ .elemz e ty b) (hk : chkCall P an c = true) : ∃ e ty b t, (an = .elem e ty b ∨ an = .room e ty b) ∧ c.argTypes = #[t, t] ∧ elemT P t e = true ∧ elemIs P e ty b = true := by
  unfold chkCall at hk
  rw [hcal] at hk
  dsimp only at hk
  cases hl : c.argTypes.toList with
  | nil => rw [hl] at hk; cases an <;> cases hk
  | cons t l =>
    rw [hl] at hk
    cases l with
    | nil => cases an <;> cases hk
    | cons u l =>
      cases l with
      | cons q l => cases an <;> cases hk
      | nil =>
        cases an <;> dsimp only at hk <;> try (cases hk; done)
        case elemz e ty b => exact absurd rfl (hz e ty b)
        all_goals
          simp only [Bool.and_eq_true] at hk
          have htu := Nat.eq_of_beq_eq_true hk.1.1
          subst htu
          exact ⟨_, _, _, t, by first | exact .inl rfl | exact .inr rfl, Array.ext' (by simpa using hl), hk.1.2, hk.2⟩

theorem chk_clear {an : An} {c : Call} (hcal : c.callee = .builtin .clear) (hk : chkCall P an c = true) : ∃ e ty b t, an = .elem e ty b ∧ c.argTypes = #[t] ∧ elemT P t e = true ∧ elemIs P e ty b = true := by
  unfold chkCall at hk
  rw [hcal] at hk
  dsimp only at hk
  cases hl : c.argTypes.toList with
  | nil => rw [hl] at hk; cases an <;> cases hk
  | cons t l =>
    rw [hl] at hk
    cases l with
    | cons q l => cases an <;> cases hk
    | nil =>
      cases an <;> dsimp only at hk <;> try (cases hk; done)
      simp only [Bool.and_eq_true] at hk
      exact ⟨_, _, _, t, rfl, Array.ext' (by simpa using hl), hk.1, hk.2⟩

theorem call_sound (hC : CsOk P E) (hm : SimM E w0 S G M ρ L w) (hev : EvOk M ρ L G ra a) {an : An} {c : Call} (ho : o.op = .call c) (hk : chkCall P an c = true) (hn : ∀ i, base ≤ i → i < base + d.length → ¬ G i)
    (h : (callQ E an c ra base).run L done1 = some (v, d)) : Sound P E w0 S G M ρ L o a w X base v d := by
  unfold callQ at h
  split at h
  · -- len
    rename_i hcal
    split at h
    · rename_i e ty b x hargs
      have hargs : c.args = #[x] := Array.ext' (by simpa using hargs)
      rcases chk_len hcal hk with ⟨e', ty', b', t, hs, hts, hk⟩ | ⟨hs, _⟩
      · cases hs
        refine Sound.of_pure (s := Builtin.len_ #[t] o.type #[a.eval x]) hm (fun w => ?_) (len_sound hm (elemT_eq hk) (hev x).1 h)
        simp [execOp, ho, resolve, hcal, invoke, builtin, hargs, hts]
      · cases hs
    · rename_i x hargs
      have hargs : c.args = #[x] := Array.ext' (by simpa using hargs)
      rcases chk_len hcal hk with ⟨e', ty', b', t, hs, _⟩ | ⟨_, t, hts, hk⟩
      · cases hs
      · split at h
        · rename_i s hx
          obtain ⟨rfl, rfl⟩ := run_pure_inv h
          have hxr := (hev x).1
          rw [hx] at hxr
          have hxr := rep_str hxr
          refine Sound.of_pure (s := Builtin.len_ #[t] o.type #[a.eval x]) hm (fun w => ?_) ⟨rfl, _, ?_, plain_int _ _⟩
          · simp [execOp, ho, resolve, hcal, invoke, builtin, hargs, hts]
          · rw [hxr]
            simp [Builtin.len_, run_underlying (str_ty hk), goInt]
        · exact (run_fail h).elim
    · exact (run_fail h).elim
  · -- cap
    rename_i hcal
    split at h
    · rename_i e ty b x hargs
      have hargs : c.args = #[x] := Array.ext' (by simpa using hargs)
      obtain ⟨e', ty', b', t, hs, hts, hk⟩ := chk_cap hcal hk
      cases hs
      have hu := elem_ty (elemT_eq hk)
      have hxr := (hev x).1
      have fin : ∀ {A : Option Addr}, a.eval x = .slice A 0 0 → v = .int .i64 0 → d = [] → Sound P E w0 S G M ρ L o a w X base v d := fun {A} h1 h2 h3 => by
        subst h2 h3
        refine Sound.of_pure (s := Builtin.cap_ #[t] o.type #[a.eval x]) hm (fun w => ?_) ⟨rfl, _, ?_, plain_int _ _⟩
        · simp [execOp, ho, resolve, hcal, invoke, builtin, hargs, hts]
        · rw [h1]
          simp [Builtin.cap_, run_underlying hu, goInt]
      split at h
      · rename_i hx
        obtain ⟨rfl, rfl⟩ := run_pure_inv h
        rw [hx] at hxr
        simp only [Rep] at hxr
        exact fin hxr rfl rfl
      · rename_i hx
        obtain ⟨rfl, rfl⟩ := run_pure_inv h
        rw [hx] at hxr
        simp only [Rep] at hxr
        obtain ⟨A, hxr⟩ := hxr
        exact fin hxr rfl rfl
      · exact (run_fail h).elim
    · exact (run_fail h).elim
  · -- append
    rename_i hcal
    split at h
    · rename_i e ty b x y hargs
      have hargs : c.args = #[x, y] := Array.ext' (by simpa using hargs)
      obtain ⟨e', ty', b', t, hs | hs, hts, hk1, hk2⟩ := chk_append hcal (fun _ _ _ q => by cases q) hk
      · cases hs
        have hform : ∃ row r, d = (base, some row) :: r ∧ ∀ i c, (i, some c) ∉ r := by
          unfold appendQ at h
          have fin : ∀ {ys : List (Dat ty)} {n : Bool} {row : Blk} {r : List (Nat × Option Blk)}, (∀ i c, (i, some c) ∉ r) → (Qn.guard n (.done (.own base) ((base, some row) :: r))).run L done1 = some (v, d) → ∃ row r, d = (base, some row) :: r ∧ ∀ i c, (i, some c) ∉ r := by
            intro ys n row r hr hh
            obtain ⟨_, hh⟩ := run_guard_inv hh
            simp only [Qn.run, done1, Option.some.injEq, Prod.mk.injEq] at hh
            exact ⟨row, r, hh.2.symm, hr⟩
          split at h
          · obtain ⟨ys, _, h, _⟩ := rows_inv hm (hev y).1 h
            exact fin (ys := ys) (by simp) h
          · obtain ⟨ys, _, h, _⟩ := rows_inv hm (hev y).1 h
            exact fin (ys := ys) (by simp) h
          · split at h
            · obtain ⟨ys, _, h, _⟩ := rows_inv hm (hev y).1 h
              exact fin (ys := ys) (by simp) h
            · exact (run_fail h).elim
          · replace h := run_ask_inv h
            split at h
            · split at h
              · obtain ⟨_, h⟩ := run_cond_inv h
                obtain ⟨ys, _, h, _⟩ := rows_inv hm (hev y).1 h
                exact fin (ys := ys) (by simp) h
              · exact (run_fail h).elim
            · exact (run_fail h).elim
          · replace h := run_ask_inv h
            split at h
            · split at h
              · obtain ⟨_, h⟩ := run_cond_inv h
                obtain ⟨ys, _, h, _⟩ := rows_inv hm (hev y).1 h
                exact fin (ys := ys) (by simp) h
              · exact (run_fail h).elim
            · exact (run_fail h).elim
          · exact (run_fail h).elim
        obtain ⟨row, r, hd, hr⟩ := hform
        have := append_sound (P := P) (tt := o.type) hm (elemT_eq hk1) hk2 (hev x).1 (hev y).1 (hn base (Nat.le_refl _) (by rw [hd]; simp)) h
        refine ⟨OpRes.of_mem (s := Builtin.append_ #[t, t] o.type #[a.eval x, a.eval y]) ?_ this, ?_⟩
        · simp [execOp, ho, resolve, hcal, invoke, builtin, hargs, hts]
        · rw [hd]
          exact IdsOk.one hr
      · cases hs
    · rename_i e ty b x y hargs
      have hargs : c.args = #[x, y] := Array.ext' (by simpa using hargs)
      obtain ⟨e', ty', b', t, hs | hs, hts, hk1, hk2⟩ := chk_append hcal (fun _ _ _ q => by cases q) hk
      · cases hs
      · cases hs
        generalize hsv : ra x = sv at h
        split at h
        · rename_i i lo hi
          have hx := hev x
          rw [hsv] at hx
          obtain ⟨h1, h2⟩ := room_sound (P := P) (tt := o.type) (base := base) hm (elemT_eq hk1) hk2 hx.1 hx.2 (hev y).1 h
          refine ⟨OpRes.of_mem (s := Builtin.append_ #[t, t] o.type #[a.eval x, a.eval y]) ?_ h1, h2⟩
          simp [execOp, ho, resolve, hcal, invoke, builtin, hargs, hts]
        · rw [← hsv] at h
          have hform : ∃ row r, d = (base, some row) :: r ∧ ∀ i c, (i, some c) ∉ r := by
            unfold appendQ at h
            have fin : ∀ {ys : List (Dat ty)} {n : Bool} {row : Blk} {r : List (Nat × Option Blk)}, (∀ i c, (i, some c) ∉ r) → (Qn.guard n (.done (.own base) ((base, some row) :: r))).run L done1 = some (v, d) → ∃ row r, d = (base, some row) :: r ∧ ∀ i c, (i, some c) ∉ r := by
              intro ys n row r hr hh
              obtain ⟨_, hh⟩ := run_guard_inv hh
              simp only [Qn.run, done1, Option.some.injEq, Prod.mk.injEq] at hh
              exact ⟨row, r, hh.2.symm, hr⟩
            split at h
            · obtain ⟨ys, _, h, _⟩ := rows_inv hm (hev y).1 h
              exact fin (ys := ys) (by simp) h
            · obtain ⟨ys, _, h, _⟩ := rows_inv hm (hev y).1 h
              exact fin (ys := ys) (by simp) h
            · split at h
              · obtain ⟨ys, _, h, _⟩ := rows_inv hm (hev y).1 h
                exact fin (ys := ys) (by simp) h
              · exact (run_fail h).elim
            · replace h := run_ask_inv h
              split at h
              · split at h
                · obtain ⟨_, h⟩ := run_cond_inv h
                  obtain ⟨ys, _, h, _⟩ := rows_inv hm (hev y).1 h
                  exact fin (ys := ys) (by simp) h
                · exact (run_fail h).elim
              · exact (run_fail h).elim
            · replace h := run_ask_inv h
              split at h
              · split at h
                · obtain ⟨_, h⟩ := run_cond_inv h
                  obtain ⟨ys, _, h, _⟩ := rows_inv hm (hev y).1 h
                  exact fin (ys := ys) (by simp) h
                · exact (run_fail h).elim
              · exact (run_fail h).elim
            · exact (run_fail h).elim
          obtain ⟨row, r, hd, hr⟩ := hform
          have := append_sound (P := P) (tt := o.type) hm (elemT_eq hk1) hk2 (hev x).1 (hev y).1 (hn base (Nat.le_refl _) (by rw [hd]; simp)) h
          refine ⟨OpRes.of_mem (s := Builtin.append_ #[t, t] o.type #[a.eval x, a.eval y]) ?_ this, ?_⟩
          · simp [execOp, ho, resolve, hcal, invoke, builtin, hargs, hts]
          · rw [hd]
            exact IdsOk.one hr
    · rename_i e ty b x y hargs
      have hargs : c.args = #[x, y] := Array.ext' (by simpa using hargs)
      obtain ⟨t, u, kn, hts, hku, hk1, hk2⟩ := chk_zeros hcal hk
      have hform : ∃ row, d = [(base, some row)] := by
        unfold zerosQ at h
        have fin : ∀ {n : Bool} {row : Blk}, (Qn.guard n (.done (.own base) [(base, some row)])).run L done1 = some (v, d) → ∃ row, d = [(base, some row)] := by
          intro n row hh
          obtain ⟨_, hh⟩ := run_guard_inv hh
          simp only [Qn.run, done1, Option.some.injEq, Prod.mk.injEq] at hh
          exact ⟨row, hh.2.symm⟩
        split at h
        · split at h
          · exact fin h
          · exact (run_fail h).elim
        · split at h
          · exact fin h
          · exact (run_fail h).elim
        · exact (run_fail h).elim
      obtain ⟨row, hd⟩ := hform
      have := zeros_sound (P := P) (tt := o.type) hm (elemT_eq hk1) hk2 hku (hev x).1 (hev y).1 (hn base (Nat.le_refl _) (by rw [hd]; simp)) h
      refine ⟨OpRes.of_mem (s := Builtin.append_ #[t, u] o.type #[a.eval x, a.eval y]) ?_ this, ?_⟩
      · simp [execOp, ho, resolve, hcal, invoke, builtin, hargs, hts]
      · rw [hd]
        exact IdsOk.one (by simp)
    · exact (run_fail h).elim
  · -- clear
    rename_i hcal
    split at h
    · rename_i e ty b x hargs
      have hargs : c.args = #[x] := Array.ext' (by simpa using hargs)
      obtain ⟨e', ty', b', t, hs, hts, hk1, hk2⟩ := chk_clear hcal hk
      cases hs
      obtain ⟨h1, h2⟩ := clear_sound (P := P) (tt := o.type) (base := base) hm (elemT_eq hk1) hk2 (hev x).1 (hev x).2 h
      refine ⟨OpRes.of_mem (s := Builtin.clear_ #[t] o.type #[a.eval x]) ?_ h1, h2⟩
      simp [execOp, ho, resolve, hcal, invoke, builtin, hargs, hts]
    · exact (run_fail h).elim
  · -- max
    rename_i hcal
    split at h
    · rename_i k p k' q hargs
      obtain ⟨x, y, hargs, hx, hy⟩ := map2 hargs
      have hxr := (hev x).1; have hyr := (hev y).1
      rw [hx] at hxr; rw [hy] at hyr
      have hxr := rep_int hxr; have hyr := rep_int hyr
      split at h
      · obtain ⟨rfl, rfl⟩ := run_pure_inv h
        refine Sound.of_pure (s := Builtin.max_ c.argTypes o.type #[a.eval x, a.eval y]) hm (fun w => ?_) ⟨rfl, _, ?_, plain_int _ _⟩
        · simp [execOp, ho, resolve, hcal, invoke, builtin, hargs]
        · rw [hxr, hyr]; simp [Builtin.max_, max2_run]
      · exact (run_fail h).elim
    · rename_i k p k' q k'' r hargs
      obtain ⟨x, y, z, hargs, hx, hy, hz⟩ := map3 hargs
      have hxr := (hev x).1; have hyr := (hev y).1; have hzr := (hev z).1
      rw [hx] at hxr; rw [hy] at hyr; rw [hz] at hzr
      have hxr := rep_int hxr; have hyr := rep_int hyr; have hzr := rep_int hzr
      split at h
      · split at h
        · obtain ⟨rfl, rfl⟩ := run_pure_inv h
          refine Sound.of_pure (s := Builtin.max_ c.argTypes o.type #[a.eval x, a.eval y, a.eval z]) hm (fun w => ?_) ⟨rfl, _, ?_, plain_int _ _⟩
          · simp [execOp, ho, resolve, hcal, invoke, builtin, hargs]
          · rw [hxr, hyr, hzr]; simp [Builtin.max_, max2_run]
        · exact (run_fail h).elim
      · exact (run_fail h).elim
    · split at h
      · rename_i k n ns hi
        obtain ⟨rfl, rfl⟩ := run_pure_inv h
        have har := ints_rep hi (args_rep hev c.args).1
        refine Sound.of_pure (s := Builtin.max_ c.argTypes o.type (c.args.map a.eval)) hm (fun w => ?_) ⟨rfl, _, ?_, plain_int _ _⟩
        · simp [execOp, ho, resolve, hcal, invoke, builtin]
        · unfold Builtin.max_
          rw [har, List.map_cons]
          exact maxL_run ns n
      · exact (run_fail h).elim
  · -- min
    rename_i hcal
    split at h
    · rename_i k p k' q hargs
      obtain ⟨x, y, hargs, hx, hy⟩ := map2 hargs
      have hxr := (hev x).1; have hyr := (hev y).1
      rw [hx] at hxr; rw [hy] at hyr
      have hxr := rep_int hxr; have hyr := rep_int hyr
      split at h
      · obtain ⟨rfl, rfl⟩ := run_pure_inv h
        refine Sound.of_pure (s := Builtin.min_ c.argTypes o.type #[a.eval x, a.eval y]) hm (fun w => ?_) ⟨rfl, _, ?_, plain_int _ _⟩
        · simp [execOp, ho, resolve, hcal, invoke, builtin, hargs]
        · rw [hxr, hyr]; simp [Builtin.min_, min2_run]
      · exact (run_fail h).elim
    · rename_i k p k' q k'' r hargs
      obtain ⟨x, y, z, hargs, hx, hy, hz⟩ := map3 hargs
      have hxr := (hev x).1; have hyr := (hev y).1; have hzr := (hev z).1
      rw [hx] at hxr; rw [hy] at hyr; rw [hz] at hzr
      have hxr := rep_int hxr; have hyr := rep_int hyr; have hzr := rep_int hzr
      split at h
      · split at h
        · obtain ⟨rfl, rfl⟩ := run_pure_inv h
          refine Sound.of_pure (s := Builtin.min_ c.argTypes o.type #[a.eval x, a.eval y, a.eval z]) hm (fun w => ?_) ⟨rfl, _, ?_, plain_int _ _⟩
          · simp [execOp, ho, resolve, hcal, invoke, builtin, hargs]
          · rw [hxr, hyr, hzr]; simp [Builtin.min_, min2_run]
        · exact (run_fail h).elim
      · exact (run_fail h).elim
    · exact (run_fail h).elim
  · -- a contract
    rename_i f hcal
    split at h
    · rename_i i g hf
      split at h
      · rename_i C hCi
        obtain ⟨hg, h2⟩ := run_cond_inv h
        have hg := Nat.eq_of_beq_eq_true hg
        clear h
        subst hg
        have hfr := (hev f).1
        rw [hf] at hfr
        simp only [Rep] at hfr
        obtain ⟨us, hfv, hus⟩ := hfr
        have hus : us = #[] := by
          simp only [RepL] at hus
          exact Array.ext' (by simpa using hus)
        subst hus
        have hargs := args_rep hev c.args
        refine ⟨?_, pcall_ids h2⟩
        have hcalls := pcall_sound hm (hC.cs i C hCi) hargs.1 hargs.2 hn h2
        unfold OpRes Oper.wp
        have hex : (execOp a.eval o).run P w = .ok (.enter C.f (c.args.map a.eval)) w := by
          simp [execOp, ho, resolve, hcal, hfv, Deferred.ofValue, invoke, (hC.cs i C hCi).enter]
        rw [hex, Oper.upon_enter]
        refine hcalls.mono fun e w' he => ?_
        obtain ⟨v', rfl, ha⟩ := he
        exact ⟨v', rfl, ha⟩
      · exact (run_fail h).elim
    · rename_i i g hf
      split at h
      · rename_i C hCi
        obtain ⟨hg, h2⟩ := run_cond_inv h
        have hg := Nat.eq_of_beq_eq_true hg
        clear h
        subst hg
        have hfr := (hev f).1
        rw [hf] at hfr
        simp only [Rep] at hfr
        obtain ⟨us, hfv, hus⟩ := hfr
        have hus : us = #[] := by
          simp only [RepL] at hus
          exact Array.ext' (by simpa using hus)
        subst hus
        have hargs := args_rep hev c.args
        obtain ⟨hcalls, hids⟩ := mcall_sound (base := base) hm (hC.ms i C hCi) hargs.1 hargs.2 h2
        refine ⟨?_, hids⟩
        unfold OpRes Oper.wp
        have hex : (execOp a.eval o).run P w = .ok (.enter C.f (c.args.map a.eval)) w := by
          simp [execOp, ho, resolve, hcal, hfv, Deferred.ofValue, invoke, (hC.ms i C hCi).enter]
        rw [hex, Oper.upon_enter]
        refine hcalls.mono fun e w' he => ?_
        obtain ⟨v', rfl, ha⟩ := he
        exact ⟨v', rfl, ha⟩
      · exact (run_fail h).elim
    · rename_i i g hf
      split at h
      · rename_i C hCi
        obtain ⟨hg, h2⟩ := run_cond_inv h
        have hg := Nat.eq_of_beq_eq_true hg
        clear h
        subst hg
        have hfr := (hev f).1
        rw [hf] at hfr
        simp only [Rep] at hfr
        obtain ⟨us, hfv, hus⟩ := hfr
        have hus : us = #[] := by
          simp only [RepL] at hus
          exact Array.ext' (by simpa using hus)
        subst hus
        have hargs := args_rep hev c.args
        split at h2
        · rename_i bv avs hal
          rw [hal] at hargs
          obtain ⟨har, hab⟩ := hargs
          simp only [RepL] at har
          obtain ⟨bu, bus, hul, hr1, hr2⟩ := har
          simp only [BdL] at hab
          obtain ⟨hcalls, hids⟩ := bcall_sound (base := base) hm (hC.bs i C hCi) hr1 hr2 hab.2 hn h2
          have hae : c.args.map a.eval = (bu :: bus).toArray := Array.ext' (by rw [hul])
          rw [← hae] at hcalls
          refine ⟨?_, hids⟩
          unfold OpRes Oper.wp
          have hex : (execOp a.eval o).run P w = .ok (.enter C.f (c.args.map a.eval)) w := by
            simp [execOp, ho, resolve, hcal, hfv, Deferred.ofValue, invoke, (hC.bs i C hCi).enter]
          rw [hex, Oper.upon_enter]
          refine hcalls.mono fun e w' he => ?_
          obtain ⟨v', rfl, ha⟩ := he
          exact ⟨v', rfl, ha⟩
        · exact (run_fail h2).elim
      · exact (run_fail h).elim
    · rename_i i g hf
      split at h
      · rename_i C hCi
        obtain ⟨hg, h2⟩ := run_cond_inv h
        have hg := Nat.eq_of_beq_eq_true hg
        clear h
        subst hg
        have hfr := (hev f).1
        rw [hf] at hfr
        simp only [Rep] at hfr
        obtain ⟨us, hfv, hus⟩ := hfr
        have hus : us = #[] := by
          simp only [RepL] at hus
          exact Array.ext' (by simpa using hus)
        subst hus
        have hargs := args_rep hev c.args
        split at h2
        · rename_i av hal
          rw [hal] at hargs
          obtain ⟨u, hu, hru⟩ := RepL_one hargs.1
          obtain ⟨rfl, y, hy, hpl⟩ := hC.xs i C hCi (G := G) hru h2
          have hae : c.args.map a.eval = #[u] := Array.ext' hu
          refine Sound.of_pure (s := Pure.pure y) hm (fun w => ?_) ⟨rfl, y, by simp, hpl⟩
          simp [execOp, ho, resolve, hcal, hfv, Deferred.ofValue, invoke, hae, hy]
        · exact (run_fail h2).elim
      · exact (run_fail h).elim
    · exact (run_fail h).elim
  · exact (run_fail h).elim

theorem ids_of_done {q : AV} {d' : List (Nat × Option Blk)} (h : (Qn.done q d').run L done1 = some (v, d)) (hd : IdsOk L base d') : IdsOk L base d := by
  simp only [Qn.run, done1, Option.some.injEq, Prod.mk.injEq] at h
  rw [← h.2]
  exact hd

theorem pos_of_done {q : AV} {p : Nat × Option Blk} {d' : List (Nat × Option Blk)} (h : (Qn.done q (p :: d')).run L done1 = some (v, d)) : 0 < d.length := by
  simp only [Qn.run, done1, Option.some.injEq, Prod.mk.injEq] at h
  rw [← h.2]
  simp

theorem store_ids {sz : Nat} {pa x : AV} (h : (storeQ sz pa x).run L done1 = some (v, d)) : IdsOk L base d := by
  unfold storeQ at h
  split at h
  · rename_i id i j
    replace h := run_ask_inv h
    split at h
    · rename_i e cs hl
      obtain ⟨hc, h⟩ := run_cond_inv h
      simp only [Bool.and_eq_true] at hc
      have hc1 := Nat.eq_of_beq_eq_true hc.1.1
      have hc2 := Nat.le_of_ble_eq_true hc.1.2
      refine ids_of_done h fun i b hi => .inr ?_
      simp only [List.mem_cons, Prod.mk.injEq, List.not_mem_nil, or_false, Option.some.injEq] at hi
      obtain ⟨rfl, rfl⟩ := hi
      rw [hl]
      refine ⟨rfl, ?_⟩
      unfold splice
      simp only [List.length_append, List.length_take, List.length_drop]
      omega
    · rename_i e t xs hl
      obtain ⟨vs, ids, h, _⟩ := frz_inv h
      obtain ⟨_, h⟩ := run_cond_inv h
      split at h
      · refine ids_of_done h fun i b hi => .inr ?_
        simp only [kills, List.mem_cons, Prod.mk.injEq, Option.some.injEq, List.mem_map, reduceCtorEq, and_false, exists_false, or_false] at hi
        obtain ⟨rfl, rfl⟩ := hi
        rw [hl]
        exact ⟨rfl, rfl, by simp⟩
      · exact (run_fail h).elim
    · exact (run_fail h).elim
  · exact (run_fail h).elim

theorem nstore_ids {pa x : AV} (h : (nstoreQ pa x).run L done1 = some (v, d)) : IdsOk L base d := by
  unfold nstoreQ at h
  split at h
  · replace h := run_ask_inv h
    split at h
    · obtain ⟨_, h⟩ := run_guard_inv h
      exact store_ids h
    · exact (run_fail h).elim
  · exact (run_fail h).elim


set_option linter.unusedVariables false

theorem op_pick (hm : SimM E w0 S G M ρ L w) (hev : EvOk M ρ L G ra a) {an : An} {dst : Option Tmp} {ty : TypeId} {pos : String} {after : Array Edge} {grd : Option (Nat × Bool)} {c x y : Operand} (hk : chkOp P an (.pick c x y) = true) (hnb : 0 < d.length → ¬ G base)
    (h : (opQ E an (.pick c x y) ra base).run L done1 = some (v, d)) : Sound P E w0 S G M ρ L ⟨dst, .pick c x y, ty, pos, after, grd⟩ a w X base v d := by
  unfold opQ at h
  dsimp only at h
  split at h
  · rename_i b hc
    have hcr := (hev c).1
    rw [hc] at hcr
    have hcr := rep_bool hcr
    have key : ∀ u v', ra x = u → ra y = v' → (b = true → (Qn.pure u).run L done1 = some (v, d) → d = [] ∧ PureRes P M ρ L G w (Pure.pure (a.eval x)) v) ∧ (b = false → (Qn.pure v').run L done1 = some (v, d) → d = [] ∧ PureRes P M ρ L G w (Pure.pure (a.eval y)) v) := fun u v' hu hv => by
      subst hu hv
      exact ⟨fun _ h => pure_of h (hev x).1 (hev x).2, fun _ h => pure_of h (hev y).1 (hev y).2⟩
    refine Sound.of_pure (s := Pure.pure (if b then a.eval x else a.eval y)) hm (fun w => by simp [execOp, hcr, Go.asBool]) ?_
    split at h
    · rename_i p q hx hy
      obtain ⟨rfl, rfl⟩ := run_pure_inv h
      have hxr := (hev x).1; have hyr := (hev y).1
      rw [hx] at hxr; rw [hy] at hyr
      rw [rep_bool hxr, rep_bool hyr]
      refine ⟨rfl, _, by simp; rfl, ?_⟩
      cases b <;> exact plain_bool _
    · rcases run_branch_inv h with ⟨rfl, h⟩ | ⟨rfl, h⟩
      · exact pure_of h (hev x).1 (hev x).2
      · exact pure_of h (hev y).1 (hev y).2
  · exact (run_fail h).elim

theorem op_unop (hm : SimM E w0 S G M ρ L w) (hev : EvOk M ρ L G ra a) {an : An} {dst : Option Tmp} {ty : TypeId} {pos : String} {after : Array Edge} {grd : Option (Nat × Bool)} {op' : UnOp} {t : TypeId} {x : Operand} (hk : chkOp P an (.unOp op' t x) = true) (hnb : 0 < d.length → ¬ G base)
    (h : (opQ E an (.unOp op' t x) ra base).run L done1 = some (v, d)) : Sound P E w0 S G M ρ L ⟨dst, .unOp op' t x, ty, pos, after, grd⟩ a w X base v d := by
  unfold opQ at h
  dsimp only at h
  refine Sound.of_pure (s := Op.unary op' (a.eval x)) hm (fun w => by simp [execOp]) ?_
  have hxr := (hev x).1
  split at h
  · rename_i k n hx
    rw [hx] at hxr
    rw [rep_int hxr]
    exact neg_sound h
  · rename_i k n hx
    rw [hx] at hxr
    rw [rep_int hxr]
    exact xor_sound h
  · rename_i b hx
    rw [hx] at hxr
    rw [rep_bool hxr]
    exact not_sound h
  · rename_i n hx
    rw [hx] at hxr
    rw [rep_flt hxr]
    exact negF_sound h
  · exact (run_fail h).elim

theorem op_conv (hm : SimM E w0 S G M ρ L w) (hev : EvOk M ρ L G ra a) {an : An} {dst : Option Tmp} {ty : TypeId} {pos : String} {after : Array Edge} {grd : Option (Nat × Bool)} {s t : TypeId} {x : Operand} (hk : chkOp P an (.convert s t x) = true) (hnb : 0 < d.length → ¬ G base)
    (h : (opQ E an (.convert s t x) ra base).run L done1 = some (v, d)) : Sound P E w0 S G M ρ L ⟨dst, .convert s t x, ty, pos, after, grd⟩ a w X base v d := by
  unfold opQ at h
  dsimp only at h
  refine Sound.of_pure (s := convert s t (a.eval x)) hm (fun w => by simp [execOp]) ?_
  have hxr := (hev x).1
  split at h
  · rename_i k k' n hx
    rw [hx] at hxr
    rw [rep_int hxr]
    simp only [chkOp, Bool.and_eq_true, beq_iff_eq] at hk
    exact conv_sound hk.1 hk.2 h
  · rename_i k n hx
    rw [hx] at hxr
    rw [rep_flt hxr]
    simp only [chkOp, Bool.and_eq_true, beq_iff_eq] at hk
    exact convFI_sound hk.1 hk.2 h
  · rename_i k n hx
    rw [hx] at hxr
    rw [rep_int hxr]
    simp only [chkOp, Bool.and_eq_true] at hk
    exact convIF_sound hk.1 hk.2 h
  · rename_i n hx
    rw [hx] at hxr
    rw [rep_flt hxr]
    simp only [chkOp, Bool.and_eq_true] at hk
    exact convFF_sound hk.1 hk.2 h
  · rename_i b hx
    rw [hx] at hxr
    rw [rep_str hxr]
    simp only [chkOp, Bool.and_eq_true] at hk
    exact convStr_sound hk.1 hk.2 h
  · exact (run_fail h).elim

theorem op_nilCheck (hm : SimM E w0 S G M ρ L w) (hev : EvOk M ρ L G ra a) {an : An} {dst : Option Tmp} {ty : TypeId} {pos : String} {after : Array Edge} {grd : Option (Nat × Bool)} {x : Operand} (hk : chkOp P an (.nilCheck x) = true) (hnb : 0 < d.length → ¬ G base)
    (h : (opQ E an (.nilCheck x) ra base).run L done1 = some (v, d)) : Sound P E w0 S G M ρ L ⟨dst, .nilCheck x, ty, pos, after, grd⟩ a w X base v d := by
  unfold opQ at h
  dsimp only at h
  have hxr := hev x
  split at h
  · rename_i id i j hx
    rw [hx] at hxr
    obtain ⟨b, q, hp⟩ : ∃ b q, a.eval x = .pointer (some ⟨b, q, none⟩) := by have := hxr.1; simp only [Rep] at this; exact this.form
    exact Sound.of_pure (s := Pure.pure (a.eval x)) hm (fun w => by simp [execOp, hp]) (pure_of h hxr.1 hxr.2)
  · rename_i cs hx
    rw [hx] at hxr
    obtain ⟨ad, us, hp, _⟩ : ∃ (ad : Addr) (us : List Value), a.eval x = .pointer (some ad) ∧ True := by have := hxr.1; simp only [Rep] at this; obtain ⟨ad, us, h, _⟩ := this; exact ⟨ad, us, h, trivial⟩
    exact Sound.of_pure (s := Pure.pure (a.eval x)) hm (fun w => by simp [execOp, hp]) (pure_of h hxr.1 hxr.2)
  · exact (run_fail h).elim

theorem op_fieldAddr (hm : SimM E w0 S G M ρ L w) (hev : EvOk M ρ L G ra a) {an : An} {dst : Option Tmp} {ty : TypeId} {pos : String} {after : Array Edge} {grd : Option (Nat × Bool)} {s : TypeId} {x : Operand} {f : Nat} (hk : chkOp P an (.fieldAddr s x f) = true) (hnb : 0 < d.length → ¬ G base)
    (h : (opQ E an (.fieldAddr s x f) ra base).run L done1 = some (v, d)) : Sound P E w0 S G M ρ L ⟨dst, .fieldAddr s x f, ty, pos, after, grd⟩ a w X base v d := by
  unfold opQ at h
  dsimp only at h
  refine Sound.of_pure (s := Instr.fieldAt s (a.eval x) f) hm (fun w => by simp [execOp]) ?_
  have hxr := hev x
  have fin : ∀ {q : Nat} {av : AV}, an = .off q → ra x = av → (match av with
    | .ptr id i j => Qn.pure (.ptr id i (j + q))
    | .rptr cs => .pure (.rptr (cs.drop q))
    | _ => .fail).run L done1 = some (v, d) → d = [] ∧ PureRes P M ρ L G w (Instr.fieldAt s (a.eval x) f) v := by
    intro q av han hx h'
    clear h
    subst han
    rw [hx] at hxr
    simp only [chkOp] at hk
    split at hk
    · rename_i o' ft hf
      simp only [Bool.and_eq_true] at hk
      have := Nat.eq_of_beq_eq_true hk.1
      subst this
      have hk := hk.2
      split at hk
      · rename_i n hsz
        exact fieldAddr_sound hf hsz hxr.1 hxr.2 h'
      · cases hk
    · cases hk
  split at h
  · rename_i q id i j hx
    exact fin rfl hx h
  · rename_i q cs hx
    exact fin rfl hx h
  · exact (run_fail h).elim

theorem op_field (hm : SimM E w0 S G M ρ L w) (hev : EvOk M ρ L G ra a) {an : An} {dst : Option Tmp} {ty : TypeId} {pos : String} {after : Array Edge} {grd : Option (Nat × Bool)} {t : TypeId} {x : Operand} {f : Nat} (hk : chkOp P an (.field t x f) = true) (hnb : 0 < d.length → ¬ G base)
    (h : (opQ E an (.field t x f) ra base).run L done1 = some (v, d)) : Sound P E w0 S G M ρ L ⟨dst, .field t x f, ty, pos, after, grd⟩ a w X base v d := by
  unfold opQ at h
  dsimp only at h
  refine Sound.of_pure (s := Instr.field t (a.eval x) f) hm (fun w => by simp [execOp]) ?_
  have hxr := hev x
  split at h
  · rename_i off sz agg cs hx
    rw [hx] at hxr
    simp only [chkOp] at hk
    split at hk
    · rename_i o' ft hf
      simp only [Bool.and_eq_true, beq_iff_eq] at hk
      have := Nat.eq_of_beq_eq_true hk.1.1
      subst this
      exact field_sound hf hk.1.2 hk.2 hxr.1 hxr.2 h
    · cases hk
  · exact (run_fail h).elim

theorem op_index (hm : SimM E w0 S G M ρ L w) (hev : EvOk M ρ L G ra a) {an : An} {dst : Option Tmp} {ty : TypeId} {pos : String} {after : Array Edge} {grd : Option (Nat × Bool)} {t : TypeId} {x i : Operand} (hk : chkOp P an (.index t x i) = true) (hnb : 0 < d.length → ¬ G base)
    (h : (opQ E an (.index t x i) ra base).run L done1 = some (v, d)) : Sound P E w0 S G M ρ L ⟨dst, .index t x i, ty, pos, after, grd⟩ a w X base v d := by
  unfold opQ at h
  dsimp only at h
  refine Sound.of_pure (s := Instr.index t (a.eval x) (a.eval i)) hm (fun w => by simp [execOp]) ?_
  have hxr := hev x
  have hir := (hev i).1
  split at h
  · rename_i n sz agg cs k i' hx hi
    rw [hx] at hxr
    rw [hi] at hir
    rw [rep_int hir]
    simp only [chkOp] at hk
    split at hk
    · rename_i e he
      have he := arrIs_eq he
      exact index_sound he.1 he.2 (by simpa using hk) hxr.1 h
    · cases hk
  · rename_i n sz agg cs k i' hx hi
    rw [hx] at hxr
    rw [hi] at hir
    rw [rep_int hir]
    simp only [chkOp] at hk
    split at hk
    · rename_i e he
      have he := arrIs_eq he
      exact indexS_sound he.1 he.2 (by simpa using hk) hxr.1 hxr.2 h
    · cases hk
  · rename_i s k i' hx hi
    rw [hx] at hxr
    rw [hi] at hir
    rw [rep_int hir]
    simp only [chkOp] at hk
    exact indexStr_sound hk hxr.1 h
  · exact (run_fail h).elim

theorem op_indexAddr (hm : SimM E w0 S G M ρ L w) (hev : EvOk M ρ L G ra a) {an : An} {dst : Option Tmp} {ty : TypeId} {pos : String} {after : Array Edge} {grd : Option (Nat × Bool)} {t : TypeId} {x i : Operand} (hk : chkOp P an (.indexAddr t x i) = true) (hnb : 0 < d.length → ¬ G base)
    (h : (opQ E an (.indexAddr t x i) ra base).run L done1 = some (v, d)) : Sound P E w0 S G M ρ L ⟨dst, .indexAddr t x i, ty, pos, after, grd⟩ a w X base v d := by
  unfold opQ at h
  dsimp only at h
  refine Sound.of_pure (s := Instr.indexAt t (a.eval x) (a.eval i)) hm (fun w => by simp [execOp]) ?_
  have hxr := hev x
  have hir := (hev i).1
  split at h
  · rename_i n sz id r j k i' hx hi
    rw [hx] at hxr
    rw [hi] at hir
    rw [rep_int hir]
    simp only [chkOp] at hk
    obtain ⟨e, he⟩ := Option.isSome_iff_exists.1 hk
    have he := arrIs_eq he
    exact idxA_sound he.1 he.2 hxr.1 hxr.2 h
  · rename_i n sz id r j k i' hx hi
    rw [hx] at hxr
    rw [hi] at hir
    rw [rep_int hir]
    simp only [chkOp] at hk
    obtain ⟨e, he⟩ := Option.isSome_iff_exists.1 hk
    have he := arrIs_eq he
    exact idxAs_sound he.1 he.2 hxr.1 hxr.2 h
  · rename_i n sz cs k i' hx hi
    rw [hx] at hxr
    rw [hi] at hir
    rw [rep_int hir]
    simp only [chkOp] at hk
    obtain ⟨e, he⟩ := Option.isSome_iff_exists.1 hk
    have he := arrIs_eq he
    exact idxAr_sound he.1 he.2 hxr.1 hxr.2 h
  · rename_i e t' b k i' hi
    rw [hi] at hir
    rw [rep_int hir]
    simp only [chkOp, Bool.and_eq_true, beq_iff_eq] at hk
    exact idxSlice_sound hm (elemT_eq hk.1) hk.2 hxr.1 hxr.2 h
  · exact (run_fail h).elim

theorem op_buildSlice (hm : SimM E w0 S G M ρ L w) (hev : EvOk M ρ L G ra a) {an : An} {dst : Option Tmp} {ty : TypeId} {pos : String} {after : Array Edge} {grd : Option (Nat × Bool)} {t : TypeId} {len : Nat} {ps : Array (Nat × Operand)} (hk : chkOp P an (.buildSlice t len ps) = true) (hnb : 0 < d.length → ¬ G base)
    (h : (opQ E an (.buildSlice t len ps) ra base).run L done1 = some (v, d)) : Sound P E w0 S G M ρ L ⟨dst, .buildSlice t len ps, ty, pos, after, grd⟩ a w X base v d := by
  unfold opQ at h
  dsimp only at h
  split at h
  · rename_i e ty' b
    simp only [chkOp, Bool.and_eq_true] at hk
    obtain ⟨⟨hk1, hk2⟩, hk3⟩ := hk
    have hmem : MemRes P E w0 S G M ρ L w (Instr.buildSlice t len (ps.map fun (i, x) => (i, a.eval x))) v d := buildSlice_sound (t := ty') (bytes := b) (len := len) (ps := ps) (base := base) hm (elemT_eq hk1) hk2 hk3 hev (hnb (by
      obtain ⟨qs, ids, h, _⟩ := frzParts_inv h
      split at h
      · obtain ⟨_, h⟩ := run_cond_inv h
        exact pos_of_done h
      · exact (run_fail h).elim)) h
    refine ⟨?_, ?_⟩
    · obtain ⟨v', w', hr, ha⟩ := hmem
      unfold OpRes Oper.wp
      have hex : (execOp a.eval ⟨dst, .buildSlice t len ps, ty, pos, after, grd⟩).run P w = .ok (.value v') w' := by
        simp only [execOp, Sem.run_bind, Sem.run_pure, hr, Result.andThen_ok]
      rw [hex]
      exact ⟨v', rfl, ha⟩
    obtain ⟨qs, ids, h, _⟩ := frzParts_inv h
    split at h
    · obtain ⟨_, h⟩ := run_cond_inv h
      exact ids_of_done h (IdsOk.one (by simp [kills]))
    · exact (run_fail h).elim
  · rename_i e ty' b
    simp only [chkOp, Bool.and_eq_true] at hk
    obtain ⟨⟨hk1, hk2⟩, hk3⟩ := hk
    have hmem : MemRes P E w0 S G M ρ L w (Instr.buildSlice t len (ps.map fun (i, x) => (i, a.eval x))) v d := buildLit_sound (t := ty') (bytes := b) (len := len) (ps := ps) (base := base) hm (elemT_eq hk1) hk2 hk3 hev (hnb (by
      obtain ⟨qs, ids, h, _⟩ := frzParts_inv h
      split at h
      · obtain ⟨_, h⟩ := run_cond_inv h
        exact pos_of_done h
      · exact (run_fail h).elim)) h
    refine ⟨?_, ?_⟩
    · obtain ⟨v', w', hr, ha⟩ := hmem
      unfold OpRes Oper.wp
      have hex : (execOp a.eval ⟨dst, .buildSlice t len ps, ty, pos, after, grd⟩).run P w = .ok (.value v') w' := by
        simp only [execOp, Sem.run_bind, Sem.run_pure, hr, Result.andThen_ok]
      rw [hex]
      exact ⟨v', rfl, ha⟩
    obtain ⟨qs, ids, h, _⟩ := frzParts_inv h
    split at h
    · obtain ⟨_, h⟩ := run_cond_inv h
      exact ids_of_done h (fun q b hq => by simp [kills] at hq)
    · exact (run_fail h).elim
  · exact (run_fail h).elim

theorem op_makeSlice (hm : SimM E w0 S G M ρ L w) (hev : EvOk M ρ L G ra a) {an : An} {dst : Option Tmp} {ty : TypeId} {pos : String} {after : Array Edge} {grd : Option (Nat × Bool)} {t : TypeId} {l c : Operand} (hk : chkOp P an (.makeSlice t l c) = true) (hnb : 0 < d.length → ¬ G base)
    (h : (opQ E an (.makeSlice t l c) ra base).run L done1 = some (v, d)) : Sound P E w0 S G M ρ L ⟨dst, .makeSlice t l c, ty, pos, after, grd⟩ a w X base v d := by
  unfold opQ at h
  dsimp only at h
  have hlr := (hev l).1
  have hcr := (hev c).1
  split at h
  · rename_i e ty' b l' c' hl hc
    simp only [chkOp, Bool.and_eq_true] at hk
    rw [hl] at hlr
    rw [hc] at hcr
    refine ⟨makeSlice_sound (t := ty') (bytes := b) (ol := l) (oc := c) (kl := .i64) (kc := .i64) (l := l') (c := c') (o := ⟨dst, .makeSlice t l c, ty, pos, after, grd⟩) hm rfl (elemT_eq hk.1) hk.2 (rep_int hlr) (rep_int hcr) (hnb (by
      obtain ⟨_, h⟩ := run_guard_inv h
      exact pos_of_done h)) h, ?_⟩
    obtain ⟨_, h⟩ := run_guard_inv h
    exact ids_of_done h (IdsOk.one (by simp))
  · exact (run_fail h).elim

theorem op_slice (hm : SimM E w0 S G M ρ L w) (hev : EvOk M ρ L G ra a) {an : An} {dst : Option Tmp} {ty : TypeId} {pos : String} {after : Array Edge} {grd : Option (Nat × Bool)} {t : TypeId} {x : Operand} {lo hi mx : Option Operand} (hk : chkOp P an (.slice t x lo hi mx) = true) (hnb : 0 < d.length → ¬ G base)
    (h : (opQ E an (.slice t x lo hi mx) ra base).run L done1 = some (v, d)) : Sound P E w0 S G M ρ L ⟨dst, .slice t x lo hi mx, ty, pos, after, grd⟩ a w X base v d := by
  unfold opQ at h
  dsimp only at h
  refine Sound.of_pure (s := Instr.sliceAt t (a.eval x) (lo.map a.eval) (hi.map a.eval) (mx.map a.eval)) hm (fun w => by simp [execOp]) ?_
  have hxr := hev x
  split at h
  · rename_i e ty' b
    simp only [chkOp, Bool.and_eq_true, beq_iff_eq] at hk
    obtain ⟨hsl, h⟩ := run_cond_inv h
    exact slice_sound hm (elemT_eq hk.1) hk.2 hxr.1 hxr.2 (RepO.of_map hev lo) (RepO.of_map hev hi) (RepO.of_map hev mx) (fun s hs => by rw [hs] at hsl; cases hsl) h
  · rename_i e sz
    simp only [chkOp, Bool.and_eq_true, beq_iff_eq] at hk
    exact cut3_sound hm (elemT_eq hk.1) hk.2 hxr.1 (RepO.of_map hev lo) (RepO.of_map hev hi) (RepO.of_map hev mx) h
  · split at h
    · rename_i s hx
      rw [hx] at hxr
      simp only [chkOp] at hk
      rw [rep_str hxr.1]
      exact strSlice_sound hk (RepO.of_map hev lo) (RepO.of_map hev hi) (RepO.of_map hev mx) h
    · exact (run_fail h).elim
  · exact (run_fail h).elim

theorem op_makeFunc (hm : SimM E w0 S G M ρ L w) (hev : EvOk M ρ L G ra a) {an : An} {dst : Option Tmp} {ty : TypeId} {pos : String} {after : Array Edge} {grd : Option (Nat × Bool)} {f : FuncId} {first caps : Array Operand} (hk : chkOp P an (.makeFunc (.func f) first caps) = true) (hnb : 0 < d.length → ¬ G base)
    (h : (opQ E an (.makeFunc (.func f) first caps) ra base).run L done1 = some (v, d)) : Sound P E w0 S G M ρ L ⟨dst, .makeFunc (.func f) first caps, ty, pos, after, grd⟩ a w X base v d := by
  unfold opQ at h
  dsimp only at h
  split at h
  · rename_i hf
    have hf : first = #[] := Array.ext' (by simpa using hf)
    subst hf
    have hargs := args_rep hev caps
    split at h
    · obtain ⟨h1, h2⟩ := caps_sound (P := P) (base := base) hm hargs.1 hargs.2 h
      exact ⟨OpRes.of_mem (s := Pure.pure (.func (.func f) #[] (caps.map a.eval))) (by simp [execOp, Instr.makeFunc]) (by rw [Array.toArray_toList] at h1; exact h1), h2⟩
    exact Sound.of_pure (s := Instr.makeFunc (.func f) #[] (caps.map a.eval)) hm (fun w => by simp [execOp]) (by
      obtain ⟨rfl, rfl⟩ := run_pure_inv h
      exact ⟨rfl, .func (.func f) #[] (caps.map a.eval), by simp only [Instr.makeFunc, Sem.run_pure], ⟨by simp only [Rep]; exact ⟨_, rfl, hargs.1⟩, by simp only [Bd]; exact hargs.2⟩⟩)
  · exact (run_fail h).elim

/-- EVERY OPERATION: what the evaluator says of it, the model does. -/
theorem op_sound (hC : CsOk P E) (hm : SimM E w0 S G M ρ L w) (hev : EvOk M ρ L G ra a) {an : An} (hk : chkOp P an o.op = true) (hn : ∀ i, base ≤ i → i < base + d.length → ¬ G i)
    (h : (opQ E an o.op ra base).run L done1 = some (v, d)) : Sound P E w0 S G M ρ L o a w X base v d := by
  obtain ⟨dst, op, ty, pos, after, grd⟩ := o
  dsimp only at hk h
  have hnb : 0 < d.length → ¬ G base := fun hd => hn base (Nat.le_refl _) (by omega)
  unfold opQ at h
  split at h
  case h_1 x =>
    obtain ⟨h1, h2⟩ := move_sound (P := P) (base := base) hm (hev x).1 (hev x).2 h
    exact ⟨OpRes.of_mem (s := Pure.pure (a.eval x)) (by simp [execOp]) h1, h2⟩
  case h_2 x =>
    obtain ⟨h1, h2⟩ := move_sound (P := P) (base := base) hm (hev x).1 (hev x).2 h
    exact ⟨OpRes.of_mem (s := Pure.pure (a.eval x)) (by simp [execOp]) h1, h2⟩
  case h_3 c x y => exact op_pick hm hev hk hnb h
  case h_4 op' t x y t' =>
    simp only [chkOp] at hk
    obtain ⟨h1, h2⟩ := bin_sound (G := G) (w := w) (ox := x) (oy := y) hk (hev x).1 (hev y).1 h
    obtain ⟨rfl, v', hr, hv⟩ := h2
    refine ⟨OpRes.pure (v' := v') hm ?_ hv.1 hv.2, IdsOk.nil⟩
    simp [execOp, h1, hr]
  case h_5 op' t x => exact op_unop hm hev hk hnb h
  case h_6 s t x => exact op_conv hm hev hk hnb h
  case h_7 x j =>
    refine Sound.of_pure (s := Instr.extract (a.eval x) j) hm (fun w => by simp [execOp]) ?_
    have hxr := hev x
    split at h
    · rename_i vs hx
      rw [hx] at hxr
      exact extract_sound hxr.1 hxr.2 h
    · exact (run_fail h).elim
  case h_8 x => exact op_nilCheck hm hev hk hnb h
  case h_9 s x f => exact op_fieldAddr hm hev hk hnb h
  case h_10 t x f => exact op_field hm hev hk hnb h
  case h_11 t x i => exact op_index hm hev hk hnb h
  case h_12 t x i => exact op_indexAddr hm hev hk hnb h
  case h_13 t x =>
    refine Sound.of_pure (s := Instr.loadAt t (a.eval x)) hm (fun w => by simp [execOp]) ?_
    have hxr := hev x
    split at h
    · simp only [chkOp, Bool.and_eq_true, beq_iff_eq] at hk
      exact load_sound hm hxr.1 hxr.2 hk.1 hk.2 h
    · simp only [chkOp, beq_iff_eq] at hk
      exact loadDyn_sound hm hxr.1 hk h
    · exact (run_fail h).elim
  case h_14 t x y =>
    split at h
    · rename_i sz
      simp only [chkOp, beq_iff_eq] at hk
      exact ⟨store_sound hm rfl hk (hev x).1 (hev x).2 (hev y).1 (hev y).2 h, store_ids h⟩
    · simp only [chkOp, beq_iff_eq] at hk
      exact ⟨nstore_sound hm rfl hk (hev x).1 (hev x).2 (hev y).1 (hev y).2 h, nstore_ids h⟩
    · exact (run_fail h).elim
  case h_15 e =>
    split at h
    · rename_i z
      simp only [chkOp] at hk
      have h0 := h
      simp only [Qn.run, done1, Option.some.injEq, Prod.mk.injEq] at h0
      obtain ⟨rfl, rfl⟩ := h0
      exact ⟨alloc_sound hm rfl hk (hnb (by simp)), IdsOk.one (by simp)⟩
    · exact (run_fail h).elim
  case h_16 e x =>
    refine ⟨box_sound hm rfl (hev x).1 (hev x).2 (hnb ?_) h, ?_⟩
    · obtain ⟨_, h⟩ := run_cond_inv h
      exact pos_of_done h
    obtain ⟨_, h⟩ := run_cond_inv h
    exact ids_of_done h (IdsOk.one (by simp))
  case h_17 t ps =>
    refine Sound.of_pure (s := Instr.build t (ps.map fun (i, x) => (i, a.eval x))) hm (fun w => by simp [execOp]) ?_
    split at h
    · rename_i z places
      simp only [chkOp, Bool.and_eq_true] at hk
      exact build_sound hk.1 hk.2 hev h
    · exact (run_fail h).elim
  case h_18 t len ps => exact op_buildSlice hm hev hk hnb h
  case h_19 t l c => exact op_makeSlice hm hev hk hnb h
  case h_20 t x lo hi mx => exact op_slice hm hev hk hnb h
  case h_21 f first caps => exact op_makeFunc hm hev hk hnb h
  case h_22 c =>
    simp only [chkOp] at hk
    exact call_sound hC hm hev rfl hk hn h
  case h_23 => exact (run_fail h).elim

end
end Go.R

/- One machine state, told anew: what a loop's round or a joined piece hands on. -/
namespace Go.R
open Go

mutual
theorem Bd_true : (a : AV) → Bd (fun _ => True) a
  | .own _ => by simp [Bd]
  | .ownn _ => by simp [Bd]
  | .ownv _ _ _ => by simp [Bd]
  | .ptr _ _ _ => by simp [Bd]
  | .rptr cs => by simp only [Bd]; exact BdL_true cs
  | .var _ cs => by simp only [Bd]; exact BdL_true cs
  | .agg cs => by simp only [Bd]; exact BdL_true cs
  | .tup vs => by simp only [Bd]; exact BdL_true vs
  | .fn _ caps => by simp only [Bd]; exact BdL_true caps
  | .undef | .int _ _ | .bool _ | .str _ | .nils | .emp | .nilp | .ro _ _ _ | .errv _ | .flt _ => by simp [Bd]
theorem BdL_true : (as : List AV) → BdL (fun _ => True) as
  | [] => by simp [BdL]
  | a :: as => by simp only [BdL]; exact ⟨Bd_true a, BdL_true as⟩
end

section
variable {E : Env} {w0 : Start} {S G : Nat → Prop} {M : Mem} {ρ : Places} {L L0 : Blks} {w : World} {fr fr0 : List AV} {fs : List (List AV)} {tmps : List Value} {susp : List (List Value)} {n : Nat}

/-- A block that is told as before, or forgotten, or of which the cells are forgotten. -/
def Less (L L0 : Blks) (id : Nat) : Prop := L0 id = none ∨ L0 id = L id ∨ ∃ e cs cs0, L id = some (.box e cs) ∧ L0 id = some (.box e cs0) ∧ cs0.length = cs.length ∧ ∀ c ∈ cs0, c = AV.undef

theorem Less.still (h : ∀ id, Less L L0 id) : Still (fun _ => True) ρ L ρ L0 := fun id _ => by
  rcases h id with h | h | ⟨e, cs, cs0, h1, h2, _⟩
  · exact .inl h
  · cases hl : L0 id with
    | none => exact .inl rfl
    | some b => rw [hl] at h; rw [← h]; exact .inr ⟨Alike.refl, rfl⟩
  · rw [h1, h2]; exact .inr ⟨trivial, rfl⟩

theorem RepL_undef : {cs : List AV} → {us : List Value} → cs.length = us.length → (∀ c ∈ cs, c = AV.undef) → RepL M ρ L cs us
  | [], [], _, _ => by simp [RepL]
  | c :: cs, u :: us, hl, h => by
    have := h c (List.mem_cons_self ..)
    subst this
    simp only [RepL]
    exact ⟨u, us, rfl, by simp [Rep], RepL_undef (by simpa using hl) fun c hc => h c (List.mem_cons_of_mem _ hc)⟩
  | [], _ :: _, hl, _ => by simp at hl
  | _ :: _, [], hl, _ => by simp at hl

theorem RepL_less : {as bs : List AV} → {us : List Value} → RepL M ρ L as us → bs.length = as.length → (∀ (t : Nat) (b : AV), bs[t]? = some b → b = .undef ∨ as[t]? = some b) → RepL M ρ L bs us
  | [], [], us, h, _, _ => h
  | a :: as, b :: bs, us, h, hl, hb => by
    simp only [RepL] at h ⊢
    obtain ⟨u, us', rfl, h1, h2⟩ := h
    refine ⟨u, us', rfl, ?_, RepL_less h2 (by simpa using hl) fun t b' ht => by simpa using hb (t + 1) b' (by simpa using ht)⟩
    rcases hb 0 b (by simp) with rfl | hh
    · simp [Rep]
    · simp at hh; subst hh; exact h1
  | [], _ :: _, _, _, hl, _ => by simp at hl
  | _ :: _, [], _, _, hl, _ => by simp at hl

theorem Sim.forget (h : Sim E w0 S G M ρ L fr fs tmps susp w) (hl : fr0.length = fr.length) (hf : ∀ (t : Nat) (b : AV), fr0[t]? = some b → b = .undef ∨ fr[t]? = some b) (hb : BdL (fun i => i < n) fr0)
    (hL : ∀ id, Less L L0 id) (hbb : ∀ id e cs, L0 id = some (.box e cs) → BdL (fun i => i < n) cs) (hlive : ∀ id, L0 id ≠ none → id < n) (hfs : BdF (fun i => i < n) fs) :
    Sim E w0 S (fun i => i < n) M ρ L0 fr0 fs tmps susp w := by
  have hst : Still (fun _ => True) ρ L ρ L0 := Less.still hL
  have old : ∀ id, L0 id ≠ none → L id ≠ none := fun id hl => by
    rcases hL id with h | h | ⟨e, cs, cs0, h1, _⟩
    · exact absurd h hl
    · rwa [h] at hl
    · rw [h1]; simp
  have hm : SimM E w0 S (fun i => i < n) M ρ L0 w := by
    refine ⟨h.mem, h.kp, h.glob, fun id hl => h.own id (old id hl), fun id id' h1 h2 => h.inj id id' (old id h1) (old id' h2), fun id => ?_, hbb, hlive, h.le, h.new⟩
    rcases hL id with h0 | h0 | ⟨e, cs, cs0, h1, h2, h3, h4⟩
    · simp [BlkOk, h0]
    · exact (h.blk id).keep h0 rfl (Mem.le_refl _) hst (fun e cs _ => BdL_true cs) (fun _ _ _ _ => rfl)
    · have := h.blk id
      unfold BlkOk at this ⊢
      rw [h1] at this
      rw [h2]
      dsimp only at this ⊢
      obtain ⟨g, cap, cur, k1, k2, k3⟩ := this
      exact ⟨g, cap, cur, k1, k2, RepL_undef (by rw [h3, k3.length]) h4⟩
  exact { hm with
    frr := RepL_less (h.frr.mono (Mem.le_refl _) hst _ _ (BdL_true fr)) hl hf
    fsr := h.fsr.mono (Mem.le_refl _) hst _ _ (h.bfs.mono fun _ _ => trivial)
    bfr := hb
    bfs := hfs }

/-! ### Places -/

/-- The machine's value at a place. -/
def At (ρ : Places) (tmps : List Value) (w : World) : Loc → Value → Prop
  | .slot t, u => tmps[t]? = some u
  | .cell id j, u => ∃ g c cur e, ρ id = some (g, c) ∧ w.heap[g]? = some (.cells cur e (0, 0)) ∧ cur[j]? = some u

/-- A state's blocks and frame beside the machine. -/
def SimS (E : Env) (w0 : Start) (S : Nat → Prop) (M : Mem) (ρ : Places) (n : Nat) (st : St) (tmps : List Value) (susp : List (List Value)) (w : World) : Prop :=
  Sim E w0 S (fun i => i < n) M ρ (look st.store) st.fr st.fs tmps susp w

theorem at_value {st : St} (h : Sim E w0 S G M ρ (look st.store) st.fr st.fs tmps susp w) {l : Loc} (hu : st.at l ≠ .undef) : ∃ u, At ρ tmps w l u ∧ Rep M ρ (look st.store) (st.at l) u ∧ Bd G (st.at l) ∧ ∀ id j, l = .cell id j → ∃ e cs, look st.store id = some (.box e cs) := by
  cases l with
  | slot t =>
    simp only [St.at] at hu ⊢
    cases hg : st.fr[t]? with
    | none => simp [List.getD, hg] at hu
    | some v =>
      obtain ⟨u, h1, h2⟩ := h.frr.get hg
      simp only [List.getD, hg, Option.getD_some]
      exact ⟨u, h1, h2, h.bfr.get hg, by simp⟩
  | cell id j =>
    simp only [St.at] at hu ⊢
    cases hl : look st.store id with
    | none => rw [hl] at hu; exact absurd rfl hu
    | some b =>
      rw [hl] at hu
      cases b with
      | row e t xs => exact absurd rfl hu
      | box e cs =>
        simp only at hu ⊢
        cases hg : cs[j]? with
        | none => simp [List.getD, hg] at hu
        | some v =>
          have hb := h.blk id
          unfold BlkOk at hb
          rw [hl] at hb
          dsimp only at hb
          obtain ⟨g, c, cur, k1, k2, k3⟩ := hb
          obtain ⟨u, h1, h2⟩ := k3.get hg
          simp only [List.getD, hg, Option.getD_some]
          refine ⟨u, ⟨g, c, cur, e, k1, k2, by rwa [Array.getElem?_toList] at h1⟩, h2, (h.bbx id e cs hl).get hg, fun id' j' he => ?_⟩
          cases he
          exact ⟨e, cs, hl⟩

theorem set_self {α : Type} : {l : List α} → {i : Nat} → {a : α} → l[i]? = some a → l.set i a = l
  | [], _, _, h => by simp at h
  | b :: l, 0, a, h => by simp at h; subst h; rfl
  | b :: l, i + 1, a, h => by simp only [List.set_cons_succ]; rw [set_self (by simpa using h)]

/-- A place is told anew. -/
theorem SimS.setAt {st : St} (h : SimS E w0 S M ρ n st tmps susp w) {l : Loc} {u : Value} (ha : At ρ tmps w l u) {v : AV} (hv : Rep M ρ (look st.store) v u) (hb : Bd (fun i => i < n) v) (hL : ∀ (L' : Blks), Still (fun i => i < n) ρ (look st.store) ρ L' → Rep M ρ L' v u) :
    SimS E w0 S M ρ n (st.setAt l v) tmps susp w := by
  cases l with
  | slot t =>
    simp only [St.setAt]
    have := Sim.put h t hv hb
    rw [set_self (show tmps[t]? = some u from ha)] at this
    exact this
  | cell id j =>
    simp only [St.setAt]
    cases hl : look st.store id with
    | none => exact h
    | some b =>
      cases b with
      | row e t xs => exact h
      | box e cs =>
        obtain ⟨g, c, cur, e', k1, k2, k3⟩ := ha
        have hbk := h.blk id
        unfold BlkOk at hbk
        rw [hl] at hbk
        dsimp only at hbk
        obtain ⟨g', c', cur', q1, q2, q3⟩ := hbk
        rw [k1] at q1
        cases q1
        rw [k2] at q2
        cases q2
        have hst : Still (fun i => i < n) ρ (look st.store) ρ (upd (look st.store) id (some (.box e (cs.set j v)))) := fun q _ => by
          by_cases hq : q = id
          · subst hq; rw [upd_same, hl]; exact .inr ⟨trivial, rfl⟩
          · rw [upd_other _ _ hq]; exact Still.refl_of (G := fun _ => True) q trivial
        have hlive : ∀ q, upd (look st.store) id (some (.box e (cs.set j v))) q ≠ none → look st.store q ≠ none := fun q hq => by
          by_cases hqi : q = id
          · subst hqi; rw [hl]; simp
          · rwa [upd_other _ _ hqi] at hq
        have hm : SimM E w0 S (fun i => i < n) M ρ (upd (look st.store) id (some (.box e (cs.set j v)))) w := by
          refine ⟨h.mem, h.kp, h.glob, fun q hq => h.own q (hlive q hq), fun q q' h1 h2 => h.inj q q' (hlive q h1) (hlive q' h2), fun q => ?_, fun q e2 cs2 hq => ?_, fun q hq => h.live q (hlive q hq), h.le, h.new⟩
          · by_cases hqi : q = id
            · subst hqi
              simp only [BlkOk, upd_same]
              refine ⟨g, c, cur, k1, k2, ?_⟩
              have := (q3.mono (Mem.le_refl _) hst _ _ (h.bbx q e cs hl)).set j (hL _ hst)
              rw [set_self (l := cur.toList) (i := j) (a := u) (by rw [Array.getElem?_toList]; exact k3)] at this
              exact this
            · exact (h.blk q).keep (upd_other _ _ hqi) rfl (Mem.le_refl _) hst (h.bbx q) (fun _ _ _ _ => rfl)
          · by_cases hqi : q = id
            · subst hqi
              rw [upd_same] at hq
              cases hq
              exact (h.bbx q e cs hl).set j hb
            · rw [upd_other _ _ hqi] at hq
              exact h.bbx q e2 cs2 hq
        exact Sim.mem' h hm (Mem.le_refl _) hst (fun _ hi => hi)

/-- Data at a place. -/
theorem SimS.setData {st : St} (h : SimS E w0 S M ρ n st tmps susp w) {hh : Hole} {x : Dat hh.t} {u : Value} (ha : At ρ tmps w hh.loc u) {us : List Value} (hu : u = oneV hh.agg us) (h1 : hh.agg = false → us.length = 1) (hr : RepS M hh.t x us) :
    SimS E w0 S M ρ n (st.setAt hh.loc (oneOf hh.agg (cellsOf hh.t x))) tmps susp w := by
  subst hu
  exact h.setAt ha (oneV_rep h1 (RepL.of_S hr)) (oneV_bd (BdL_cellsOf _ _)) fun L' _ => oneV_rep h1 (RepL.of_S hr)

/-- What a hole holds. -/
def HoleV (M : Mem) (ρ : Places) (tmps : List Value) (w : World) (hh : Hole) (x : Dat hh.t) : Prop := ∃ u us, At ρ tmps w hh.loc u ∧ u = oneV hh.agg us ∧ (hh.agg = false → us.length = 1) ∧ RepS M hh.t x us

theorem dec_undef {t : Ty} {x : Dat t} (h : dec t [.undef] = some x) : False := by
  cases t with
  | pair a b =>
    simp only [dec, Option.bind_eq_some_iff] at h
    obtain ⟨y, h1, z, h2, _⟩ := h
    have o1 := dec_one h1
    have o2 := dec_one h2
    cases hs : a.sz with
    | zero => rw [hs] at o2; simp [AV.oneCell] at o2
    | succ k => rw [hs] at o1; simp [AV.oneCell] at o1
  | _ => simp [dec] at h

theorem decH_inv {st : St} (h : Sim E w0 S G M ρ (look st.store) st.fr st.fs tmps susp w) {hh : Hole} {x : Dat hh.t} (hd : decH hh (st.at hh.loc) = some x) : HoleV M ρ tmps w hh x := by
  unfold decH at hd
  cases hc : (hh.agg == (st.at hh.loc).isAgg) with
  | false => rw [hc] at hd; cases hd
  | true =>
    rw [hc] at hd
    simp only [cond_true] at hd
    have hag := eq_of_beq hc
    have hu : st.at hh.loc ≠ .undef := fun he => by rw [he] at hd; exact dec_undef hd
    obtain ⟨u, h1, h2, h3, _⟩ := at_value h hu
    obtain ⟨hcr, _⟩ := rep_cells h2 (dec_one hd)
    refine ⟨u, u.cells.toList, h1, ?_, fun e => ?_, RepS.of_dec hd hcr⟩
    · rw [hag]
      generalize st.at hh.loc = av at *
      cases av <;> simp only [AV.isAgg, oneV]
      case agg c => simp only [Rep] at h2; obtain ⟨us, rfl, _⟩ := h2; simp [Value.cells]
      all_goals
        have hone := dec_one hd
        simp only [AV.cells, List.all_cons, List.all_nil, Bool.and_true] at hone
        rw [(rep_one h2 hone).2]
        rfl
    · rw [hag] at e
      have hl := hcr.length
      generalize st.at hh.loc = av at *
      cases av <;> simp_all [AV.cells, AV.isAgg]

def HolesV (M : Mem) (ρ : Places) (tmps : List Value) (w : World) : (hs : List Hole) → DatH hs → Prop
  | [], _ => True
  | [h], x => HoleV M ρ tmps w h x
  | h :: g :: r, x => HoleV M ρ tmps w h x.1 ∧ HolesV M ρ tmps w (g :: r) x.2

theorem getH_inv {st : St} (h : Sim E w0 S G M ρ (look st.store) st.fr st.fs tmps susp w) : {hs : List Hole} → {x : DatH hs} → getH st hs = some x → HolesV M ρ tmps w hs x
  | [], _, _ => trivial
  | [hh], x, hd => decH_inv h hd
  | hh :: g :: r, x, hd => by
    simp only [getH, Option.bind_eq_some_iff, Option.some.injEq] at hd
    obtain ⟨y, h1, z, h2, rfl⟩ := hd
    exact ⟨decH_inv h h1, getH_inv h h2⟩

theorem putH_sound : {hs : List Hole} → {x : DatH hs} → HolesV M ρ tmps w hs x → {st : St} → SimS E w0 S M ρ n st tmps susp w → SimS E w0 S M ρ n (putH st hs x) tmps susp w
  | [], _, _, _, hs => hs
  | [h], x, hv, st, hs => by obtain ⟨u, us, h1, h2, h3, h4⟩ := hv; exact hs.setData h1 h2 h3 h4
  | h :: g :: r, x, hv, st, hs => by
    obtain ⟨⟨u, us, h1, h2, h3, h4⟩, hv⟩ := hv
    exact putH_sound hv (hs.setData h1 h2 h3 h4)

/-! ### Rows that are handed on -/

/-- A row's place, and the values under its names. -/
def RowF (M : Mem) (ρ : Places) (w0 : Start) (S : Nat → Prop) (tmps : List Value) (w : World) (h : RowHole) (xs : List (Dat h.t)) : Option (Nat × Nat) → Prop
  | none => xs = [] ∧ ∀ l ∈ h.locs, ∃ u A, At ρ tmps w l u ∧ u = .slice A 0 0 ∧ (h.nn = true → u = .slice none 0 0)
  | some (g, cap) => 0 < h.t.sz ∧ (∃ cur, w.heap[g]? = some (.cells cur h.e (0, 0)) ∧ xs.length ≤ cap ∧ cap ≤ maxLen ∧ cur.size = cap * h.t.sz ∧ RowIn M h.t xs cur) ∧ (w0.heap.size ≤ g ∨ S g) ∧ (∀ o, M g o = none) ∧
      ∀ l ∈ h.locs, ∃ u, At ρ tmps w l u ∧ ((xs = [] ∧ ∃ A, u = .slice A 0 0) ∨ u = .slice (some ⟨g, 0, none⟩) xs.length cap) ∧ (h.nn = true → xs = [] → u = .slice none 0 0)

theorem RowF.rep {h : RowHole} {xs : List (Dat h.t)} {p : Option (Nat × Nat)} (hf : RowF M ρ w0 S tmps w h xs p) {l : Loc} (hl : l ∈ h.locs) : ∃ u, At ρ tmps w l u ∧ ∀ (ρ' : Places) (L' : Blks) (m : Nat), ρ' m = p → L' m = some (.row h.e h.t xs) → Rep M ρ' L' (ownA h.nn m) u := by
  have name : ∀ {ρ' : Places} {L' : Blks} {m : Nat} {u : Value}, L' m = some (.row h.e h.t xs) → (h.nn = true → xs = [] → u = .slice none 0 0) → OwnV ρ' L' m 0 none u → Rep M ρ' L' (ownA h.nn m) u := fun {ρ' L' m u} hL hn ho => by
    cases hnn : h.nn with
    | false => simpa only [ownA, Rep] using ho
    | true =>
      simp only [ownA, Rep]
      refine ⟨ho, fun e t hl => ?_⟩
      rw [hL] at hl
      cases hl
      exact hn hnn rfl
  cases p with
  | none =>
    obtain ⟨rfl, hf⟩ := hf
    obtain ⟨u, A, h1, rfl, h3⟩ := hf l hl
    refine ⟨_, h1, fun ρ' L' m _ hL => name hL (fun hn _ => h3 hn) ?_⟩
    simp only [OwnV, hL]
    exact ⟨A, 0, rfl, by simp [inView], .inl ⟨rfl, by simp⟩⟩
  | some q =>
    obtain ⟨g, cap⟩ := q
    obtain ⟨_, _, _, _, hf⟩ := hf
    obtain ⟨u, h1, h2, h3⟩ := hf l hl
    refine ⟨u, h1, fun ρ' L' m hρ hL => name hL h3 ?_⟩
    simp only [OwnV, hL]
    rcases h2 with ⟨rfl, A, rfl⟩ | rfl
    · exact ⟨A, 0, rfl, by simp [inView], .inl ⟨rfl, by simp⟩⟩
    · exact ⟨_, cap, rfl, by simp [inView], .inr ⟨g, cap, hρ, by simp, by simp⟩⟩

/-- A row takes another number. -/
theorem SimS.alias {st : St} (hs : SimS E w0 S M ρ n st tmps susp w) {h : RowHole} {xs : List (Dat h.t)} {p : Option (Nat × Nat)} {ρ0 : Places} (hf : RowF M ρ0 w0 S tmps w h xs p) (hfree : ∀ id, look st.store id ≠ none → ∀ g c, ρ id = some (g, c) → ∀ g' c', p = some (g', c') → g ≠ g') :
    SimS E w0 S M (upd ρ n p) (n + 1) { st with store := (n, some (.row h.e h.t xs)) :: st.store } tmps susp w := by
  have hn : ¬ (n < n) := by omega
  have up : ∀ i, (i < n ∨ i = n) → i < n + 1 := fun i hi => by omega
  have fin : ∀ {ρ' : Places}, SimM E w0 S (fun i => i < n ∨ i = n) M ρ' (upd (look st.store) n (some (.row h.e h.t xs))) w → Still (fun i => i < n) ρ (look st.store) ρ' (upd (look st.store) n (some (.row h.e h.t xs))) →
      SimS E w0 S M ρ' (n + 1) { st with store := (n, some (.row h.e h.t xs)) :: st.store } tmps susp w := by
    intro ρ' h1 h2
    have h1' : SimM E w0 S (fun i => i < n + 1) M ρ' (upd (look st.store) n (some (.row h.e h.t xs))) w := { h1 with bbx := fun id e cs hl => (h1.bbx id e cs hl).mono up, live := fun id hl => up id (h1.live id hl) }
    exact Sim.mem' hs h1' (Mem.le_refl _) h2 (fun i hi => by omega)
  cases p with
  | none =>
    obtain ⟨rfl, _⟩ := hf
    obtain ⟨h1, h2⟩ := hs.toSimM.empty (n := n) hn h.e h.t
    exact fin h1 h2
  | some q =>
    obtain ⟨g, cap⟩ := q
    obtain ⟨hpos, ⟨cur, k1, k2, k3, k4, k5⟩, k6, k7, _⟩ := hf
    obtain ⟨h1, h2⟩ := hs.toSimM.adopt (n := n) (cur' := cur) hn k1 k6 k7 (fun id hl g' c' hr => hfree id hl g' c' hr g cap rfl) hpos k2 k3 k4 k5
    rw [setRow_self w g cur h.e (0, 0) k1] at h1
    exact fin h1 h2

theorem rowAt_inv {st : St} {e : TypeId} {t : Ty} {av : AV} {xs : List (Dat t)} {id : Option Nat} (h : rowAt st e t av = some (xs, id)) :
    (id = none ∧ xs = [] ∧ (av = .nils ∨ av = .emp)) ∨ (∃ i, id = some i ∧ (av = .own i ∨ av = .ownn i) ∧ look st.store i = some (.row e t xs)) ∨ ∃ i b ys, id = some i ∧ av = .ownv i 0 (some b) ∧ look st.store i = some (.row e t ys) ∧ xs = List.take b ys := by
  unfold rowAt at h
  split at h
  · simp only [Option.some.injEq, Prod.mk.injEq] at h
    exact .inl ⟨h.2.symm, h.1.symm, .inl rfl⟩
  · simp only [Option.some.injEq, Prod.mk.injEq] at h
    exact .inl ⟨h.2.symm, h.1.symm, .inr rfl⟩
  · rename_i i
    split at h
    · rename_i e' u ys hl
      split at h
      · rename_i hut
        subst hut
        cases hee : Nat.beq e' e with
        | false => rw [hee] at h; cases h
        | true =>
          rw [hee] at h
          have hee := Nat.eq_of_beq_eq_true hee
          subst hee
          simp only [castS_self, cond_true, Option.some.injEq, Prod.mk.injEq] at h
          obtain ⟨rfl, rfl⟩ := h
          exact .inr (.inl ⟨i, rfl, .inl rfl, hl⟩)
      · cases h
    · cases h
  · rename_i i
    split at h
    · rename_i e' u ys hl
      split at h
      · rename_i hut
        subst hut
        cases hee : Nat.beq e' e with
        | false => rw [hee] at h; cases h
        | true =>
          rw [hee] at h
          have hee := Nat.eq_of_beq_eq_true hee
          subst hee
          simp only [castS_self, cond_true, Option.some.injEq, Prod.mk.injEq] at h
          obtain ⟨rfl, rfl⟩ := h
          exact .inr (.inl ⟨i, rfl, .inr rfl, hl⟩)
      · cases h
    · cases h
  · rename_i i b
    split at h
    · rename_i e' u ys hl
      split at h
      · rename_i hut
        subst hut
        cases hee : Nat.beq e' e with
        | false => rw [hee] at h; cases h
        | true =>
          rw [hee] at h
          have hee := Nat.eq_of_beq_eq_true hee
          subst hee
          simp only [castS_self, cond_true, Option.some.injEq, Prod.mk.injEq] at h
          obtain ⟨rfl, rfl⟩ := h
          exact .inr (.inr ⟨i, b, ys, rfl, rfl, hl, rfl⟩)
      · cases h
    · cases h
  · cases h

theorem sameRow_undef {a b : AV} (h : sameRow a b = true) : b ≠ .undef := by
  intro hb
  subst hb
  cases a <;> simp [sameRow] at h

theorem sameRow_cases {a b : AV} (h : sameRow a b = true) : (∃ i, (a = .own i ∧ b = .own i) ∨ (a = .ownn i ∧ b = .ownn i)) ∨ (∃ i q, a = .ownv i 0 (some q) ∧ b = .ownv i 0 (some q)) ∨ ((a = .nils ∨ a = .emp) ∧ (b = .nils ∨ b = .emp)) := by
  unfold sameRow at h
  split at h
  · rename_i i j
    have := Nat.eq_of_beq_eq_true h
    subst this
    exact .inl ⟨_, .inl ⟨rfl, rfl⟩⟩
  · rename_i i j
    have := Nat.eq_of_beq_eq_true h
    subst this
    exact .inl ⟨_, .inr ⟨rfl, rfl⟩⟩
  · rename_i i q j q'
    simp only [Bool.and_eq_true] at h
    have h1 := Nat.eq_of_beq_eq_true h.1
    have h2 := Nat.eq_of_beq_eq_true h.2
    subst h1 h2
    exact .inr (.inl ⟨_, _, rfl, rfl⟩)
  all_goals first
    | exact .inr (.inr ⟨by simp, by simp⟩)
    | cases h

/-- The place of a block of the call's own, by its number. -/
def placeOf (ρ : Places) : Option Nat → Option (Nat × Nat)
  | none => none
  | some i => ρ i

theorem rowH_inv {st : St} (hs : Sim E w0 S G M ρ (look st.store) st.fr st.fs tmps susp w) {h : RowHole} {xs : List (Dat h.t)} {ids : List Nat} (hr : rowH st h = some (xs, ids)) :
    ∃ id : Option Nat, ids = id.toList ∧ RowF M ρ w0 S tmps w h xs (placeOf ρ id) ∧ ∀ i, id = some i → look st.store i ≠ none := by
  unfold rowH at hr
  split at hr
  · cases hr
  · rename_i l ls hlocs
    split at hr
    · rename_i ys id hrow
      cases hall : ((ls.all fun l' => sameRow (st.at l) (st.at l')) && (!h.nn || h.locs.all fun l' => (st.at l').nilRow)) with
      | false => rw [hall] at hr; cases hr
      | true =>
        rw [hall] at hr
        simp only [cond_true, Option.some.injEq, Prod.mk.injEq] at hr
        obtain ⟨rfl, rfl⟩ := hr
        refine ⟨id, rfl, ?_⟩
        obtain ⟨hall, hnn⟩ := Bool.and_eq_true_iff.1 hall
        have hall := List.all_eq_true.1 hall
        have hnil : h.nn = true → ∀ l' ∈ h.locs, (st.at l').nilRow = true := fun hn => by
          rw [hn] at hnn
          simp only [Bool.not_true, Bool.false_or] at hnn
          exact List.all_eq_true.1 hnn
        have hne : st.at l ≠ .undef := fun he => by rw [he] at hrow; simp [rowAt] at hrow
        have same : ∀ l' ∈ h.locs, sameRow (st.at l) (st.at l') = true := fun l' hl' => by
          rw [hlocs] at hl'
          rcases List.mem_cons.1 hl' with rfl | hl'
          · rcases rowAt_inv hrow with ⟨_, _, h | h⟩ | ⟨i, _, h | h, _⟩ | ⟨i, b, ys, _, h, _⟩ <;> rw [h] <;> simp [sameRow]
          · exact hall l' hl'
        have vals : ∀ l' ∈ h.locs, ∃ u, At ρ tmps w l' u ∧ Rep M ρ (look st.store) (st.at l') u := fun l' hl' => by
          obtain ⟨u, h1, h2, _⟩ := at_value hs (sameRow_undef (same l' hl'))
          exact ⟨u, h1, h2⟩
        have own : ∀ {i : Nat} {hi : Option Nat} {ys : List (Dat h.t)}, look st.store i = some (.row h.e h.t ys) → (∀ l' ∈ h.locs, ∃ u, At ρ tmps w l' u ∧ OwnV ρ (look st.store) i 0 hi u ∧ (h.nn = true → view ys 0 hi = [] → u = .slice none 0 0)) → RowF M ρ w0 S tmps w h (view ys 0 hi) (ρ i) := by
          intro i hi ys hl hv
          have hb := hs.blk i
          unfold BlkOk at hb
          rw [hl] at hb
          dsimp only at hb
          cases hρ : ρ i with
          | none =>
            rw [hρ] at hb
            subst hb
            refine ⟨by cases hi <;> simp [view], fun l' hl' => ?_⟩
            obtain ⟨u, k1, k2, k3⟩ := hv l' hl'
            unfold OwnV at k2
            rw [hl] at k2
            dsimp only at k2
            obtain ⟨A, c, rfl, hin0, ⟨rfl, hz⟩ | ⟨g, cap, hr, _⟩⟩ := k2
            · have hz := vlen_end hin0 hz
              exact ⟨_, A, k1, by rw [hz], fun hn => k3 hn (by cases hi <;> simp [view])⟩
            · rw [hρ] at hr; cases hr
          | some q =>
            obtain ⟨g, cap⟩ := q
            rw [hρ] at hb
            obtain ⟨hpos, cur, k1, k2, k3, k4, k5⟩ := hb
            have hin : inView ys.length 0 hi := by
              obtain ⟨u, _, hu, _⟩ := hv l (by rw [hlocs]; simp)
              unfold OwnV at hu
              rw [hl] at hu
              dsimp only at hu
              obtain ⟨A, c, _, hin, _⟩ := hu
              exact hin
            have hvl := view_length ys 0 hi hin
            have hXn : vlen ys.length 0 hi ≤ ys.length := by
              cases hi with
              | none => simp [vlen]
              | some b => simp only [vlen, inView] at *; omega
            refine ⟨hpos, ⟨cur, k1, by omega, k3, k4, fun j x hx => ?_⟩, (hs.own i (by rw [hl]; simp) g cap hρ).1, (hs.own i (by rw [hl]; simp) g cap hρ).2, fun l' hl' => ?_⟩
            · have := view_get ys 0 hi j x hx
              rw [Nat.zero_add] at this
              exact k5 j x this
            · obtain ⟨u, q1, q2, q3⟩ := hv l' hl'
              refine ⟨u, q1, ?_, q3⟩
              unfold OwnV at q2
              rw [hl] at q2
              dsimp only at q2
              obtain ⟨A, c, rfl, hin0, ⟨rfl, hz⟩ | ⟨g', cap', hr, hA, hc⟩⟩ := q2
              · have hz := vlen_end hin0 hz
                exact .inl ⟨List.eq_nil_of_length_eq_zero (by omega), A, by rw [hz]⟩
              · rw [hρ] at hr
                cases hr
                exact .inr (by rw [hA, hvl]; simp only [Nat.zero_mul, Nat.zero_add] at hc ⊢; rw [hc])
        rcases rowAt_inv hrow with ⟨rfl, rfl, hav⟩ | ⟨i, rfl, hav, hl⟩ | ⟨i, b, zs, rfl, hav, hl, rfl⟩
        · refine ⟨⟨rfl, fun l' hl' => ?_⟩, by simp⟩
          obtain ⟨u, k1, k2⟩ := vals l' hl'
          have hsm := same l' hl'
          have : st.at l' = .nils ∨ st.at l' = .emp := by
            rcases sameRow_cases hsm with ⟨i, ⟨h1, _⟩ | ⟨h1, _⟩⟩ | ⟨i, q, h1, _⟩ | ⟨_, h2⟩
            · rw [h1] at hav; simp at hav
            · rw [h1] at hav; simp at hav
            · rw [h1] at hav; simp at hav
            · exact h2
          rcases this with h2 | h2 <;> rw [h2] at k2 <;> simp only [Rep] at k2
          · exact ⟨u, none, k1, k2, fun _ => k2⟩
          · obtain ⟨A, rfl⟩ := k2
            refine ⟨_, A, k1, rfl, fun hn => ?_⟩
            have := hnil hn l' hl'
            rw [h2] at this
            cases this
        · refine ⟨?_, fun j hj => by cases hj; rw [hl]; simp⟩
          have := own (hi := none) hl fun l' hl' => by
            obtain ⟨u, k1, k2⟩ := vals l' hl'
            refine ⟨u, k1, ?_⟩
            rcases sameRow_cases (same l' hl') with ⟨j, ⟨h1, h2⟩ | ⟨h1, h2⟩⟩ | ⟨j, q, h1, _⟩ | ⟨h1, _⟩
            · rcases hav with hav | hav <;> rw [hav] at h1 <;> cases h1
              rw [h2] at k2
              refine ⟨by simpa only [Rep] using k2, fun hn => ?_⟩
              have := hnil hn l' hl'
              rw [h2] at this
              cases this
            · rcases hav with hav | hav <;> rw [hav] at h1 <;> cases h1
              rw [h2] at k2
              simp only [Rep] at k2
              refine ⟨k2.1, fun _ hv => k2.2 h.e h.t ?_⟩
              rw [hl]
              have hv : ys = [] := by simpa [view] using hv
              rw [hv]
            · rcases hav with hav | hav <;> rw [hav] at h1 <;> cases h1
            · rcases hav with hav | hav <;> rw [hav] at h1 <;> simp at h1
          simpa [view, placeOf] using this
        · refine ⟨?_, fun j hj => by cases hj; rw [hl]; simp⟩
          have := own (hi := some b) hl fun l' hl' => by
            obtain ⟨u, k1, k2⟩ := vals l' hl'
            refine ⟨u, k1, ?_⟩
            rcases sameRow_cases (same l' hl') with ⟨j, ⟨h1, _⟩ | ⟨h1, _⟩⟩ | ⟨j, q, h1, h2⟩ | ⟨h1, _⟩
            · rw [hav] at h1; cases h1
            · rw [hav] at h1; cases h1
            · rw [hav] at h1
              cases h1
              rw [h2] at k2
              refine ⟨by simpa only [Rep] using k2, fun hn => ?_⟩
              have := hnil hn l' hl'
              rw [h2] at this
              cases this
            · rw [hav] at h1; simp at h1
          simpa [view, placeOf] using this
    · cases hr

theorem setAt_look {st : St} {l : Loc} {v : AV} (id : Nat) : look (st.setAt l v).store id = look st.store id ∨ ∃ e cs j, l = .cell id j ∧ look st.store id = some (.box e cs) ∧ look (st.setAt l v).store id = some (.box e (cs.set j v)) := by
  cases l with
  | slot t => exact .inl rfl
  | cell q j =>
    simp only [St.setAt]
    cases hl : look st.store q with
    | none => exact .inl rfl
    | some b =>
      cases b with
      | row e t xs => exact .inl rfl
      | box e cs =>
        simp only [look_cons]
        by_cases h : id = q
        · subst h; exact .inr ⟨e, cs, j, rfl, hl, upd_same _ _ _⟩
        · exact .inl (upd_other _ _ h)

theorem setAt_live {st : St} {l : Loc} {v : AV} {id : Nat} (h : look (st.setAt l v).store id ≠ none) : look st.store id ≠ none := by
  rcases setAt_look (st := st) (l := l) (v := v) id with h1 | ⟨e, cs, j, _, h1, _⟩
  · rwa [h1] at h
  · rw [h1]; simp

theorem setAt_box {st : St} {l : Loc} {v : AV} {id : Nat} {e : TypeId} {cs : List AV} (h : look (st.setAt l v).store id = some (.box e cs)) : ∃ cs', look st.store id = some (.box e cs') := by
  rcases setAt_look (st := st) (l := l) (v := v) id with h1 | ⟨e', cs', j, _, h1, h2⟩
  · rw [h1] at h; exact ⟨cs, h⟩
  · rw [h2] at h; cases h; exact ⟨cs', h1⟩

theorem setAt_row {st : St} {l : Loc} {v : AV} {id : Nat} {e : TypeId} {t : Ty} {xs : List (Dat t)} (h : look st.store id = some (.row e t xs)) : look (st.setAt l v).store id = some (.row e t xs) := by
  rcases setAt_look (st := st) (l := l) (v := v) id with h1 | ⟨e', cs', j, _, h1, _⟩
  · rw [h1]; exact h
  · rw [h] at h1; cases h1

/-- The state while rows are handed on. -/
structure Handing (E : Env) (w0 : Start) (S : Nat → Prop) (M : Mem) (ρ0 : Places) (L' : Blks) (rest : List Nat) (ρ : Places) (n : Nat) (st : St) (tmps : List Value) (susp : List (List Value)) (w : World) : Prop where
  sim : SimS E w0 S M ρ n st tmps susp w
  boxes : ∀ id e cs, look st.store id = some (.box e cs) → ρ id = ρ0 id
  places : ∀ id, look st.store id ≠ none → ∀ g c, ρ id = some (g, c) → ∃ j, ρ0 j = some (g, c) ∧ L' j ≠ none ∧ j ∉ rest

theorem Handing.setOwn {ρ0 : Places} {L' : Blks} {rest : List Nat} {h : RowHole} {xs : List (Dat h.t)} {p : Option (Nat × Nat)} (hf : RowF M ρ0 w0 S tmps w h xs p) {m : Nat} (hm : m < n) (hp : ρ m = p) :
    (ls : List Loc) → (∀ l ∈ ls, l ∈ h.locs) → {st : St} → Handing E w0 S M ρ0 L' rest ρ n st tmps susp w → look st.store m = some (.row h.e h.t xs) → Handing E w0 S M ρ0 L' rest ρ n (ls.foldl (fun st l => st.setAt l (ownA h.nn m)) st) tmps susp w
  | [], _, st, hs, _ => hs
  | l :: ls, hls, st, hs, hrow => by
    simp only [List.foldl_cons]
    obtain ⟨u, ha, hrep⟩ := hf.rep (hls l (List.mem_cons_self ..))
    refine Handing.setOwn hf hm hp ls (fun l' hl' => hls l' (List.mem_cons_of_mem _ hl')) ⟨?_, fun id e cs hl => ?_, fun id hl => hs.places id (setAt_live hl)⟩ (setAt_row hrow)
    · have hr := hrep ρ (look st.store) m hp hrow
      have hb : Bd (fun i => i < n) (ownA h.nn m) := by cases h.nn <;> simpa [ownA, Bd] using hm
      have go : At ρ tmps w l u → SimS E w0 S M ρ n (st.setAt l (ownA h.nn m)) tmps susp w := fun ha => hs.sim.setAt ha hr hb (fun L2 hst => hr.mono (Mem.le_refl _) hst _ _ hb)
      cases l with
      | slot t => exact go ha
      | cell id j =>
        cases hl : look st.store id with
        | none => simpa [St.setAt, hl] using hs.sim
        | some b =>
          cases b with
          | row e t xs => simpa [St.setAt, hl] using hs.sim
          | box e cs =>
            obtain ⟨g, c, cur, e', k1, k2, k3⟩ := ha
            exact go ⟨g, c, cur, e', by rw [hs.boxes id e cs hl]; exact k1, k2, k3⟩
    · obtain ⟨cs', hl'⟩ := setAt_box hl
      exact hs.boxes id e cs' hl'

theorem Handing.row {st' : St} (h0 : Sim E w0 S G M ρ (look st'.store) st'.fr st'.fs tmps susp w) {ids rest : List Nat} {ρ1 : Places} {st : St} (hs : Handing E w0 S M ρ (look st'.store) (ids ++ rest) ρ1 n st tmps susp w) (hnd : (ids ++ rest).Nodup)
    {h : RowHole} {xs : List (Dat h.t)} {id : Option Nat} (hid : ids = id.toList) (hf : RowF M ρ w0 S tmps w h xs (placeOf ρ id)) (hlive : ∀ i, id = some i → look st'.store i ≠ none) (hnew : look st.store n = none) :
    Handing E w0 S M ρ (look st'.store) rest (upd ρ1 n (placeOf ρ id)) (n + 1) (h.locs.foldl (fun st l => st.setAt l (ownA h.nn n)) { st with store := (n, some (.row h.e h.t xs)) :: st.store }) tmps susp w := by
  have hfree : ∀ q, look st.store q ≠ none → ∀ g c, ρ1 q = some (g, c) → ∀ g' c', placeOf ρ id = some (g', c') → g ≠ g' := by
    intro q hq g c hr g' c' hp he
    subst he
    obtain ⟨j, hj1, hj2, hj3⟩ := hs.places q hq g c hr
    cases id with
    | none => cases hp
    | some i =>
      have : j = i := h0.inj j i hj2 (hlive i rfl) g c c' hj1 hp
      subst this
      exact hj3 (by rw [hid]; simp)
  have hsim := hs.sim.alias hf hfree
  refine Handing.setOwn hf (by omega) (upd_same _ _ _) h.locs (fun _ hl => hl) ⟨hsim, fun q e cs hq => ?_, fun q hq g c hr => ?_⟩ (by simp [look_cons, upd_same])
  · rw [look_cons] at hq
    by_cases hqn : q = n
    · subst hqn; rw [upd_same] at hq; cases hq
    · rw [upd_other _ _ hqn] at hq ⊢
      exact hs.boxes q e cs hq
  · rw [look_cons] at hq
    by_cases hqn : q = n
    · subst hqn
      rw [upd_same] at hr
      cases id with
      | none => cases hr
      | some i =>
        refine ⟨i, hr, hlive i rfl, fun hm => ?_⟩
        rw [hid] at hnd
        simp only [Option.toList_some, List.singleton_append, List.nodup_cons] at hnd
        exact hnd.1 hm
    · rw [upd_other _ _ hqn] at hq hr
      obtain ⟨j, k1, k2, k3⟩ := hs.places q hq g c hr
      exact ⟨j, k1, k2, fun hm => k3 (List.mem_append_right _ hm)⟩

theorem foldl_live {m : Nat} {v : AV} : (ls : List Loc) → {st : St} → look (ls.foldl (fun st l => st.setAt l v) st).store m ≠ none → look st.store m ≠ none
  | [], _, h => h
  | l :: ls, st, h => setAt_live (foldl_live ls (st := st.setAt l v) h)

theorem putW_sound {st' : St} (h0 : Sim E w0 S G M ρ (look st'.store) st'.fr st'.fs tmps susp w) : {hs : List RowHole} → {x : DatW hs} → {ids : List Nat} → getW st' hs = some (x, ids) → {ρ1 : Places} → {n : Nat} → {st : St} →
    Handing E w0 S M ρ (look st'.store) ids ρ1 n st tmps susp w → ids.Nodup → ∃ ρ2, SimS E w0 S M ρ2 (n + hs.length) (putW st n hs x) tmps susp w
  | [], _, _, _, ρ1, n, st, hh, _ => ⟨ρ1, hh.sim⟩
  | [h], x, ids, hg, ρ1, n, st, hh, hnd => by
    obtain ⟨id, hid, hf, hl⟩ := rowH_inv h0 hg
    have hnew : look st.store n = none := by
      cases hq : look st.store n with
      | none => rfl
      | some b => exact absurd (hh.sim.live n (by rw [hq]; simp)) (by omega)
    have := Handing.row (rest := []) h0 (ids := ids) (by simpa using hh) (by simpa using hnd) hid hf hl hnew
    exact ⟨_, this.sim⟩
  | h :: g :: r, x, ids, hg, ρ1, n, st, hh, hnd => by
    simp only [getW] at hg
    cases h1 : rowH st' h with
    | none => rw [h1] at hg; cases hg
    | some p =>
      obtain ⟨xs, i1⟩ := p
      rw [h1] at hg
      simp only at hg
      cases h2 : getW st' (g :: r) with
      | none => rw [h2] at hg; cases hg
      | some q =>
        obtain ⟨ys, i2⟩ := q
        rw [h2] at hg
        simp only [Option.some.injEq, Prod.mk.injEq] at hg
        obtain ⟨rfl, rfl⟩ := hg
        obtain ⟨id, hid, hf, hl⟩ := rowH_inv h0 h1
        have hnew : look st.store n = none := by
          cases hq : look st.store n with
          | none => rfl
          | some b => exact absurd (hh.sim.live n (by rw [hq]; simp)) (by omega)
        have := Handing.row h0 hh hnd hid hf hl hnew
        obtain ⟨ρ2, k⟩ := putW_sound h0 h2 this (List.nodup_append.1 hnd).2.1
        refine ⟨ρ2, ?_⟩
        rw [show n + (h :: g :: r).length = n + 1 + (g :: r).length by simp; omega]
        exact k

theorem putH_facts : {hs : List Hole} → {x : DatH hs} → {st : St} → (∀ id, look (putH st hs x).store id ≠ none → look st.store id ≠ none) ∧ ∀ id e cs, look (putH st hs x).store id = some (.box e cs) → ∃ cs', look st.store id = some (.box e cs')
  | [], _, _ => ⟨fun _ h => h, fun _ _ cs h => ⟨cs, h⟩⟩
  | [h], x, st => ⟨fun _ hl => setAt_live hl, fun _ _ _ hl => setAt_box hl⟩
  | h :: g :: r, x, st => by
    have := putH_facts (hs := g :: r) (x := x.2) (st := st.setAt h.loc (oneOf h.agg (cellsOf h.t x.1)))
    refine ⟨fun id hl => setAt_live (this.1 id hl), fun id e cs hl => ?_⟩
    obtain ⟨cs', hl'⟩ := this.2 id e cs hl
    exact setAt_box hl'

/-- What is handed on is told anew. -/
theorem desc_sound {st' ctx : St} (h0 : Sim E w0 S G M ρ (look st'.store) st'.fr st'.fs tmps susp w) (hc : SimS E w0 S M ρ ctx.next ctx tmps susp w) (hless : ∀ id, look ctx.store id ≠ none → look st'.store id ≠ none)
    {s : Sig} {x : s.X} {ids : List Nat} (hg : getX st' s = some (x, ids)) (hstr : strange ctx ids = true) :
    ∃ ρ2, SimS E w0 S M ρ2 (ctx.next + s.rows.length) (putX ctx s x) tmps susp w := by
  have hstr' : ∀ i ∈ ids, look ctx.store i = none := fun i hi => by
    have := List.all_eq_true.1 hstr i hi
    simp only [Bool.or_eq_true, Option.isNone_iff_eq_none] at this
    rcases this with h | h
    · cases hq : look ctx.store i with
      | none => rfl
      | some b =>
        have := hc.live i (by rw [hq]; simp)
        have := Nat.le_of_ble_eq_true h
        omega
    · exact h
  have start : ∀ {st : St}, SimS E w0 S M ρ ctx.next st tmps susp w → (∀ id, look st.store id ≠ none → look ctx.store id ≠ none) → Handing E w0 S M ρ (look st'.store) ids ρ ctx.next st tmps susp w := fun {st} h hl =>
    ⟨h, fun _ _ _ _ => rfl, fun id hq g c hr => ⟨id, hr, hless id (hl id hq), fun hm => (hl id hq) (hstr' id hm)⟩⟩
  obtain ⟨vs, rs, mask⟩ := s
  match vs, rs, x, hg with
  | vs, [], x, hg =>
    unfold getX at hg
    dsimp only at hg
    cases hv : getH st' vs with
    | none => rw [hv] at hg; cases hg
    | some y =>
      rw [hv] at hg
      simp only [Option.some.injEq, Prod.mk.injEq] at hg
      obtain ⟨rfl, _⟩ := hg
      refine ⟨ρ, ?_⟩
      have := putH_sound (getH_inv h0 hv) hc
      simpa [putX] using this
  | [], r :: rs, y, hg =>
    unfold getX at hg
    dsimp only at hg
    cases hv : getW st' (r :: rs) with
    | none => rw [hv] at hg; cases hg
    | some q =>
      obtain ⟨z, is⟩ := q
      rw [hv] at hg
      simp only at hg
      cases hd : distinct is with
      | false => rw [hd] at hg; cases hg
      | true =>
        rw [hd] at hg
        simp only [cond_true, Option.some.injEq, Prod.mk.injEq] at hg
        obtain ⟨rfl, rfl⟩ := hg
        exact putW_sound h0 hv (start hc fun _ h => h) (distinct_nodup hd)
  | v :: vs, r :: rs, x, hg =>
    unfold getX at hg
    dsimp only at hg
    cases hv : getH st' (v :: vs) with
    | none => rw [hv] at hg; cases hg
    | some y =>
      rw [hv] at hg
      simp only at hg
      cases hw : getW st' (r :: rs) with
      | none => rw [hw] at hg; cases hg
      | some q =>
        obtain ⟨z, is⟩ := q
        rw [hw] at hg
        simp only at hg
        cases hd : distinct is with
        | false => rw [hd] at hg; cases hg
        | true =>
          rw [hd] at hg
          simp only [cond_true, Option.some.injEq, Prod.mk.injEq] at hg
          obtain ⟨rfl, rfl⟩ := hg
          have := putH_sound (getH_inv h0 hv) hc
          exact putW_sound h0 hw (start this fun id hl => putH_facts.1 id hl) (distinct_nodup hd)

end
end Go.R

/- How a state goes on; contexts. -/
namespace Go.R
open Go

theorem Shape.refl {b : Blk} : Shape (some b) b := by cases b <;> simp [Shape]
theorem Shape.trans {a : Option Blk} {b c : Blk} (h : Shape a b) (g : Shape (some b) c) : Shape a c := by
  match a, b, c, h, g with
  | some (.row _ _ _), .row _ _ _, .row _ _ _, h, g => simp only [Shape] at *; obtain ⟨rfl, rfl, h⟩ := h; obtain ⟨rfl, rfl, g⟩ := g; exact ⟨rfl, rfl, h.trans g⟩
  | some (.box _ _), .box _ _, .box _ _, h, g => simp only [Shape] at *; exact ⟨h.1.trans g.1, h.2.trans g.2⟩
  | some (.row _ _ _), .box _ _, _, h, _ => simp [Shape] at h
  | some (.box _ _), .row _ _ _, _, h, _ => simp [Shape] at h
  | some (.row _ _ _), .row _ _ _, .box _ _, _, g => simp [Shape] at g
  | some (.box _ _), .box _ _, .row _ _ _, _, g => simp [Shape] at g
  | none, _, _, h, _ => simp [Shape] at h
theorem Shape.live {a : Option Blk} {b : Blk} (h : Shape a b) : a ≠ none := by intro e; subst e; simp [Shape] at h

/-- From state to state; W: the slots that may be written. -/
structure Evo (W : Nat → Prop) (st st' : St) : Prop where
  len : st'.fr.length = st.fr.length
  fr : ∀ t, ¬ W t → st'.fr[t]? = st.fr[t]?
  fs : st'.fs = st.fs
  next : st.next ≤ st'.next
  dirty : ∃ D, st'.dirty = D ++ st.dirty ∧ ∀ id, id ∉ D → look st'.store id = look st.store id
  keep : ∀ id, id < st.next → ∀ b, look st'.store id = some b → Shape (look st.store id) b

theorem Evo.refl (W : Nat → Prop) (st : St) : Evo W st st :=
  ⟨rfl, fun _ _ => rfl, rfl, Nat.le_refl _, ⟨[], rfl, fun _ _ => rfl⟩, fun id _ b h => by rw [h]; exact Shape.refl⟩

theorem Evo.trans {W : Nat → Prop} {a b c : St} (h : Evo W a b) (g : Evo W b c) : Evo W a c := by
  refine ⟨g.len.trans h.len, fun t ht => (g.fr t ht).trans (h.fr t ht), g.fs.trans h.fs, Nat.le_trans h.next g.next, ?_, fun id hid x hx => ?_⟩
  · obtain ⟨D1, e1, k1⟩ := h.dirty
    obtain ⟨D2, e2, k2⟩ := g.dirty
    refine ⟨D2 ++ D1, by rw [e2, e1, List.append_assoc], fun id hid => ?_⟩
    rw [List.mem_append, not_or] at hid
    exact (k2 id hid.1).trans (k1 id hid.2)
  · have h2 := g.keep id (Nat.lt_of_lt_of_le hid h.next) x hx
    cases hb : look b.store id with
    | none => exact absurd hb h2.live
    | some y => rw [hb] at h2; exact (h.keep id hid y hb).trans h2

theorem Evo.wider {W W' : Nat → Prop} (hW : ∀ t, W t → W' t) {a b : St} (h : Evo W a b) : Evo W' a b :=
  ⟨h.len, fun t ht => h.fr t fun hw => ht (hW t hw), h.fs, h.next, h.dirty, h.keep⟩

theorem ov_mem {d : List (Nat × Option Blk)} {L : Blks} {id : Nat} : (ov d L id = L id ∧ id ∉ d.map (·.1)) ∨ (id, ov d L id) ∈ d := by
  induction d with
  | nil => exact .inl ⟨rfl, by simp⟩
  | cons p d ih =>
    obtain ⟨n, b⟩ := p
    by_cases h : id = n
    · subst h
      right
      show (id, upd (ov d L) id b id) ∈ _
      rw [upd_same]
      simp
    · have e : ov ((n, b) :: d) L id = ov d L id := upd_other _ _ h
      rw [e]
      rcases ih with ⟨h1, h2⟩ | h1
      · exact .inl ⟨h1, by simp only [List.map_cons, List.mem_cons, not_or]; exact ⟨h, h2⟩⟩
      · exact .inr (List.mem_cons_of_mem _ h1)

theorem put_evo {st : St} {dst : Option Nat} {v : AV} {d : List (Nat × Option Blk)} (hd : IdsOk (look st.store) st.next d) : Evo (fun t => dst = some t) st (st.put dst v d) := by
  refine ⟨?_, fun t ht => ?_, rfl, by simp [St.put], ⟨d.map (·.1), rfl, fun id hid => ?_⟩, fun id hid b hb => ?_⟩
  · cases dst <;> simp [St.put]
  · cases dst with
    | none => rfl
    | some q =>
      simp only [St.put]
      rw [List.getElem?_set_ne (fun e => ht (by rw [e]))]
  · simp only [St.put]
    rw [look_ov]
    rcases ov_mem (d := d) (L := look st.store) (id := id) with ⟨h, _⟩ | h
    · exact h
    · exact absurd (List.mem_map.2 ⟨_, h, rfl⟩) hid
  · simp only [St.put] at hb
    rw [look_ov] at hb
    rcases ov_mem (d := d) (L := look st.store) (id := id) with ⟨h, _⟩ | h
    · rw [h] at hb; rw [hb]; exact Shape.refl
    · rw [hb] at h
      rcases hd id b h with h1 | h1
      · omega
      · exact h1

section
variable {E : Env} {w0 : Start} {S G : Nat → Prop} {M : Mem} {ρ : Places} {L L0 : Blks} {w : World} {fr fr0 : List AV} {fs : List (List AV)} {tmps : List Value} {susp : List (List Value)} {n : Nat}

/-- The state beside the machine. -/
def SimE (E : Env) (w0 : Start) (S : Nat → Prop) (st : St) (a : Act) (susp : List (List Value)) (w : World) : Prop :=
  a.defers = w0.ds ∧ ∃ M ρ, SimS E w0 S M ρ st.next st a.tmps.toList susp w

/-- What a context names lies below its numbers. -/
structure CtxOk (c : St) : Prop where
  fr : BdL (fun i => i < c.next) c.fr
  fs : BdF (fun i => i < c.next) c.fs
  bbx : ∀ id e cs, look c.store id = some (.box e cs) → BdL (fun i => i < c.next) cs
  live : ∀ id, look c.store id ≠ none → id < c.next

theorem SimS.ctxOk {st : St} (h : SimS E w0 S M ρ st.next st tmps susp w) : CtxOk st := ⟨h.bfr, h.bfs, h.bbx, h.live⟩
theorem SimE.ctxOk {st : St} {a : Act} (h : SimE E w0 S st a susp w) : CtxOk st := let ⟨_, _, _, k⟩ := h; k.ctxOk

/-- A context beside the machine's later state. -/
theorem ctx_sim {c st' : St} (h0 : Sim E w0 S G M ρ (look st'.store) st'.fr st'.fs tmps susp w) (hc : CtxOk c) (hl : c.fr.length = st'.fr.length) (hf : ∀ (t : Nat) (b : AV), c.fr[t]? = some b → b = .undef ∨ st'.fr[t]? = some b) (hfs : st'.fs = c.fs)
    (hL : ∀ id, Less (look st'.store) (look c.store) id) : SimS E w0 S M ρ c.next c tmps susp w := by
  have h1 := h0.forget (L0 := look c.store) (n := c.next) hl hf hc.fr hL hc.bbx hc.live (by rw [hfs]; exact hc.fs)
  unfold SimS
  rw [← hfs]
  exact h1

theorem maskAll_spec : (ts : List Nat) → (fr : List AV) → (maskAll fr ts).length = fr.length ∧ ∀ (t : Nat) (b : AV), (maskAll fr ts)[t]? = some b → b = .undef ∨ (t ∉ ts ∧ fr[t]? = some b)
  | [], fr => ⟨rfl, fun t b h => .inr ⟨by simp, h⟩⟩
  | s :: ts, fr => by
    obtain ⟨h1, h2⟩ := maskAll_spec ts (fr.set s .undef)
    refine ⟨by rw [maskAll, h1, List.length_set], fun t b h => ?_⟩
    rcases h2 t b h with h | ⟨h3, h4⟩
    · exact .inl h
    · by_cases hst : s = t
      · subst hst
        rw [List.getElem?_set] at h4
        simp only [if_true] at h4
        split at h4
        · exact .inl (Option.some.inj h4).symm
        · cases h4
      · rw [List.getElem?_set_ne hst] at h4
        exact .inr ⟨by simp only [List.mem_cons, not_or]; exact ⟨Ne.symm hst, h3⟩, h4⟩

theorem blank_spec : (bs : List Nat) → (s : List (Nat × Option Blk)) → ∀ id, (look (blank bs s) id = look s id ∧ (id ∈ bs → ∀ e cs, look s id ≠ some (.box e cs))) ∨ (id ∈ bs ∧ ∃ e cs cs0, look s id = some (.box e cs) ∧ look (blank bs s) id = some (.box e cs0) ∧ cs0.length = cs.length ∧ ∀ c ∈ cs0, c = AV.undef)
  | [], s, id => .inl ⟨rfl, by simp⟩
  | q :: bs, s, id => by
    unfold blank
    cases hl : look s q with
    | none =>
      simp only
      rcases blank_spec bs s id with ⟨h1, h2⟩ | ⟨h1, h2⟩
      · refine .inl ⟨h1, fun hm e cs he => ?_⟩
        rcases List.mem_cons.1 hm with rfl | hm
        · rw [hl] at he; cases he
        · exact h2 hm e cs he
      · exact .inr ⟨List.mem_cons_of_mem _ h1, h2⟩
    | some b =>
      cases b with
      | row e t xs =>
        simp only
        rcases blank_spec bs s id with ⟨h1, h2⟩ | ⟨h1, h2⟩
        · refine .inl ⟨h1, fun hm e cs he => ?_⟩
          rcases List.mem_cons.1 hm with rfl | hm
          · rw [hl] at he; cases he
          · exact h2 hm e cs he
        · exact .inr ⟨List.mem_cons_of_mem _ h1, h2⟩
      | box e cs =>
        simp only
        have ih := blank_spec bs ((q, some (.box e (cs.map fun _ => .undef))) :: s) id
        rw [look_cons] at ih
        by_cases hq : id = q
        · subst hq
          rw [upd_same] at ih
          right
          refine ⟨List.mem_cons_self .., e, cs, ?_⟩
          rcases ih with ⟨h1, _⟩ | ⟨_, e', cs', cs0, h1, h2, h3, h4⟩
          · exact ⟨_, hl, h1, by simp, by simp⟩
          · cases h1
            exact ⟨cs0, hl, h2, by simpa using h3, h4⟩
        · rw [upd_other _ _ hq] at ih
          rcases ih with ⟨h1, h2⟩ | ⟨h1, h2⟩
          · refine .inl ⟨h1, fun hm => ?_⟩
            rcases List.mem_cons.1 hm with rfl | hm
            · exact absurd rfl hq
            · exact h2 hm
          · exact .inr ⟨List.mem_cons_of_mem _ h1, h2⟩

theorem BdL_undef {P : Nat → Prop} {cs : List AV} (h : ∀ c ∈ cs, c = AV.undef) : BdL P cs := BdL.of_get fun i a ha => by rw [h a (List.mem_of_getElem? ha)]; simp [Bd]

theorem ctx_ok {st : St} (h : CtxOk st) (s : Sig) (ids : List Nat) : CtxOk (st.ctx s ids) := by
  have hm := maskAll_spec (s.mask ++ s.slots) st.fr
  have hkl : ∀ id, look (kills ids ++ st.store) id ≠ none → look st.store id ≠ none := fun id hl => by
    rw [look_ov] at hl
    by_cases hi : id ∈ ids
    · exact absurd (ov_kills_in hi) hl
    · rwa [ov_kills_out hi] at hl
  have hkb : ∀ id b, look (kills ids ++ st.store) id = some b → look st.store id = some b := fun id b hl => by
    rw [look_ov] at hl
    by_cases hi : id ∈ ids
    · rw [ov_kills_in hi] at hl; cases hl
    · rwa [ov_kills_out hi] at hl
  refine ⟨BdL.of_get fun t b hb => ?_, h.fs, fun id e cs hl => ?_, fun id hl => ?_⟩
  · rcases hm.2 t b hb with rfl | ⟨_, h2⟩
    · simp [Bd]
    · exact h.fr.get h2
  · simp only [St.ctx] at hl
    rcases blank_spec s.boxes (kills ids ++ st.store) id with ⟨h1, _⟩ | ⟨_, e', cs', cs0, h1, h2, _, h4⟩
    · rw [h1] at hl; exact h.bbx id e cs (hkb id _ hl)
    · rw [h2] at hl; cases hl; exact BdL_undef h4
  · simp only [St.ctx] at hl
    rcases blank_spec s.boxes (kills ids ++ st.store) id with ⟨h1, _⟩ | ⟨_, e', cs', cs0, h1, h2, _, h4⟩
    · rw [h1] at hl; exact h.live id (hkl id hl)
    · exact h.live id (hkl id (by rw [h1]; simp))

/-- The context of a state, at that state. -/
theorem ctx_less_self (st : St) (s : Sig) (ids : List Nat) (id : Nat) : Less (look st.store) (look (st.ctx s ids).store) id := by
  have hk : look (kills ids ++ st.store) id = none ∨ look (kills ids ++ st.store) id = look st.store id := by
    rw [look_ov]
    by_cases hi : id ∈ ids
    · exact .inl (ov_kills_in hi)
    · exact .inr (ov_kills_out hi)
  simp only [St.ctx]
  rcases blank_spec s.boxes (kills ids ++ st.store) id with ⟨h1, _⟩ | ⟨_, e', cs', cs0, h1, h2, h3, h4⟩
  · rcases hk with hk | hk
    · exact .inl (h1.trans hk)
    · exact .inr (.inl (h1.trans hk))
  · rcases hk with hk | hk
    · rw [hk] at h1; cases h1
    · rw [hk] at h1; exact .inr (.inr ⟨e', cs', cs0, h1, h2, h3, h4⟩)

/-- A state that has gone on from the context's state: what it tells of old blocks. -/
theorem ctx_less {c stR st' : St} {s : Sig} {W : Nat → Prop} (hev : Evo W stR st') (hn : stR.next = c.next + s.rows.length) (hlive : ∀ id, look c.store id ≠ none → id < c.next)
    (hst : ∀ id, id < c.next → (id ∉ s.boxes ∧ look stR.store id = look c.store id) ∨ (id ∈ s.boxes ∧ ((look stR.store id = look c.store id ∧ ∀ e cs, look c.store id ≠ some (.box e cs)) ∨ ∃ e cs cs0, look stR.store id = some (.box e cs) ∧ look c.store id = some (.box e cs0) ∧ cs0.length = cs.length ∧ ∀ x ∈ cs0, x = AV.undef)))
    (hdirty : stR.dirty = c.dirty) (hclean : clean c st' s.boxes = true) (hcov : covered st' s = true) (id : Nat) : Less (look st'.store) (look c.store) id := by
  cases hcl : look c.store id with
  | none => exact .inl hcl
  | some b0 =>
    have hid := hlive id (by rw [hcl]; simp)
    obtain ⟨D, hD, hDl⟩ := hev.dirty
    have htake : st'.dirty.take (st'.dirty.length - c.dirty.length) = D := by rw [hD, hdirty]; simp
    unfold clean at hclean
    rw [htake] at hclean
    have hDd := List.all_eq_true.1 hclean
    rcases hst id hid with ⟨hb, he⟩ | ⟨hb, he⟩
    · have hnd : id ∉ D := fun hm => by
        have := hDd id hm
        simp only [Bool.or_eq_true] at this
        rcases this with h | h
        · have := Nat.le_of_ble_eq_true h; omega
        · obtain ⟨q, hq, hqe⟩ := List.any_eq_true.1 h
          have := Nat.eq_of_beq_eq_true hqe
          subst this
          exact hb hq
      exact .inr (.inl (by rw [hDl id hnd, he]))
    · have hcov' := List.all_eq_true.1 hcov id hb
      cases hl : look st'.store id with
      | none => rw [hl] at hcov'; cases hcov'
      | some b =>
        cases b with
        | row e t xs => rw [hl] at hcov'; cases hcov'
        | box e cs =>
          have hk := hev.keep id (by omega) _ hl
          rcases he with ⟨h1, h2⟩ | ⟨e', cs1, cs0, h1, h2, h3, h4⟩
          · rw [h1, hcl] at hk
            cases b0 with
            | row _ _ _ => simp [Shape] at hk
            | box e0 cs0 => exact absurd hcl (h2 e0 cs0)
          · rw [h1] at hk
            simp only [Shape] at hk
            obtain ⟨rfl, hlen⟩ := hk
            exact .inr (.inr ⟨e', cs, cs0, hl, h2, by omega, h4⟩)

/-! ### What a round's beginning touches -/

structure Touch (slots boxes : List Nat) (lo hi : Nat) (a b : St) : Prop where
  len : b.fr.length = a.fr.length
  fr : ∀ t, t ∉ slots → b.fr[t]? = a.fr[t]?
  fs : b.fs = a.fs
  dirty : b.dirty = a.dirty
  next : b.next = a.next
  out : ∀ id, (id < lo ∨ hi ≤ id) → id ∉ boxes → look b.store id = look a.store id
  box : ∀ id, id < lo → look b.store id = look a.store id ∨ ∃ e cs cs', look a.store id = some (.box e cs) ∧ look b.store id = some (.box e cs') ∧ cs'.length = cs.length

variable {slots boxes : List Nat} {lo hi : Nat}

theorem Touch.refl (a : St) : Touch slots boxes lo hi a a := ⟨rfl, fun _ _ => rfl, rfl, rfl, rfl, fun _ _ _ => rfl, fun _ _ => .inl rfl⟩

theorem Touch.trans {a b c : St} (h : Touch slots boxes lo hi a b) (g : Touch slots boxes lo hi b c) : Touch slots boxes lo hi a c := by
  refine ⟨g.len.trans h.len, fun t ht => (g.fr t ht).trans (h.fr t ht), g.fs.trans h.fs, g.dirty.trans h.dirty, g.next.trans h.next, fun id h1 h2 => (g.out id h1 h2).trans (h.out id h1 h2), fun id h1 => ?_⟩
  rcases h.box id h1 with k | ⟨e, cs, cs', k1, k2, k3⟩
  · rcases g.box id h1 with q | ⟨e, cs, cs', q1, q2, q3⟩
    · exact .inl (q.trans k)
    · exact .inr ⟨e, cs, cs', by rw [← k]; exact q1, q2, q3⟩
  · rcases g.box id h1 with q | ⟨e', cs1, cs2, q1, q2, q3⟩
    · exact .inr ⟨e, cs, cs', k1, by rw [q]; exact k2, k3⟩
    · rw [k2] at q1
      cases q1
      exact .inr ⟨e, cs, cs2, k1, q2, q3.trans k3⟩

theorem Touch.setAt {l : Loc} (h1 : ∀ t, l.slot? = some t → t ∈ slots) (h2 : ∀ i, l.box? = some i → i ∈ boxes) (a : St) (v : AV) : Touch slots boxes lo hi a (a.setAt l v) := by
  cases l with
  | slot t =>
    simp only [St.setAt]
    refine ⟨by simp, fun q hq => ?_, rfl, rfl, rfl, fun _ _ _ => rfl, fun _ _ => .inl rfl⟩
    rw [List.getElem?_set_ne (fun e => hq (by rw [← e]; exact h1 t rfl))]
  | cell id j =>
    refine ⟨?_, fun q _ => ?_, ?_, ?_, ?_, fun q _ hq => ?_, fun q _ => ?_⟩
    · simp only [St.setAt]; split <;> rfl
    · simp only [St.setAt]; split <;> rfl
    · simp only [St.setAt]; split <;> rfl
    · simp only [St.setAt]; split <;> rfl
    · simp only [St.setAt]; split <;> rfl
    · rcases setAt_look (st := a) (l := .cell id j) (v := v) q with h | ⟨e, cs, j', he, _⟩
      · exact h
      · cases he; exact absurd (h2 id rfl) hq
    · rcases setAt_look (st := a) (l := .cell id j) (v := v) q with h | ⟨e, cs, j', he, h3, h4⟩
      · exact .inl h
      · exact .inr ⟨e, cs, _, h3, h4, by simp⟩

theorem Touch.row {n : Nat} (hn : lo ≤ n) (hn' : n < hi) (a : St) (b : Option Blk) : Touch slots boxes lo hi a { a with store := (n, b) :: a.store } :=
  ⟨rfl, fun _ _ => rfl, rfl, rfl, rfl, fun id h _ => by rw [look_cons, upd_other _ _ (by rcases h with h | h <;> omega)], fun id h => .inl (by rw [look_cons, upd_other _ _ (by omega)])⟩

def LocIn (slots boxes : List Nat) (l : Loc) : Prop := (∀ t, l.slot? = some t → t ∈ slots) ∧ ∀ i, l.box? = some i → i ∈ boxes

theorem Touch.fold {v : AV} : (ls : List Loc) → (∀ l ∈ ls, LocIn slots boxes l) → (a : St) → Touch slots boxes lo hi a (ls.foldl (fun st l => st.setAt l v) a)
  | [], _, a => Touch.refl a
  | l :: ls, h, a => by
    simp only [List.foldl_cons]
    have hl := h l (List.mem_cons_self ..)
    exact (Touch.setAt hl.1 hl.2 a v).trans (Touch.fold ls (fun l hl => h l (List.mem_cons_of_mem _ hl)) _)

theorem Touch.putH : (hs : List Hole) → (∀ h ∈ hs, LocIn slots boxes h.loc) → (x : DatH hs) → (a : St) → Touch slots boxes lo hi a (putH a hs x)
  | [], _, _, a => Touch.refl a
  | [h], hh, x, a => by
    have hl := hh h (List.mem_cons_self ..)
    exact Touch.setAt hl.1 hl.2 a _
  | h :: g :: r, hh, x, a => by
    have hl := hh h (List.mem_cons_self ..)
    exact (Touch.setAt hl.1 hl.2 a _).trans (Touch.putH (g :: r) (fun h hm => hh h (List.mem_cons_of_mem _ hm)) x.2 _)

theorem Touch.putW : (hs : List RowHole) → (∀ h ∈ hs, ∀ l ∈ h.locs, LocIn slots boxes l) → (x : DatW hs) → (n : Nat) → lo ≤ n → n + hs.length ≤ hi → (a : St) → Touch slots boxes lo hi a (putW a n hs x)
  | [], _, _, _, _, _, a => Touch.refl a
  | [h], hh, x, n, hn, hn', a => (Touch.row hn (by simp only [List.length_cons, List.length_nil] at hn'; omega) a _).trans (Touch.fold h.locs (hh h (List.mem_cons_self ..)) _)
  | h :: g :: r, hh, x, n, hn, hn', a =>
    ((Touch.row hn (by simp only [List.length_cons] at hn'; omega) a _).trans (Touch.fold h.locs (hh h (List.mem_cons_self ..)) _)).trans (Touch.putW (g :: r) (fun h hm => hh h (List.mem_cons_of_mem _ hm)) x.2 (n + 1) (by omega) (by simp only [List.length_cons] at hn' ⊢; omega) _)

theorem sig_vals (s : Sig) : ∀ h ∈ s.vals, LocIn s.slots s.boxes h.loc := fun h hm =>
  ⟨fun _ ht => List.mem_append_left _ (List.mem_filterMap.2 ⟨h, hm, ht⟩), fun _ hi => List.mem_append_left _ (List.mem_filterMap.2 ⟨h, hm, hi⟩)⟩
theorem sig_rows (s : Sig) : ∀ h ∈ s.rows, ∀ l ∈ h.locs, LocIn s.slots s.boxes l := fun h hm l hl =>
  ⟨fun _ ht => List.mem_append_right _ (List.mem_flatMap.2 ⟨h, hm, List.mem_filterMap.2 ⟨l, hl, ht⟩⟩), fun _ hi => List.mem_append_right _ (List.mem_flatMap.2 ⟨h, hm, List.mem_filterMap.2 ⟨l, hl, hi⟩⟩)⟩

theorem putX_touch (c : St) (s : Sig) (x : s.X) : Touch s.slots s.boxes c.next (c.next + s.rows.length) c (putX c s x) := by
  have hv := sig_vals s
  have hr := sig_rows s
  obtain ⟨vs, rs, mask⟩ := s
  match vs, rs, x, hv, hr with
  | vs, [], x, hv, hr =>
    cases vs with
    | nil => exact Touch.putH [] hv x c
    | cons v vs => exact Touch.putH (v :: vs) hv x c
  | [], r :: rs, x, hv, hr => exact Touch.putW (r :: rs) hr x c.next (Nat.le_refl _) (Nat.le_refl _) c
  | v :: vs, r :: rs, x, hv, hr => exact (Touch.putH (v :: vs) hv x.1 c).trans (Touch.putW (r :: rs) hr x.2 c.next (Nat.le_refl _) (Nat.le_refl _) _)

/-- Slots that a signature forgets or hands on. -/
def Sig.covers (s : Sig) (ws : List Nat) : Bool := ws.all fun t => (s.mask ++ s.slots).any (Nat.beq t)

theorem covers_spec {s : Sig} {ws : List Nat} (h : s.covers ws = true) : ∀ t, t ∈ ws → t ∈ s.mask ++ s.slots := fun t ht => by
  have := List.all_eq_true.1 h t ht
  obtain ⟨q, hq, he⟩ := List.any_eq_true.1 this
  have := Nat.eq_of_beq_eq_true he
  subst this
  exact hq

/-- THE ROUND's BEGINNING, at the loop's entry or at a round's end. -/
theorem round_sim {st : St} {a : Act} (hs : SimE E w0 S st a susp w) {s : Sig} {ids0 : List Nat} {x : s.X} {ids : List Nat} (hg : getX st s = some (x, ids)) (hstr : strange (st.ctx s ids0) ids = true) :
    SimE E w0 S ((putX (st.ctx s ids0) s x).beyond s) a susp w := by
  obtain ⟨hd, M, ρ, h⟩ := hs
  have hm := maskAll_spec (s.mask ++ s.slots) st.fr
  have hless := ctx_less_self st s ids0
  have hc := ctx_sim (c := st.ctx s ids0) h (ctx_ok h.ctxOk s ids0) hm.1 (fun t b hb => (hm.2 t b hb).imp id (fun h => h.2)) rfl hless
  obtain ⟨ρ2, k⟩ := desc_sound h hc (fun id hl => by
    rcases hless id with h | h | ⟨e, cs, cs0, h, _⟩
    · exact absurd h hl
    · rwa [h] at hl
    · rw [h]; simp) hg hstr
  refine ⟨hd, M, ρ2, ?_⟩
  have e1 : ((putX (st.ctx s ids0) s x).beyond s).next = (st.ctx s ids0).next + s.rows.length := by
    simp only [St.beyond, (putX_touch (st.ctx s ids0) s x).next]
  unfold SimS at k ⊢
  rw [e1]
  exact k

theorem next_sim {st st' : St} {a' : Act} {w' : World} (hok : CtxOk st) {s : Sig} {ids0 : List Nat} {x0 : s.X} {W : Nat → Prop} (hW : ∀ t, W t → t ∈ s.mask ++ s.slots) (hev : Evo W ((putX (st.ctx s ids0) s x0).beyond s) st') (hs' : SimE E w0 S st' a' susp w')
    (hclean : clean (st.ctx s ids0) st' s.boxes = true) (hcov : covered st' s = true) {x : s.X} {ids : List Nat} (hg : getX st' s = some (x, ids)) (hstr : strange (st.ctx s ids0) ids = true) :
    SimE E w0 S ((putX (st.ctx s ids0) s x).beyond s) a' susp w' := by
  obtain ⟨hd, M, ρ, h⟩ := hs'
  have ht := putX_touch (st.ctx s ids0) s x0
  have hm := maskAll_spec (s.mask ++ s.slots) st.fr
  have hco := ctx_ok hok s ids0
  have hl : (st.ctx s ids0).fr.length = st'.fr.length := by rw [hev.len]; exact ht.len.symm
  have hf : ∀ (t : Nat) (b : AV), (st.ctx s ids0).fr[t]? = some b → b = .undef ∨ st'.fr[t]? = some b := fun t b hb => by
    rcases hm.2 t b hb with h | ⟨h1, h2⟩
    · exact .inl h
    · right
      rw [hev.fr t (fun hw => h1 (hW t hw))]
      show (putX (st.ctx s ids0) s x0).fr[t]? = some b
      rw [ht.fr t (fun hm => h1 (List.mem_append_right _ hm))]
      exact hb
  have hless : ∀ id, Less (look st'.store) (look (st.ctx s ids0).store) id := by
    refine ctx_less (stR := (putX (st.ctx s ids0) s x0).beyond s) hev (by simp only [St.beyond, ht.next]) hco.live (fun id hid => ?_) ht.dirty hclean hcov
    by_cases hb : id ∈ s.boxes
    · refine .inr ⟨hb, ?_⟩
      have hund : ∀ e cs, look (st.ctx s ids0).store id = some (.box e cs) → ∀ c ∈ cs, c = AV.undef := fun e cs hl => by
        simp only [St.ctx] at hl
        rcases blank_spec s.boxes (kills ids0 ++ st.store) id with ⟨h1, h2⟩ | ⟨_, e', cs', cs0, h1, h2, _, h4⟩
        · rw [h1] at hl; exact absurd hl (h2 hb e cs)
        · rw [h2] at hl; cases hl; exact h4
      rcases ht.box id hid with k | ⟨e, cs, cs', k1, k2, k3⟩
      · by_cases hbx : ∃ e cs, look (st.ctx s ids0).store id = some (.box e cs)
        · obtain ⟨e, cs, hl⟩ := hbx
          exact .inr ⟨e, cs, cs, k.trans hl, hl, rfl, hund e cs hl⟩
        · exact .inl ⟨k, fun e cs hl => hbx ⟨e, cs, hl⟩⟩
      · exact .inr ⟨e, cs', cs, k2, k1, k3.symm, hund e cs k1⟩
    · exact .inl ⟨hb, ht.out id (.inl hid) hb⟩
  have hc := ctx_sim (c := st.ctx s ids0) h hco hl hf (by rw [hev.fs]; exact ht.fs) hless
  obtain ⟨ρ2, k⟩ := desc_sound h hc (fun id hl => by
    rcases hless id with h | h | ⟨e, cs, cs0, h, _⟩
    · exact absurd h hl
    · rwa [h] at hl
    · rw [h]; simp) hg hstr
  refine ⟨hd, M, ρ2, ?_⟩
  have e1 : ((putX (st.ctx s ids0) s x).beyond s).next = (st.ctx s ids0).next + s.rows.length := by
    simp only [St.beyond, (putX_touch (st.ctx s ids0) s x).next]
  unfold SimS at k ⊢
  rw [e1]
  exact k

end
end Go.R
