/- What is proved here: functions of the library that change a row in its place, by the kit's contracts; a tool for the claim's proof. It asks nothing. -/
import Derived.Test.YtckcomagdjebpaaRc
import Derived.RangeFuncOwn
/- A range over a function. -/
namespace Go.R
open Go

/-- What is no cells may turn from B on; all else stays. -/
structure Oth (B : Nat) (w w' : World) : Prop where
  os : w'.os = w.os
  tape : w'.tape = w.tape
  output : w'.output = w.output
  size : w.heap.size ≤ w'.heap.size
  drawn : w.drawn ≤ w'.drawn
  same : ∀ (k : Nat) (o : Obj), w.heap[k]? = some o → (k < B ∨ o.isCells = true) → w'.heap[k]? = some o

theorem Oth.refl (B : Nat) (w : World) : Oth B w w := ⟨rfl, rfl, rfl, Nat.le_refl _, Nat.le_refl _, fun _ _ h _ => h⟩
theorem Oth.trans {B : Nat} {x y z : World} (h : Oth B x y) (g : Oth B y z) : Oth B x z :=
  ⟨g.os.trans h.os, g.tape.trans h.tape, g.output.trans h.output, Nat.le_trans h.size g.size, Nat.le_trans h.drawn g.drawn, fun k o hk ho => g.same k o (h.same k o hk ho) ho⟩
theorem Oth.putObj {B : Nat} {w : World} {l : Nat} {o : Obj} (o' : Obj) (hB : B ≤ l) (hl : w.heap[l]? = some o) (ho : o.isCells = false) : Oth B w (w.putObj l o') :=
  ⟨rfl, rfl, rfl, by simp, Nat.le_refl _, fun k q hk hq => by
    by_cases e : k = l
    · subst e
      rw [hl] at hk
      cases hk
      rcases hq with h | h
      · omega
      · rw [ho] at h; cases h
    · exact (World.putObj_heap_other e).trans hk⟩
theorem Oth.alloc {B : Nat} (w : World) (o : Obj) : Oth B w (w.alloc o) :=
  ⟨rfl, rfl, rfl, by simp, Nat.le_refl _, fun k q hk _ => (Go.RowKit.Below.heap_alloc w o k (Array.getElem?_eq_some_iff.1 hk).1).trans hk⟩
/-- Where all that was there stays. -/
theorem Oth.of_kp {B : Nat} {w w' : World} (h : Kp w w' fun _ => False) : Oth B w w' :=
  ⟨h.os, h.tape, h.output, h.size, h.drawn, fun k _ hk _ => (h.block k (Array.getElem?_eq_some_iff.1 hk).1 (fun h => h)).trans hk⟩

section
variable {P : Program} {E : Env} {w0 : Start} {S G : Nat → Prop} {M : Mem} {ρ : Places} {L L0 : Blks} {w : World} {fr fr0 : List AV} {fs : List (List AV)} {tmps : List Value} {susp : List (List Value)} {n : Nat}

theorem SimM.cells (h : SimM E w0 S G M ρ L w) {id g c : Nat} (hl : L id ≠ none) (hr : ρ id = some (g, c)) : ∃ o : Obj, w.heap[g]? = some o ∧ o.isCells = true := by
  have hb := h.blk id
  unfold BlkOk at hb
  cases hL : L id with
  | none => exact absurd hL hl
  | some b =>
    rw [hL] at hb
    cases b with
    | row e t xs =>
      rw [hr] at hb
      dsimp only at hb
      obtain ⟨_, cur, h1, _⟩ := hb
      exact ⟨_, h1, rfl⟩
    | box e cs =>
      dsimp only at hb
      obtain ⟨g', cap, cur, hr', h1, _⟩ := hb
      rw [hr] at hr'
      cases hr'
      exact ⟨_, h1, rfl⟩

theorem MemOk.oth {B : Nat} {w' : World} (h : MemOk M w) (hw : Oth B w w') : MemOk M w' := fun b o v hm => by
  have hc := h b o v hm
  obtain ⟨q, hq, hqc⟩ := cells_of_cell hc
  have hq2 := hw.same b q hq (.inr hqc)
  exact (World.cell?_of_block (hq2.trans hq.symm)).trans hc

theorem SimM.oth (h : SimM E w0 S G M ρ L w) {w' : World} (hw : Oth w0.heap.size w w') : SimM E w0 S G M ρ L w' where
  mem := h.mem.oth hw
  kp := ⟨hw.os.trans h.kp.os, hw.tape.trans h.kp.tape, hw.output.trans h.kp.output, Nat.le_trans h.kp.size hw.size, Nat.le_trans h.kp.drawn hw.drawn, fun k hk hs => by
    have hlt : k < w.heap.size := Nat.lt_of_lt_of_le hk h.kp.size
    have := hw.same k _ (Array.getElem?_eq_getElem hlt) (.inl hk)
    rw [this, ← Array.getElem?_eq_getElem hlt]
    exact h.kp.block k hk hs⟩
  glob := h.glob
  own := h.own
  inj := h.inj
  blk := fun id => (h.blk id).keep (G := fun _ => True) rfl rfl (Mem.le_refl _) Still.refl_of (fun e cs hl => (h.bbx id e cs hl).mono fun _ _ => trivial) fun hl g c hr => by
    obtain ⟨o, ho, hc⟩ := h.cells hl hr
    exact (hw.same g o ho (.inr hc)).trans ho.symm
  bbx := h.bbx
  live := h.live
  le := h.le
  new := h.new

theorem SimS.oth {st : St} (h : SimS E w0 S M ρ n st tmps susp w) {w' : World} (hw : Oth w0.heap.size w w') : SimS E w0 S M ρ n st tmps susp w' := { SimM.oth h.toSimM hw with frr := h.frr, fsr := h.fsr, bfr := h.bfr, bfs := h.bfs }

theorem SimE.oth {st : St} {a : Act} (h : SimE E w0 S st a susp w) {w' : World} (hw : Oth w0.heap.size w w') : SimE E w0 S st a susp w' := by
  obtain ⟨hd, M, ρ, h⟩ := h
  exact ⟨hd, M, ρ, SimS.oth h hw⟩

/-! ### Another start: all that is there now -/

/-- The blocks of the call's own that live. -/
def Live (ρ : Places) (L : Blks) (g : Nat) : Prop := ∃ id c, L id ≠ none ∧ ρ id = some (g, c)

theorem SimM.rebase (h : SimM E w0 S G M ρ L w) (d : List Deferred) : SimM E { toWorld := w, m := M, ds := d } (Live ρ L) G M ρ L w :=
  ⟨h.mem, Kp.refl w _, h.glob, fun id hl g c hr => ⟨.inr ⟨id, c, hl, hr⟩, (h.own id hl g c hr).2⟩, h.inj, h.blk, h.bbx, h.live, Mem.le_refl _, fun _ _ _ hu => .inl hu⟩

theorem SimM.unbase (h : SimM E w0 S G M ρ L w) {d : List Deferred} {G' : Nat → Prop} {M' : Mem} {ρ' : Places} {L' : Blks} {w' : World} (h' : SimM E { toWorld := w, m := M, ds := d } (Live ρ L) G' M' ρ' L' w') : SimM E w0 S G' M' ρ' L' w' where
  mem := h'.mem
  kp := ⟨h'.kp.os.trans h.kp.os, h'.kp.tape.trans h.kp.tape, h'.kp.output.trans h.kp.output, Nat.le_trans h.kp.size h'.kp.size, Nat.le_trans h.kp.drawn h'.kp.drawn, fun k hk hs =>
    (h'.kp.block k (Nat.lt_of_lt_of_le hk h.kp.size) (fun ⟨id, c, hl, hr⟩ => by
      rcases (h.own id hl k c hr).1 with a | a
      · omega
      · exact hs a)).trans (h.kp.block k hk hs)⟩
  glob := h'.glob
  own := fun id hl g c hr => ⟨by
    rcases (h'.own id hl g c hr).1 with a | ⟨id0, c0, hl0, hr0⟩
    · exact .inl (Nat.le_trans h.kp.size a)
    · exact (h.own id0 hl0 g c0 hr0).1, (h'.own id hl g c hr).2⟩
  inj := h'.inj
  blk := h'.blk
  bbx := h'.bbx
  live := h'.live
  le := Mem.le_trans h.le h'.le
  new := fun b o u hu => by
    rcases h'.new b o u hu with a | a | ⟨id, c, hl, hr⟩
    · exact h.new b o u a
    · exact .inr (.inl (Nat.le_trans h.kp.size a))
    · exact .inr (h.own id hl b c hr).1

theorem SimM.stays (h : SimM E w0 S G M ρ L w) {d : List Deferred} {G' : Nat → Prop} {M' : Mem} {ρ' : Places} {L' : Blks} {w' : World} (h' : SimM E { toWorld := w, m := M, ds := d } (Live ρ L) G' M' ρ' L' w') {k : Nat} {o : Obj} (hk : w.heap[k]? = some o) (hc : o.isCells = false) : w'.heap[k]? = some o :=
  (h'.kp.block k (Array.getElem?_eq_some_iff.1 hk).1 (fun ⟨id, c, hl, hr⟩ => by
    obtain ⟨q, hq, hqc⟩ := h.cells hl hr
    rw [hk] at hq
    cases hq
    rw [hc] at hqc
    cases hqc)).trans hk

/-! ### An iterator's contract -/

/-- The cells of a datum without slices. -/
def valS : (t : Ty) → Dat t → List Value
  | .int k, n => [.int k n]
  | .bool, b => [.bool b]
  | .str, s => [.string s]
  | .slice _, _ => []
  | .nsl _, _ => []
  | .err, _ => []
  | .pair a b, p => valS a p.1 ++ valS b p.2
  | .unit, _ => []

theorem valS_rep {M : Mem} : {t : Ty} → (x : Dat t) → t.noSlice = true → RepS M t x (valS t x)
  | .int _, _, _ => by simp [RepS, valS]
  | .bool, _, _ => by simp [RepS, valS]
  | .str, _, _ => by simp [RepS, valS]
  | .slice _, _, h => by simp [Ty.noSlice] at h
  | .nsl _, _, h => by simp [Ty.noSlice] at h
  | .err, _, h => by simp [Ty.noSlice] at h
  | .pair a b, p, h => by
    simp only [Ty.noSlice, Bool.and_eq_true] at h
    simp only [RepS, valS]
    exact ⟨_, _, rfl, valS_rep p.1 h.1, valS_rep p.2 h.2⟩
  | .unit, _, _ => by simp [RepS, valS]

/-- A function that is ranged over, by its contract: it has captured a variable; its elements. -/
structure SCal where
  f : FuncId
  ct : Ty
  agg : Bool
  t : Ty
  F : Dat ct → Option (List (Dat t))

/-- A datum that is read through a pointer. -/
def AtPtr (ct : Ty) (x : Dat ct) (p : Value) (w : World) : Prop :=
  ∃ (M : Mem) (us : List Value) (ad : Addr), MemOk M w ∧ p = .pointer (some ad) ∧ ad.spot = none ∧ RepS M ct x us ∧ ∀ (j : Nat) (u : Value), us[j]? = some u → M ad.block (ad.off + j) = some u

structure SCalOk (P : Program) (C : SCal) : Prop where
  ent : ∀ args w, (callFunc C.f args).run P w = .ok (.enter C.f args) w
  nos : C.t.noSlice = true
  one : C.agg = false → C.t.sz = 1
  run : ∀ (x : Dat C.ct) (xs : List (Dat C.t)), C.F x = some xs → ∀ (p : Value) (l : Nat) (J : Nat → World → Prop) (W : World),
    (∀ k W, J k W → AtPtr C.ct x p W) → (∀ k W W', J k W → Kp W W' (fun _ => False) → J k W') →
    (∀ (k : Nat) (y : Dat C.t) (W1 : World), xs[k]? = some y → J k W1 → YieldAt (Fr none) 0 P l #[oneV C.agg (valS C.t y)] W1 fun e W' => e = .returned (.bool true) ∧ J (k + 1) W') →
    J 0 W → Calls P C.f #[.func (.yield l) #[] #[], p] W fun e W' => (∃ v, e = .returned v) ∧ J xs.length W'

/-- THE STATEMENT, over an iterator's contract. -/
theorem rf_law {g : Operand} {q : Tmp} {assign body : Code} {Q : Exit → Act → World → Prop} {a : Act} {C : SCal} (hC : SCalOk P C) {p : Value} (hg : a.eval g = .func (.func C.f) #[] #[p]) {x : Dat C.ct} {xs : List (Dat C.t)} (hF : C.F x = some xs)
    (B : Nat) (hB : B ≤ w.heap.size) (I : Nat → World → Prop) (hI : ∀ k W W', I k W → Oth B W W' → I k W') (hA : ∀ k W, I k W → AtPtr C.ct x p W) (h0 : I 0 w)
    (hround : ∀ (l k : Nat) (y : Dat C.t) (W : World), xs[k]? = some y → B ≤ l → I k W →
      assign.wpIn (Fr (some l)) 0 P (Exit.then (fun a1 W1 => KeepsOthers W W1 ∧ ∀ W2, Oth B W1 W2 → body.wpIn (Fr (some l)) 0 P (fun e _ W3 => e = .normal ∧ KeepsOthers W2 W3 ∧ I (k + 1) W3) a1 W2) (fun _ _ _ => False))
        { tmps := a.tmps.setIfInBounds q (oneV C.agg (valS C.t y)), defers := [] } W)
    (hdone : ∀ (D : Nat) (W : World), w.heap.size ≤ D → I xs.length W → W.heap[D]? = some (.deferred (some [])) → Q .normal { a with defers := { target := .collected D, args := #[] } :: a.defers } W) :
    (Code.rangeFunc g #[q] assign body).wpIn (Fr none) 0 P Q a w := by
  refine wpIn_rangeFunc ?_
  intro fn hfn
  obtain ⟨rec, hrec⟩ : ∃ rec : LoopState → Option Code → Loop, rec = fun st pe => { state := st, pending := pe, fn, tmps := a.tmps, params := #[q], assign, body, defers := w.heap.size } := ⟨_, rfl⟩
  obtain ⟨W1, hW1⟩ : ∃ W1, (w.alloc (.deferred (some []))).alloc (.loop (rec .ready none)) = W1 := ⟨_, rfl⟩
  have hL1 : W1.heap[w.heap.size + 1]? = some (.loop (rec .ready none)) := by
    rw [← hW1]; have := World.alloc_heap_new (w.alloc (.deferred (some []))) (.loop (rec .ready none)); rwa [World.size_alloc] at this
  have hK1 : W1.heap[w.heap.size]? = some (.deferred (some [])) := by
    rw [← hW1]; exact (Go.RowKit.Below.heap_alloc _ _ _ (by simp)).trans (World.alloc_heap_new w _)
  have hI1 : I 0 W1 := by rw [← hW1]; exact hI _ _ _ h0 ((Oth.alloc w _).trans (Oth.alloc _ _))
  refine ⟨w.heap.size + 1, [{ target := .collected w.heap.size, args := #[] }], W1, { target := .fn (.func C.f) #[p], args := #[.func (.yield (w.heap.size + 1)) #[] #[]] }, W1, C.f,
    #[.func (.yield (w.heap.size + 1)) #[] #[], p], W1, ?_, ?_, fun _ _ => trivial, ?_, fun h => by simp [Fr, Fence.wide] at h, ?_⟩
  · rw [← hW1, hrec]; exact run_enterLoop_outer _ _ _ _ _
  · simp only [resolve, hg]
    simp [go_sem]
  · simp [invoke, go_sem, hC.ent]
  · refine calls_in none _ ((hC.run x xs hF p (w.heap.size + 1)
      (fun k W => I k W ∧ W.heap[w.heap.size + 1]? = some (.loop (rec .ready none)) ∧ W.heap[w.heap.size]? = some (.deferred (some []))) W1
      (fun k W h => hA k W h.1) (fun k W W' h hk => ⟨hI k W W' h.1 (Oth.of_kp hk), (hk.block _ (Array.getElem?_eq_some_iff.1 h.2.1).1 (fun h => h)).trans h.2.1, (hk.block _ (Array.getElem?_eq_some_iff.1 h.2.2).1 (fun h => h)).trans h.2.2⟩)
      ?_ ⟨hI1, hL1, hK1⟩).mono ?_)
    · rintro k y W hy ⟨hi, hl, hk⟩
      have hyr := run_yield (P := P) (args := #[oneV C.agg (valS C.t y)]) hl (by rw [hrec]; rfl)
      rw [hrec] at hyr
      refine ⟨fn, _, assign, body, hyr, roundIn_of_wpIn hfn ?_⟩
      have hr := hround (w.heap.size + 1) k y W hy (by omega) hi
      have e : (((rec .ready none).params.zip #[oneV C.agg (valS C.t y)]).foldl (fun t (p, v) => t.setIfInBounds p v) (rec .ready none).tmps) = a.tmps.setIfInBounds q (oneV C.agg (valS C.t y)) := by
        rw [hrec]; simp
      rw [hrec] at e
      rw [e]
      refine wpIn_mono hr fun e a1 w1 h => ?_
      cases e with
      | normal =>
        obtain ⟨hk1, hb⟩ := h
        have hl1 := hk1.same _ _ hl rfl
        have hk1' := hk1.same _ _ hk rfl
        refine ⟨_, run_beginRound hl1 (by rw [hrec]), ?_⟩
        have hlt : w.heap.size + 1 < w1.heap.size := (Array.getElem?_eq_some_iff.1 hl1).1
        obtain ⟨W2, hW2⟩ : ∃ W2, w1.putObj (w.heap.size + 1) (.loop { rec .ready none with state := .busy }) = W2 := ⟨_, rfl⟩
        have hl2 : W2.heap[w.heap.size + 1]? = some (.loop { rec .ready none with state := .busy }) := by rw [← hW2]; exact World.putObj_heap_same hlt
        have hk2 : W2.heap[w.heap.size]? = some (.deferred (some [])) := by rw [← hW2]; exact (World.putObj_heap_other (by omega)).trans hk1'
        have ho : Oth B w1 W2 := by rw [← hW2]; exact Oth.putObj _ (by omega) hl1 rfl
        rw [hW2]
        refine wpIn_mono (hb W2 ho) fun e a3 W3 h => ?_
        obtain ⟨rfl, hk3, hi3⟩ := h
        have hl3 := hk3.same _ _ hl2 rfl
        have hk3' := hk3.same _ _ hk2 rfl
        have hlt3 : w.heap.size + 1 < W3.heap.size := (Array.getElem?_eq_some_iff.1 hl3).1
        refine ⟨_, _, run_endRound none hl3, rfl, hI _ _ _ hi3 (Oth.putObj _ (by omega) hl3 rfl), ?_, ?_⟩
        · rw [World.putObj_heap_same hlt3, hrec]; rfl
        · exact (World.putObj_heap_other (by omega)).trans hk3'
      | exit id => exact h.elim
      | goto t => exact h.elim
      | ret => exact h.elim
      | panic ch => exact h.elim
      | outgrown => exact h.elim
    · rintro e W2 ⟨⟨v, rfl⟩, hi, hl, hk⟩
      refine ⟨none, _, by have := run_endLoop (P := P) hl (by rw [hrec]; simp); rw [hrec] at this; exact this, ?_⟩
      exact hdone _ _ (Nat.le_refl _) (hI _ _ _ hi (Oth.putObj _ (by omega) hl rfl)) ((World.putObj_heap_other (by omega)).trans hk)

end

/-! ### Functions in which one ranges over a function -/

inductive AFun where
  | code (a : ACode)
  | seq (a b : AFun)
  | block (a : AFun)
  | rf (j : Nat) (s : Sig) (aA aB : ACode)

/-- One round: its assignment, its body; what is handed on. -/
def rfRound (E : Env) (fuel : Nat) (C : SCal) (s : Sig) (q : Nat) (aA aB : ACode) (assign body : Code) (ctx : St) (x : s.X) (y : Dat C.t) : Option s.X :=
  exec E fuel aA assign ⟨fun st1 => exec E fuel aB body ⟨fun st2 =>
      cond (clean ctx { st2 with fr := ((putX ctx s x).beyond s).fr, fs := ((putX ctx s x).beyond s).fs } s.boxes && covered { st2 with fr := ((putX ctx s x).beyond s).fr, fs := ((putX ctx s x).beyond s).fs } s)
        (match getX { st2 with fr := ((putX ctx s x).beyond s).fr, fs := ((putX ctx s x).beyond s).fs } s with
        | some (x', ids') => cond (strange ctx ids') (some x') none
        | none => none) none, fun _ => none, []⟩ st1, fun _ => none, []⟩
    { (putX ctx s x).beyond s with fr := ((putX ctx s x).beyond s).fr.set q (oneOf C.agg (cellsOf C.t y)), fs := ((putX ctx s x).beyond s).fr :: ((putX ctx s x).beyond s).fs }

def execF (E : Env) (ss : List SCal) (fuel : Nat) : AFun → {R : Type} → Code → Conts R → St → Option R
  | .code a, _, c, K, st => exec E fuel a c K st
  | .seq a b, _, .seq c d, K, st => execF E ss fuel a c { K with norm := fun st' => execF E ss fuel b d K st' } st
  | .block a, _, .block id c, K, st => execF E ss fuel a c { K with exits := (id, K.norm) :: K.exits } st
  | .rf j s aA aB, _, .rangeFunc g ps assign body, K, st => match ss[j]?, ps.toList, E.eval st.fr g, getX st s with
    | some C, [q], .fn gf [.ptr id 0 0], some (x0, ids) => match look (st.ctx s ids).store id with
      | some (.box _ cs) => cond (Nat.beq C.f gf && covered st s && s.mask.isEmpty && s.slots.isEmpty && !(s.boxes.any (Nat.beq id)) && Nat.blt id st.next)
          ((dec C.ct cs).bind fun x => (C.F x).bind fun xs => (xs.foldlM (rfRound E fuel C s q aA aB assign body (st.ctx s ids)) x0).bind fun z => K.norm ((putX (st.ctx s ids) s z).beyond s)) none
      | _ => none
    | _, _, _, _ => none
  | _, _, _, _, _ => none

def chkF (P : Program) (E : Env) : AFun → Code → Bool
  | .code a, c => chkC P E a c
  | .seq a b, .seq c d => chkF P E a c && chkF P E b d
  | .block a, .block _ c => chkF P E a c
  | .rf _ _ aA aB, .rangeFunc _ _ assign body => chkC P E aA assign && chkC P E aB body
  | _, _ => true

section
variable {P : Program} {E : Env} {w0 w1 w2 : Start} {S S1 S2 G : Nat → Prop} {M : Mem} {ρ : Places} {L L0 : Blks} {w : World} {fr fr0 : List AV} {fs : List (List AV)} {tmps : List Value} {susp : List (List Value)} {n : Nat}

def mark (D : Nat) : Deferred := { target := .collected D, args := #[] }

/-- A later start: what is true from there on is true from here on; the marks that have come. -/
structure Ext (E : Env) (w0 : Start) (S : Nat → Prop) (w1 : Start) (S1 : Nat → Prop) : Prop where
  back : ∀ {G : Nat → Prop} {M : Mem} {ρ : Places} {L : Blks} {w : World}, SimM E w1 S1 G M ρ L w → SimM E w0 S G M ρ L w
  size : w0.heap.size ≤ w1.heap.size
  stay : ∀ D, D < w0.heap.size → ¬ S D → w1.heap[D]? = w0.heap[D]? ∧ ¬ S1 D
  marks : ∃ Ds : List Nat, w1.ds = Ds.map mark ++ w0.ds ∧ Ds.Nodup ∧ ∀ D ∈ Ds, w0.heap.size ≤ D ∧ D < w1.heap.size ∧ ¬ S1 D ∧ w1.heap[D]? = some (.deferred (some []))

theorem Ext.refl : Ext E w0 S w0 S := ⟨fun h => h, Nat.le_refl _, fun _ _ h => ⟨rfl, h⟩, [], rfl, List.nodup_nil, fun _ h => by cases h⟩
theorem Ext.trans (h : Ext E w0 S w1 S1) (g : Ext E w1 S1 w2 S2) : Ext E w0 S w2 S2 := by
  refine ⟨fun k => h.back (g.back k), Nat.le_trans h.size g.size, fun D hD hs => ?_, ?_⟩
  · obtain ⟨a1, a2⟩ := h.stay D hD hs
    obtain ⟨b1, b2⟩ := g.stay D (Nat.lt_of_lt_of_le hD h.size) a2
    exact ⟨b1.trans a1, b2⟩
  · obtain ⟨D1, e1, n1, k1⟩ := h.marks
    obtain ⟨D2, e2, n2, k2⟩ := g.marks
    refine ⟨D2 ++ D1, by rw [e2, e1, List.map_append, List.append_assoc], List.nodup_append.2 ⟨n2, n1, fun a ha b hb e => ?_⟩, fun D hD => ?_⟩
    · subst e
      have := (k1 a hb).2.1
      have := (k2 a ha).1
      omega
    · rcases List.mem_append.1 hD with hD | hD
      · have := k2 D hD
        exact ⟨Nat.le_trans h.size this.1, this.2⟩
      · obtain ⟨a1, a2, a3, a4⟩ := k1 D hD
        obtain ⟨b1, b2⟩ := g.stay D a2 a3
        exact ⟨a1, Nat.lt_of_lt_of_le a2 g.size, b2, b1.trans a4⟩

theorem Ext.mark (h : SimM E w0 S G M ρ L w) {D : Nat} (hD : w0.heap.size ≤ D) (hk : w.heap[D]? = some (.deferred (some []))) : Ext E w0 S { toWorld := w, m := M, ds := mark D :: w0.ds } (Live ρ L) := by
  refine ⟨fun k => h.unbase k, h.kp.size, fun B hB hs => ⟨h.kp.block B hB hs, fun ⟨id, c, hl, hr⟩ => ?_⟩, [D], rfl, by simp, fun B hB => ?_⟩
  · rcases (h.own id hl B c hr).1 with a | a
    · omega
    · exact hs a
  · simp only [List.mem_singleton] at hB
    subst hB
    refine ⟨hD, (Array.getElem?_eq_some_iff.1 hk).1, fun ⟨id, c, hl, hr⟩ => ?_, hk⟩
    obtain ⟨q, hq, hqc⟩ := h.cells hl hr
    rw [hk] at hq
    cases hq
    cases hqc

def PostF {R : Type} (E : Env) (w0 : Start) (S : Nat → Prop) (K : Conts R) (r : R) (Q : Exit → Act → World → Prop) : Prop :=
  ∀ (w1 : Start) (S1 : Nat → Prop) (st' : St) (a' : Act) (w' : World), Ext E w0 S w1 S1 → SimE E w1 S1 st' a' [] w' → (K.norm st' = some r → Q .normal a' w') ∧ (K.ret st' = some r → Q .ret a' w') ∧ ∀ id, goExit K.exits id st' = some r → Q (.exit id) a' w'

/-- A variable that is read through its pointer. -/
theorem at_ptr {st : St} (h : SimS E w0 S M ρ n st tmps susp w) {id : Nat} {e : TypeId} {cs : List AV} (hl : look st.store id = some (.box e cs)) {t : Ty} {x : Dat t} (hd : dec t cs = some x) {p : Value} (hp : Rep M ρ (look st.store) (.ptr id 0 0) p) : AtPtr t x p w := by
  have hb := h.blk id
  unfold BlkOk at hb
  rw [hl] at hb
  dsimp only at hb
  obtain ⟨g, cap, cur, hr, hg, hrep⟩ := hb
  simp only [Rep, PtrV, hl] at hp
  obtain ⟨g', c', hr', _, rfl⟩ := hp
  rw [hr] at hr'
  cases hr'
  have hown := h.own id (by rw [hl]; simp) g cap hr
  have hle : M.le fun b o => if b = g then cur[o]? else M b o := fun b o v hv => by
    by_cases e : b = g
    · subst e; rw [hown.2 o] at hv; cases hv
    · simp only [if_neg e]; exact hv
  refine ⟨fun b o => if b = g then cur[o]? else M b o, cur.toList, ⟨g, 0, none⟩, fun b o v hv => ?_, rfl, rfl, (RepS.of_dec hd hrep).mono hle, fun j u hu => ?_⟩
  · by_cases e : b = g
    · subst e
      simp only [if_true] at hv
      rw [cell_of_row w b o cur _ (0, 0) hg]
      exact hv
    · simp only [if_neg e] at hv
      exact h.mem b o v hv
  · simp only [Nat.zero_add, if_true]
    rw [← Array.getElem?_toList]
    exact hu

theorem strange_ctx {st : St} {s : Sig} {x : s.X} {ids : List Nat} (_hg : getX st s = some (x, ids)) : strange (st.ctx s ids) ids = true := List.all_eq_true.2 fun i hi => by
  have hn : look (st.ctx s ids).store i = none := by
    simp only [St.ctx]
    rcases blank_spec s.boxes (kills ids ++ st.store) i with ⟨h1, _⟩ | ⟨_, e, cs, cs0, h1, _⟩
    · rw [h1, look_ov, ov_kills_in hi]
    · rw [look_ov, ov_kills_in hi] at h1; cases h1
  simp [hn]

theorem keeps_of {d : List Deferred} {G' : Nat → Prop} {M' : Mem} {ρ' : Places} {L' : Blks} {w' : World} (h : SimM E w0 S G M ρ L w) (h' : SimM E { toWorld := w, m := M, ds := d } (Live ρ L) G' M' ρ' L' w') : KeepsOthers w w' :=
  ⟨h'.kp.size, fun _ _ hk hc => h.stays h' hk hc⟩

theorem execF_sound (hP : ProgOk P E) (hD : DrawOk P E) {ss : List SCal} (hss : ∀ (j : Nat) (C : SCal), ss[j]? = some C → SCalOk P C) (fuel : Nat) : (a : AFun) → {R : Type} → (w0 : Start) → (S : Nat → Prop) → (c : Code) → (K : Conts R) → (st : St) → (act : Act) → (w : World) → (r : R) → (Q : Exit → Act → World → Prop) →
    chkF P E a c = true → SimE E w0 S st act [] w → execF E ss fuel a c K st = some r → PostF E w0 S K r Q → c.wpIn (Fr none) 0 P Q act w
  | .code a, R, w0, S, c, K, st, act, w, r, Q, hk, hs, h, hp => by
    simp only [execF] at h
    exact exec_sound hP hD fuel a none w0 S c K st act w [] r Q hk hs h fun st' a' w' h1 _ => hp w0 S st' a' w' Ext.refl h1
  | .seq a b, R, w0, S, c, K, st, act, w, r, Q, hk, hs, h, hp => by
    cases c <;> simp only [execF] at h <;> try (cases h; done)
    case seq c d =>
      simp only [chkF, Bool.and_eq_true] at hk
      refine wpIn_seq (execF_sound hP hD hss fuel a w0 S c _ st act w r _ hk.1 hs h fun w1 S1 st' a' w' he h1 => ?_)
      have hp' := hp w1 S1 st' a' w' he h1
      refine ⟨fun h3 => ?_, hp'.2.1, hp'.2.2⟩
      exact execF_sound hP hD hss fuel b w1 S1 d K st' a' w' r Q hk.2 h1 h3 fun w2 S2 st2 a2 w2' he2 g1 => hp w2 S2 st2 a2 w2' (he.trans he2) g1
  | .block a, R, w0, S, c, K, st, act, w, r, Q, hk, hs, h, hp => by
    cases c <;> simp only [execF] at h <;> try (cases h; done)
    case block id c =>
      simp only [chkF] at hk
      refine wpIn_block (execF_sound hP hD hss fuel a w0 S c _ st act w r _ hk hs h fun w1 S1 st' a' w' he h1 => ?_)
      have hp' := hp w1 S1 st' a' w' he h1
      refine ⟨hp'.1, hp'.2.1, fun id' h3 => ?_⟩
      simp only [goExit] at h3
      simp only [Exit.inBlock]
      cases hb : Nat.beq id id' with
      | true =>
        rw [hb] at h3
        have := Nat.eq_of_beq_eq_true hb
        rw [if_pos this.symm]
        exact hp'.1 h3
      | false =>
        rw [hb] at h3
        rw [if_neg (fun e => by rw [e, Nat.beq_refl] at hb; cases hb)]
        exact hp'.2.2 id' h3
  | .rf j s aA aB, R, w0, S, c, K, st, act, w, r, Q, hk, hs, h, hp => by
    cases c <;> simp only [execF] at h <;> try (cases h; done)
    case rangeFunc g ps assign body =>
      simp only [chkF, Bool.and_eq_true] at hk
      split at h
      · rename_i C q gf id x0 ids hC hps hgf hgx
        split at h
        · rename_i e cs hlk
          cases hcond : (Nat.beq C.f gf && covered st s && s.mask.isEmpty && s.slots.isEmpty && !(s.boxes.any (Nat.beq id)) && Nat.blt id st.next) with
          | false => rw [hcond] at h; cases h
          | true =>
            rw [hcond] at h
            simp only [cond_true, Option.bind_eq_some_iff] at h
            obtain ⟨x, hdec, xs, hF, z, hfold, hK⟩ := h
            simp only [Bool.and_eq_true, List.isEmpty_iff] at hcond
            obtain ⟨⟨⟨⟨⟨hfg, hcov⟩, hmask⟩, hslots⟩, hnb⟩, hidn⟩ := hcond
            have hfg := Nat.eq_of_beq_eq_true hfg
            subst hfg
            have hidb : id ∉ s.boxes := any_mem hnb
            have hidn : id < st.next := by simpa using hidn
            have hCok := hss j C hC
            have hok := hs.ctxOk
            have hstr0 := strange_ctx hgx
            -- the frame stays
            have hfr : ∀ y : s.X, ((putX (st.ctx s ids) s y).beyond s).fr = st.fr := fun y => by
              have ht := putX_touch (st.ctx s ids) s y
              have hc0 : (st.ctx s ids).fr = st.fr := by simp [St.ctx, hmask, hslots, maskAll]
              refine List.ext_getElem? fun t => ?_
              show (putX (st.ctx s ids) s y).fr[t]? = _
              rw [ht.fr t (by rw [hslots]; simp), hc0]
            have hfs : ∀ y : s.X, ((putX (st.ctx s ids) s y).beyond s).fs = st.fs := fun y => (putX_touch (st.ctx s ids) s y).fs
            have hlook : ∀ y : s.X, look ((putX (st.ctx s ids) s y).beyond s).store id = some (.box e cs) := fun y => by
              have ht := putX_touch (st.ctx s ids) s y
              exact (ht.out id (.inl hidn) hidb).trans hlk
            have hps' : ps = #[q] := by
              have := congrArg List.toArray hps
              simpa using this
            subst hps'
            -- the function value
            have hs0 := hs
            obtain ⟨hd, M, ρ, hsim⟩ := hs0
            have hev := (Sim.eval (a := act) hsim g).1
            rw [hgf] at hev
            simp only [Rep] at hev
            obtain ⟨us, hgv, hus⟩ := hev
            simp only [RepL] at hus
            obtain ⟨p, r0, hus, hp0, hr0⟩ := hus
            subst hr0
            have hus' : us = #[p] := by
              have := congrArg List.toArray hus
              simpa using this
            subst hus'
            have hB : w0.heap.size ≤ w.heap.size := hsim.kp.size
            refine rf_law hCok hgv hF w0.heap.size hB (fun k W => ∃ y, (xs.take k).foldlM (rfRound E fuel C s q aA aB assign body (st.ctx s ids)) x0 = some y ∧ SimE E w0 S ((putX (st.ctx s ids) s y).beyond s) act [] W)
              (fun k W W' ⟨y, h1, h2⟩ ho => ⟨y, h1, h2.oth ho⟩) (fun k W ⟨y, h1, h2⟩ => ?_) ⟨x0, rfl, round_sim hs hgx hstr0⟩ ?_ ?_
            · obtain ⟨_, M1, ρ1, hsim1⟩ := h2
              have hev1 := (Sim.eval (a := act) hsim1 g).1
              rw [show E.eval ((putX (st.ctx s ids) s y).beyond s).fr g = E.eval st.fr g by rw [hfr], hgf] at hev1
              simp only [Rep] at hev1
              obtain ⟨us1, hgv1, hus1⟩ := hev1
              rw [hgv] at hgv1
              cases hgv1
              simp only [RepL] at hus1
              obtain ⟨p1, r1, hus1, hp1, _⟩ := hus1
              simp only [List.cons.injEq] at hus1
              obtain ⟨rfl, _⟩ := hus1
              exact at_ptr hsim1 (hlook y) hdec hp1
            · -- one round
              rintro l k y W hy hBl ⟨x1, hx1, hs1⟩
              have hsplit : xs = xs.take k ++ y :: xs.drop (k + 1) := by
                have hlt := (List.getElem?_eq_some_iff.1 hy).1
                have he := (List.getElem?_eq_some_iff.1 hy).2
                rw [← he, ← List.drop_eq_getElem_cons hlt, List.take_append_drop]
              have hstep : ∃ x2, rfRound E fuel C s q aA aB assign body (st.ctx s ids) x1 y = some x2 := by
                rw [hsplit, List.foldlM_append, hx1] at hfold
                simp only [Option.bind_eq_bind, Option.bind_some, List.foldlM_cons, Option.bind_eq_some_iff] at hfold
                obtain ⟨x2, h2, _⟩ := hfold
                exact ⟨x2, h2⟩
              obtain ⟨x2, hx2⟩ := hstep
              have hnext : (xs.take (k + 1)).foldlM (rfRound E fuel C s q aA aB assign body (st.ctx s ids)) x0 = some x2 := by
                rw [List.take_add_one, hy, List.foldlM_append, hx1]
                simp [hx2]
              have hs10 := hs1
              obtain ⟨hd1, M1, ρ1, hsim1⟩ := hs10
              have hrepv : Rep M1 ρ1 (look ((putX (st.ctx s ids) s x1).beyond s).store) (oneOf C.agg (cellsOf C.t y)) (oneV C.agg (valS C.t y)) :=
                oneV_rep (fun e => (valS_rep (M := M1) y hCok.nos).len.trans (hCok.one e)) (RepL.of_S (valS_rep y hCok.nos))
              have hs2 : SimE E { toWorld := W, m := M1, ds := [] } (Live ρ1 (look ((putX (st.ctx s ids) s x1).beyond s).store))
                  { (putX (st.ctx s ids) s x1).beyond s with fr := ((putX (st.ctx s ids) s x1).beyond s).fr.set q (oneOf C.agg (cellsOf C.t y)), fs := ((putX (st.ctx s ids) s x1).beyond s).fr :: ((putX (st.ctx s ids) s x1).beyond s).fs }
                  { tmps := act.tmps.setIfInBounds q (oneV C.agg (valS C.t y)), defers := [] } [act.tmps.toList] W := by
                have hput := Sim.put hsim1 q hrepv (oneV_bd (BdL_cellsOf _ _))
                refine ⟨rfl, M1, ρ1, { SimM.rebase hsim1.toSimM [] with frr := ?_, fsr := ?_, bfr := hput.bfr, bfs := ?_ }⟩
                · simp only [Array.toList_setIfInBounds]
                  exact hput.frr
                · simp only [RepF]
                  exact ⟨_, _, rfl, hsim1.frr, hsim1.fsr⟩
                · simp only [BdF]
                  exact ⟨hsim1.bfr, hsim1.bfs⟩
              unfold rfRound at hx2
              refine exec_sound hP hD fuel aA (some l) _ _ assign _ _ _ W _ x2 _ hk.1 hs2 hx2 fun st1 a2 W1 h1 hev1 => ?_
              refine ⟨fun h3 => ?_, fun h3 => (by cases h3), fun id h3 => (by simp [goExit] at h3)⟩
              obtain ⟨hd2, M2, ρ2, hsim2⟩ := h1
              have hM2 : SimM E w0 S (fun i => i < st1.next) M2 ρ2 (look st1.store) W1 := hsim1.toSimM.unbase hsim2.toSimM
              refine ⟨keeps_of hsim1.toSimM hsim2.toSimM, fun W2 ho => ?_⟩
              have hM3 := hM2.oth ho
              have hs3 : SimE E { toWorld := W2, m := M2, ds := [] } (Live ρ2 (look st1.store)) st1 a2 [act.tmps.toList] W2 := ⟨hd2, M2, ρ2, { SimM.rebase hM3 [] with frr := hsim2.frr, fsr := hsim2.fsr, bfr := hsim2.bfr, bfs := hsim2.bfs }⟩
              refine exec_sound hP hD fuel aB (some l) _ _ body _ st1 a2 W2 _ x2 _ hk.2 hs3 h3 fun st2 a3 W3 g1 hev2 => ?_
              refine ⟨fun h4 => ?_, fun h4 => (by cases h4), fun id h4 => (by simp [goExit] at h4)⟩
              obtain ⟨hd4, M4, ρ4, hsim4⟩ := g1
              have hM4 : SimM E w0 S (fun i => i < st2.next) M4 ρ4 (look st2.store) W3 := hM3.unbase hsim4.toSimM
              refine ⟨rfl, keeps_of hM3 hsim4.toSimM, x2, hnext, ?_⟩
              have hev : Evo (fun _ => True) { (putX (st.ctx s ids) s x1).beyond s with fr := ((putX (st.ctx s ids) s x1).beyond s).fr.set q (oneOf C.agg (cellsOf C.t y)), fs := ((putX (st.ctx s ids) s x1).beyond s).fr :: ((putX (st.ctx s ids) s x1).beyond s).fs } st2 := (hev1.wider fun _ _ => trivial).trans (hev2.wider fun _ _ => trivial)
              have hfs2 : st2.fs = ((putX (st.ctx s ids) s x1).beyond s).fr :: ((putX (st.ctx s ids) s x1).beyond s).fs := hev.fs
              have hfsr := hsim4.fsr
              have hbfs := hsim4.bfs
              rw [hfs2] at hfsr hbfs
              simp only [RepF, List.cons.injEq] at hfsr
              simp only [BdF] at hbfs
              obtain ⟨_, _, ⟨rfl, rfl⟩, hq1, hq2⟩ := hfsr
              dsimp only at h4
              cases hcl : (clean (st.ctx s ids) { st2 with fr := ((putX (st.ctx s ids) s x1).beyond s).fr, fs := ((putX (st.ctx s ids) s x1).beyond s).fs } s.boxes && covered { st2 with fr := ((putX (st.ctx s ids) s x1).beyond s).fr, fs := ((putX (st.ctx s ids) s x1).beyond s).fs } s) with
              | false => rw [hcl] at h4; cases h4
              | true =>
                rw [hcl] at h4
                simp only [cond_true] at h4
                simp only [Bool.and_eq_true] at hcl
                split at h4
                · rename_i x3 ids3 hg3
                  cases hst3 : strange (st.ctx s ids) ids3 with
                  | false => rw [hst3] at h4; cases h4
                  | true =>
                    rw [hst3] at h4
                    simp only [cond_true, Option.some.injEq] at h4
                    subst h4
                    refine next_sim (W := fun _ => False) hok (fun _ h => h.elim) (x0 := x1) (st' := { st2 with fr := ((putX (st.ctx s ids) s x1).beyond s).fr, fs := ((putX (st.ctx s ids) s x1).beyond s).fs }) ⟨rfl, fun _ _ => rfl, rfl, hev.next, hev.dirty, hev.keep⟩ ?_ hcl.1 hcl.2 hg3 hst3
                    exact ⟨hd, M4, ρ4, { hM4 with frr := hq1, fsr := hq2, bfr := hbfs.1, bfs := hbfs.2 }⟩
                · cases h4
            · -- the end
              rintro D W hDw ⟨y, hy, hs1⟩ hkD
              rw [List.take_length, hfold] at hy
              cases hy
              obtain ⟨hd1, M1, ρ1, hsim1⟩ := hs1
              refine (hp _ _ _ { act with defers := mark D :: act.defers } W (Ext.mark hsim1.toSimM (Nat.le_trans hB hDw) hkD) ⟨by rw [← hd], M1, ρ1, { SimM.rebase hsim1.toSimM _ with frr := hsim1.frr, fsr := hsim1.fsr, bfr := hsim1.bfr, bfs := hsim1.bfs }⟩).1 hK
        · cases h
      · cases h

/-- The way out: the marks, then the results. -/
theorem leaves_marks {fn : Func} {rts : List RTy} {st' : St} {r : DatRs rts} {gs : List Nat} (hk2 : chkRes P fn.results.toList rts = true) (hfin : finish fn rts st' = some r) {M M' : Mem} {ρ' : Places} {tmps : Array Value} {w : World} : (Ds : List Nat) → (W : World) → Ds.Nodup →
    (∀ D ∈ Ds, w.heap.size ≤ D ∧ W.heap[D]? = some (.deferred (some []))) → SimS E { toWorld := w, m := M } (· ∈ gs) M' ρ' st'.next st' tmps.toList [] W →
    LeavesInM Fence.wide 0 P fn tmps (fun e w' => ∃ v M', e = .returned v ∧ RetOk M w gs M' w' rts r v) (Ds.map mark) .returning W
  | [], W, _, _, hs' => by
    simp only [List.map_nil, LeavesInM, LeavesIn]
    unfold finish at hfin
    cases hres : resultsOf st' fn.results.toList with
    | none => rw [hres] at hfin; cases hfin
    | some avs' =>
      rw [hres] at hfin
      simp only at hfin
      cases hrr : resR st' rts avs' with
      | none => rw [hrr] at hfin; cases hfin
      | some q =>
        obtain ⟨y, ids⟩ := q
        rw [hrr] at hfin
        simp only at hfin
        cases hdis : distinct ids with
        | false => rw [hdis] at hfin; cases hfin
        | true =>
          rw [hdis] at hfin
          simp only [cond_true, Option.some.injEq] at hfin
          subst hfin
          obtain ⟨us, r1, r2, r3⟩ := results_run (P := P) hs' hres (chkRes_ok hk2 hrr)
          obtain ⟨hs2, o1, o2, o3⟩ := resR_out hs'.toSimM hrr (distinct_nodup hdis) r2
          exact ⟨_, r1, _, M', rfl, hs'.le, hs'.mem, hs'.kp, hs'.new, us, hs2, rfl, o3, o1⟩
  | D :: Ds, W, hnd, hD, hs' => by
    simp only [List.map_cons, LeavesInM]
    obtain ⟨h1, h2⟩ := hD D (List.mem_cons_self ..)
    have hn := List.nodup_cons.1 hnd
    refine ⟨by simp, .inl ⟨D, W.putObj D (.deferred none), rfl, run_takeDeferred h2, leaves_marks hk2 hfin Ds _ hn.2 (fun B hB => ?_) (SimS.oth hs' (Oth.putObj _ h1 h2 rfl))⟩⟩
    obtain ⟨k1, k2⟩ := hD B (List.mem_cons_of_mem _ hB)
    exact ⟨k1, (World.putObj_heap_other (fun e => hn.1 (by subst e; exact hB))).trans k2⟩

theorem run_fnF (hP : ProgOk P E) (hD : DrawOk P E) {ss : List SCal} (hss : ∀ (j : Nat) (C : SCal), ss[j]? = some C → SCalOk P C) {fuel : Nat} {fn : Func} {c : Code} {a : AFun} {f : FuncId} {rts : List RTy} (hf : P.funcs[f]? = some fn) (hb : fn.body = some c) (hk : chkF P E a c = true) (hk2 : chkRes P fn.results.toList rts = true)
    {gs : List Nat} {vs : List Value} {st : St} {r : DatRs rts} (hs : SimE E { toWorld := w, m := M } (· ∈ gs) st { tmps := vs.toArray ++ Array.replicate (fn.ntmps - vs.toArray.size) undef, defers := [] } [] w)
    (hF : execF E ss fuel a c { norm := finish fn rts, ret := finish fn rts, exits := [] } st = some r) : Calls P f vs.toArray w fun e w' => ∃ v M', e = .returned v ∧ RetOk M w gs M' w' rts r v := by
  refine (callsIn_wide (n := 0)).1 (callsIn_of_wp_marks hf hb trivial ?_)
  have fin : ∀ (w1 : Start) (S1 : Nat → Prop) (st' : St) (a' : Act) (w' : World), Ext E { toWorld := w, m := M } (· ∈ gs) w1 S1 → SimE E w1 S1 st' a' [] w' → finish fn rts st' = some r →
      LeavesInM Fence.wide 0 P fn a'.tmps (fun e w' => ∃ v M', e = .returned v ∧ RetOk M w gs M' w' rts r v) a'.defers .returning w' := fun w1 S1 st' a' w' he h1 h3 => by
    obtain ⟨hd, M', ρ', hs'⟩ := h1
    obtain ⟨Ds, hds, hnd, hDs⟩ := he.marks
    have e0 : a'.defers = Ds.map mark := by rw [hd, hds]; simp
    rw [e0]
    refine leaves_marks hk2 h3 Ds w' hnd (fun D hD => ?_) ({ he.back hs'.toSimM with frr := hs'.frr, fsr := hs'.fsr, bfr := hs'.bfr, bfs := hs'.bfs } : SimS E { toWorld := w, m := M } (· ∈ gs) M' ρ' st'.next st' a'.tmps.toList [] w')
    obtain ⟨k1, k2, k3, k4⟩ := hDs D hD
    exact ⟨k1, (hs'.kp.block D k2 k3).trans k4⟩
  have := execF_sound hP hD hss fuel a { toWorld := w, m := M } (· ∈ gs) c { norm := finish fn rts, ret := finish fn rts, exits := [] } st _ w r (bodyPostM Fence.wide 0 P fn fun e w' => ∃ v M', e = .returned v ∧ RetOk M w gs M' w' rts r v) hk hs hF
    fun w1 S1 st' a' w' he h1 => ⟨fun h3 => fin w1 S1 st' a' w' he h1 h3, fun h3 => fin w1 S1 st' a' w' he h1 h3, fun id h3 => by simp [goExit] at h3⟩
  exact this

def evalFnF (E : Env) (ss : List SCal) (fuel : Nat) (fn : Func) (a : AFun) (ats : List PTy) (rts : List RTy) (x : DatPs ats) : Option (DatRs rts) :=
  match fn.body with
  | some c => match argsOf 0 ats x with
    | (vs, d) => execF E ss fuel a c { norm := finish fn rts, ret := finish fn rts, exits := [] }
        { fr := vs ++ List.replicate (fn.ntmps - vs.length) .undef, fs := [], store := d, next := vs.length, dirty := [] }
  | none => none

/-- A FUNCTION's CONTRACT, where one ranges over a function in it. -/
theorem cal_soundF (hP : ProgOk P E) (hD : DrawOk P E) {ss : List SCal} (hss : ∀ (j : Nat) (C : SCal), ss[j]? = some C → SCalOk P C) {fuel : Nat} {fn : Func} {c : Code} {a : AFun} {C : Cal} (hev : ∀ x, evalFnF E ss fuel fn a C.ats C.rts x = C.F x) (hf : P.funcs[C.f]? = some fn) (hb : fn.body = some c)
    (hent : ∀ args w, (callFunc C.f args).run P w = .ok (.enter C.f args) w) (hk : (chkF P E a c && chkRes P fn.results.toList C.rts) = true) : CalOk P E.gs C := by
  refine ⟨hent, fun M w x vs gs r hmem hglob hargs hnd hF => ?_⟩
  rw [← hev x] at hF
  unfold evalFnF at hF
  rw [hb] at hF
  simp only [Bool.and_eq_true] at hk
  generalize hq : argsOf 0 C.ats x = q at hF
  obtain ⟨avs, d⟩ := q
  simp only at hF
  exact run_fnF hP hD hss hf hb hk.1 hk.2 (start_sim hmem hglob hargs hnd hq) hF

theorem ss_nil : ∀ (j : Nat) (C : SCal), ([] : List SCal)[j]? = some C → SCalOk P C := fun _ _ h => by simp at h
theorem ss_cons {C0 : SCal} {l : List SCal} (h : SCalOk P C0) (hs : ∀ (j : Nat) (C : SCal), l[j]? = some C → SCalOk P C) : ∀ (j : Nat) (C : SCal), (C0 :: l)[j]? = some C → SCalOk P C
  | 0, C, e => by simp at e; subst e; exact h
  | j + 1, C, e => hs j C (by simpa using e)

end
end Go.R

/- An iterator that one has written: 'func(yield func(T) bool) { if .. { return }; for t := ..; ..; t++ { x := ..; if !yield(x) { return } } }': its contract. -/
namespace Go.R
open Go

def obsB (t : Nat) (st : St) : Option Bool := match st.fr.getD t .undef with
  | .bool b => some b
  | _ => none
def obsI (t : Nat) (st : St) : Option Int := match st.fr.getD t .undef with
  | .int .i64 n => some n
  | _ => none
def obsX (T : Ty) (t : Nat) (st : St) : Option (Dat T) := match st.fr.getD t .undef with
  | .ptr id 0 0 => (match look st.store id with
    | some (.box _ cs) => dec T cs
    | _ => none)
  | _ => none

/-- The state in which the iterator begins; a round's. -/
def itSt (nt : Nat) (l : Nat) (p : Value) (cs : List AV) : St := { fr := .var (.func (.yield l) #[] #[]) [] :: .var p cs :: List.replicate (nt - 2) .undef, fs := [], store := [], next := 0, dirty := [] }
def itSt3 (nt : Nat) (l : Nat) (p : Value) (cs : List AV) (t3 : Nat) (n : Int) : St := { itSt nt l p cs with fr := (itSt nt l p cs).fr.set t3 (.int .i64 n) }

/-- The rounds' elements. -/
def iterL {α : Type} (C : Int → Option Bool) (D : Int → Option α) (T : Int → Option Int) : Nat → Int → Option (List α)
  | 0, _ => none
  | n + 1, t => (C t).bind fun b => bif b then (D t).bind fun y => (T t).bind fun t' => (iterL C D T n t').map (y :: ·) else some []

section
variable {P : Program} {E : Env} {w0 : Start} {S G : Nat → Prop} {M : Mem} {ρ : Places} {L : Blks} {w : World}

theorem RepL.of_get : {as : List AV} → {vs : List Value} → as.length = vs.length → (∀ (i : Nat) (a : AV) (v : Value), as[i]? = some a → vs[i]? = some v → Rep M ρ L a v) → RepL M ρ L as vs
  | [], [], _, _ => by simp [RepL]
  | [], _ :: _, h, _ => by simp at h
  | _ :: _, [], h, _ => by simp at h
  | a :: as, v :: vs, h, hg => by
    simp only [RepL]
    exact ⟨v, vs, rfl, hg 0 a v rfl rfl, RepL.of_get (by simpa using h) fun i a v h1 h2 => hg (i + 1) a v (by simpa using h1) (by simpa using h2)⟩

theorem RepS.val : {t : Ty} → {x : Dat t} → {us : List Value} → t.noSlice = true → RepS M t x us → us = valS t x
  | .int _, _, _, _, h => by simpa [RepS, valS] using h
  | .bool, _, _, _, h => by simpa [RepS, valS] using h
  | .str, _, _, _, h => by simpa [RepS, valS] using h
  | .slice _, _, _, h, _ => by simp [Ty.noSlice] at h
  | .nsl _, _, _, h, _ => by simp [Ty.noSlice] at h
  | .err, _, _, h, _ => by simp [Ty.noSlice] at h
  | .pair a b, p, us, hn, h => by
    simp only [Ty.noSlice, Bool.and_eq_true] at hn
    simp only [RepS] at h
    obtain ⟨v1, v2, rfl, h1, h2⟩ := h
    simp only [valS]
    rw [RepS.val hn.1 h1, RepS.val hn.2 h2]
  | .unit, _, _, _, h => by simpa [RepS, valS] using h

theorem dec_len {t : Ty} {cs : List AV} {x : Dat t} (h : dec t cs = some x) {us : List Value} (hr : RepL M ρ L cs us) : cs.length = t.sz := by
  rw [← (RepS.of_dec h hr).len, hr.length]

/-- A piece of code, and what is seen behind it. -/
theorem piece (hP : ProgOk P E) (hD : DrawOk P E) {fuel : Nat} {a : ACode} {c : Code} {R : Type} {obs : St → Option R} {st : St} {act : Act} {r : R} (hk : chkC P E a c = true) (hs : SimE E w0 S st act [] w) (h : exec E fuel a c ⟨obs, fun _ => none, []⟩ st = some r) {Q : Exit → Act → World → Prop}
    (hq : ∀ st' act' w', SimE E w0 S st' act' [] w' → Evo (fun t => t ∈ wrA a c) st st' → obs st' = some r → Q .normal act' w') : c.wpIn (Fr none) 0 P Q act w :=
  exec_sound hP hD fuel a none w0 S c _ st act w [] r Q hk hs h fun st' act' w' h1 h2 => ⟨fun h3 => hq st' act' w' h1 h2 h3, fun h3 => (by cases h3), fun id h3 => (by simp [goExit] at h3)⟩

/-- What is known between two pieces. -/
structure Inv (J : Nat → World → Prop) (nt l : Nat) (p : Value) (k : Nat) (a : Act) (W : World) : Prop where
  defers : a.defers = []
  size : a.tmps.size = nt
  y : a.tmps[0]? = some (.func (.yield l) #[] #[])
  p : a.tmps[1]? = some p
  j : J k W

theorem Inv.put {J : Nat → World → Prop} {nt l k : Nat} {p : Value} {a : Act} {W W' : World} (h : Inv J nt l p k a W) {d : Nat} (hd : 2 ≤ d) (v : Value) {k' : Nat} (hj : J k' W') : Inv J nt l p k' (a.put (some d) v) W' :=
  ⟨h.defers, by simpa [Act.put] using h.size, by simp only [Act.put]; rw [Array.getElem?_setIfInBounds_ne (by omega)]; exact h.y, by simp only [Act.put]; rw [Array.getElem?_setIfInBounds_ne (by omega)]; exact h.p, hj⟩

/-- The start of a piece. -/
theorem start_inv {J : Nat → World → Prop} {nt l k : Nat} {p : Value} {a : Act} {W : World} (h : Inv J nt l p k a W) (hgs : E.gs = []) {ct : Ty} {x : Dat ct} (hat : AtPtr ct x p W) {fr : List AV} (hlen : fr.length = nt) (hbd : BdL (fun i => i < 0) fr)
    (hfr : ∀ (i : Nat) (b : AV) (v : Value), fr[i]? = some b → a.tmps[i]? = some v → b = .undef ∨ (i = 0 ∧ b = .var (.func (.yield l) #[] #[]) []) ∨ (i = 1 ∧ b = .var p (cellsOf ct x)) ∨ ∃ n, b = .int .i64 n ∧ v = .int .i64 n) :
    ∃ M, SimE E { toWorld := W, m := M } (fun _ => False) { fr := fr, fs := [], store := [], next := 0, dirty := [] } a [] W := by
  obtain ⟨M, us, ad, hm, hp, hsp, hrep, hcell⟩ := hat
  refine ⟨M, h.defers, M, fun _ => none, ?_⟩
  have h0 : SimM E { toWorld := W, m := M } (fun _ => False) (fun i => i < 0) M (fun _ => none) (look []) W :=
    ⟨hm, Kp.refl W _, fun g c hg => (by rw [hgs] at hg; cases hg), fun id hl => absurd rfl hl, fun id _ hl => absurd rfl hl, fun id => by simp [BlkOk, look], fun id e cs hl => by simp [look] at hl, fun id hl => absurd rfl hl, Mem.le_refl _, fun b o u h => .inl h⟩
  unfold SimS
  refine { h0 with frr := RepL.of_get (by rw [hlen, Array.length_toList, h.size]) fun i b v hb hv => ?_, fsr := by simp [RepF], bfr := hbd, bfs := by simp [BdF] }
  rw [Array.getElem?_toList] at hv
  rcases hfr i b v hb hv with rfl | ⟨rfl, rfl⟩ | ⟨rfl, rfl⟩ | ⟨n, rfl, rfl⟩
  · simp [Rep]
  · rw [h.y] at hv
    cases hv
    unfold Rep
    exact ⟨rfl, .inl rfl⟩
  · rw [h.p] at hv
    cases hv
    unfold Rep
    exact ⟨rfl, .inr ⟨ad, us, hp, hsp, RepL.of_S hrep, hcell⟩⟩
  · simp [Rep]

theorem itSt_len {nt l : Nat} {p : Value} {cs : List AV} (h2 : 2 ≤ nt) : (itSt nt l p cs).fr.length = nt := by simp [itSt]; omega

theorem start0 {J : Nat → World → Prop} {nt l k : Nat} {p : Value} {a : Act} {W : World} (h : Inv J nt l p k a W) (h2 : 2 ≤ nt) (hgs : E.gs = []) {ct : Ty} {x : Dat ct} (hat : AtPtr ct x p W) :
    ∃ M, SimE E { toWorld := W, m := M } (fun _ => False) (itSt nt l p (cellsOf ct x)) a [] W := by
  refine start_inv h hgs hat (itSt_len h2) ?_ fun i b v hb hv => ?_
  · simp only [BdL, Bd]
    exact ⟨trivial, BdL_cellsOf _ _, BdL_undef fun c hc => List.eq_of_mem_replicate hc⟩
  · replace hb : (AV.var (.func (.yield l) #[] #[]) [] :: AV.var p (cellsOf ct x) :: List.replicate (nt - 2) AV.undef)[i]? = some b := hb
    match i with
    | 0 => simp at hb; exact .inr (.inl ⟨rfl, hb.symm⟩)
    | 1 => simp at hb; exact .inr (.inr (.inl ⟨rfl, hb.symm⟩))
    | i + 2 => simp at hb; exact .inl (by rw [List.getElem?_replicate] at hb; split at hb; (cases hb; rfl); cases hb)

theorem start3 {J : Nat → World → Prop} {nt l k : Nat} {p : Value} {a : Act} {W : World} (h : Inv J nt l p k a W) (h2 : 2 ≤ nt) (hgs : E.gs = []) {ct : Ty} {x : Dat ct} (hat : AtPtr ct x p W) {t3 : Nat} {n : Int} (hn : a.tmps[t3]? = some (.int .i64 n)) :
    ∃ M, SimE E { toWorld := W, m := M } (fun _ => False) (itSt3 nt l p (cellsOf ct x) t3 n) a [] W := by
  have hb0 : BdL (fun i => i < 0) (itSt nt l p (cellsOf ct x)).fr := by
    simp only [itSt, BdL, Bd]
    exact ⟨trivial, BdL_cellsOf _ _, BdL_undef fun c hc => List.eq_of_mem_replicate hc⟩
  refine start_inv h hgs hat (by rw [List.length_set]; exact itSt_len h2) (hb0.set _ (by simp [Bd])) fun i b v hb hv => ?_
  rw [List.getElem?_set] at hb
  by_cases e : t3 = i
  · subst e
    rw [if_pos rfl] at hb
    split at hb
    · cases hb
      rw [hn] at hv
      cases hv
      exact .inr (.inr (.inr ⟨n, rfl, rfl⟩))
    · cases hb
  · rw [if_neg e] at hb
    replace hb : (AV.var (.func (.yield l) #[] #[]) [] :: AV.var p (cellsOf ct x) :: List.replicate (nt - 2) AV.undef)[i]? = some b := hb
    match i with
    | 0 => simp at hb; exact .inr (.inl ⟨rfl, hb.symm⟩)
    | 1 => simp at hb; exact .inr (.inr (.inl ⟨rfl, hb.symm⟩))
    | i + 2 => simp at hb; exact .inl (by rw [List.getElem?_replicate] at hb; split at hb; (cases hb; rfl); cases hb)

/-- Behind a piece: what is known still is. -/
theorem after_piece {J : Nat → World → Prop} (hJ : ∀ k W W', J k W → Kp W W' (fun _ => False) → J k W') {nt l k : Nat} {p : Value} {a a' : Act} {W W' : World} {M : Mem} (h : Inv J nt l p k a W) {cs : List AV} {st st' : St} {ws : List Nat} (hlen : st.fr.length = nt) (h0 : st.fr[0]? = some (.var (.func (.yield l) #[] #[]) [])) (h1 : st.fr[1]? = some (.var p cs))
    (hs : SimE E { toWorld := W, m := M } (fun _ => False) st' a' [] W') (hev : Evo (fun t => t ∈ ws) st st') (hw : ∀ t ∈ ws, 2 ≤ t) : Inv J nt l p k a' W' := by
  obtain ⟨hd, M', ρ', hsim⟩ := hs
  have e0 := hev.fr 0 (fun h => by have := hw 0 h; omega)
  have e1 := hev.fr 1 (fun h => by have := hw 1 h; omega)
  rw [h0] at e0
  rw [h1] at e1
  obtain ⟨v0, g0, r0⟩ := hsim.frr.get e0
  obtain ⟨v1, g1, r1⟩ := hsim.frr.get e1
  simp only [Rep] at r0 r1
  rw [Array.getElem?_toList] at g0 g1
  have hsz := hsim.frr.length
  rw [hev.len, hlen, Array.length_toList] at hsz
  exact ⟨hd, hsz, by rw [g0, r0.1], by rw [g1, r1.1], hJ k W W' h.j hsim.kp⟩

theorem slot_int {st : St} {a : Act} {W : World} (hs : SimE E w0 S st a [] W) {t : Nat} {n : Int} (h : st.fr.getD t .undef = .int .i64 n) : a.tmps[t]? = some (.int .i64 n) := by
  obtain ⟨_, M, ρ, hs⟩ := hs
  cases hg : st.fr[t]? with
  | none => simp [List.getD, hg] at h
  | some v =>
    simp only [List.getD, hg, Option.getD_some] at h
    subst h
    obtain ⟨u, hu, hr⟩ := hs.frr.get hg
    simp only [Rep] at hr
    rw [hr] at hu
    rwa [Array.getElem?_toList] at hu

theorem obsI_some {t : Nat} {st : St} {n : Int} (h : obsI t st = some n) : st.fr.getD t .undef = .int .i64 n := by
  unfold obsI at h
  split at h
  · rename_i m hm; cases h; exact hm
  · cases h
theorem obsB_some {t : Nat} {st : St} {b : Bool} (h : obsB t st = some b) : st.fr.getD t .undef = .bool b := by
  unfold obsB at h
  split at h
  · rename_i m hm; cases h; exact hm
  · cases h
theorem obsX_some {T : Ty} {t : Nat} {st : St} {y : Dat T} (h : obsX T t st = some y) : ∃ id e cs, st.fr.getD t .undef = .ptr id 0 0 ∧ look st.store id = some (.box e cs) ∧ dec T cs = some y := by
  unfold obsX at h
  split at h
  · rename_i id hm
    split at h
    · rename_i e cs hl; exact ⟨id, e, cs, hm, hl, h⟩
    · cases h
  · cases h

/-- AN ITERATOR's CONTRACT. -/
theorem iter_sound (hP : ProgOk P E) (hD : DrawOk P E) (hgs : E.gs = []) {fuel : Nat} {fn : Func} {C : SCal} (hf : P.funcs[C.f]? = some fn) (hent : ∀ args w, (callFunc C.f args).run P w = .ok (.enter C.f args) w) (hagg : C.agg = true) (hnos : C.t.noSlice = true)
    {tA tC tY t3 tN a0 a1 a2 i0 i1 iY : Nat} {rA rB rC rD rT : Code} {opsY : Array Oper} {o0 o1 o2 o3 : Oper}
    (hb : fn.body = some (.seq (.seq rA (.cond (.tmp tA) .ret .skip)) (.seq rB (.block i0 (.loop (.seq (.seq rC (.cond (.tmp tC) .skip (.exit i0))) (.seq (.block i1 (.seq rD (.seq (.region iY opsY false) (.cond (.tmp tY) .ret .skip)))) rT)))))))
    (hres : fn.results = #[]) (h2 : 2 ≤ fn.ntmps) (hops : opsY = #[o0, o1, o2, o3]) (hg : o0.guard = none ∧ o1.guard = none ∧ o2.guard = none ∧ o3.guard = none) (hdst : o0.dst = some a0 ∧ o1.dst = some a1 ∧ o2.dst = some a2 ∧ o3.dst = some tY)
    {ty tb : TypeId} {ats : Array TypeId} (hop0 : o0.op = .move (.tmp 0)) (hop1 : o1.op = .load ty (.tmp tN)) (hop2 : o2.op = .call { callee := .value (.tmp a0), args := #[.tmp a1], argTypes := ats }) (hop3 : o3.op = .unOp .not tb (.tmp a2))
    {aA aB aC aD aT : ACode} (hk : (chkC P E aA rA && chkC P E aB rB && chkC P E aC rC && chkC P E aD rD && chkC P E aT rT && chkOp P .n o0.op && chkOp P (.load C.t.sz true) o1.op) = true)
    (hw : ((wrA aA rA).all (Nat.ble 2) && (wrA aB rB).all (Nat.ble 2) && (wrA aC rC).all (fun t => Nat.ble 2 t && !(Nat.beq t t3)) && (wrA aD rD).all (fun t => Nat.ble 2 t && !(Nat.beq t t3)) && (wrA aT rT).all (Nat.ble 2)) = true)
    (hsl : 2 ≤ t3 ∧ t3 < fn.ntmps ∧ 2 ≤ a0 ∧ 2 ≤ a1 ∧ 2 ≤ a2 ∧ 2 ≤ tY ∧ a0 ≠ t3 ∧ a1 ≠ t3 ∧ a2 ≠ t3 ∧ tY ≠ t3 ∧ a0 ≠ a1 ∧ a0 ≠ tN ∧ a0 < fn.ntmps ∧ a1 < fn.ntmps ∧ a2 < fn.ntmps ∧ tY < fn.ntmps)
    {A : Dat C.ct → Option Bool} {B : Dat C.ct → Option Int} {Cc : Dat C.ct → Int → Option Bool} {Dd : Dat C.ct → Int → Option (Dat C.t)} {Tt : Dat C.ct → Int → Option Int}
    (hA : ∀ l p x, exec E fuel aA rA ⟨obsB tA, fun _ => none, []⟩ (itSt fn.ntmps l p (cellsOf C.ct x)) = A x)
    (hB : ∀ l p x, exec E fuel aB rB ⟨obsI t3, fun _ => none, []⟩ (itSt fn.ntmps l p (cellsOf C.ct x)) = B x)
    (hC : ∀ l p x t, exec E fuel aC rC ⟨obsB tC, fun _ => none, []⟩ (itSt3 fn.ntmps l p (cellsOf C.ct x) t3 t) = Cc x t)
    (hDd : ∀ l p x t, exec E fuel aD rD ⟨obsX C.t tN, fun _ => none, []⟩ (itSt3 fn.ntmps l p (cellsOf C.ct x) t3 t) = Dd x t)
    (hT : ∀ l p x t, exec E fuel aT rT ⟨obsI t3, fun _ => none, []⟩ (itSt3 fn.ntmps l p (cellsOf C.ct x) t3 t) = Tt x t)
    (hF : ∀ x, C.F x = (A x).bind fun b => bif b then some [] else (B x).bind fun t => iterL (Cc x) (Dd x) (Tt x) fuel t) : SCalOk P C := by
  simp only [Bool.and_eq_true] at hk hw
  obtain ⟨⟨⟨⟨⟨⟨kA, kB⟩, kC⟩, kD⟩, kT⟩, k0⟩, k1⟩ := hk
  obtain ⟨⟨⟨⟨wA, wB⟩, wC⟩, wD⟩, wT⟩ := hw
  obtain ⟨s3, s3n, sa0, sa1, sa2, sY, n03, n13, n23, nY3, n01, n0N, l0, l1, l2, lY⟩ := hsl
  have le2 : ∀ {ws : List Nat}, ws.all (Nat.ble 2) = true → ∀ t ∈ ws, 2 ≤ t := fun h t ht => Nat.le_of_ble_eq_true (List.all_eq_true.1 h t ht)
  have le3 : ∀ {ws : List Nat}, ws.all (fun t => Nat.ble 2 t && !(Nat.beq t t3)) = true → ∀ t ∈ ws, 2 ≤ t ∧ t ≠ t3 := fun h t ht => by
    have := List.all_eq_true.1 h t ht
    simp only [Bool.and_eq_true, Bool.not_eq_true'] at this
    exact ⟨Nat.le_of_ble_eq_true this.1, fun e => by rw [e, Nat.beq_refl] at this; cases this.2⟩
  refine ⟨hent, hnos, fun e => (by rw [hagg] at e; cases e), fun x xs hx p l J W hJA hJK hY hJ0 => ?_⟩
  rw [hF x] at hx
  refine (callsIn_wide (n := 0)).1 (callsIn_of_wp hf hb trivial ?_)
  generalize hQ : bodyPost P fn (fun e W' => (∃ v, e = .returned v) ∧ J xs.length W') = Q
  have fin : ∀ (a : Act) (W : World), a.defers = [] → J xs.length W → Q .normal a W ∧ Q .ret a W := fun a W hd hj => by
    have hr : (results fn a.tmps).run P W = .ok (.tuple #[]) W := by
      rw [results_def, hres]
      simp
    subst hQ
    exact ⟨⟨hd, _, hr, ⟨_, rfl⟩, hj⟩, ⟨hd, _, hr, ⟨_, rfl⟩, hj⟩⟩
  have hI0 : Inv J fn.ntmps l p 0 { tmps := #[.func (.yield l) #[] #[], p] ++ Array.replicate (fn.ntmps - (#[.func (.yield l) #[] #[], p] : Array Value).size) undef, defers := [] } W :=
    ⟨rfl, by simp; omega, by rw [Array.getElem?_append_left (by simp)]; rfl, by rw [Array.getElem?_append_left (by simp)]; rfl, hJ0⟩
  simp only [Option.bind_eq_some_iff] at hx
  obtain ⟨b, hAx, hx⟩ := hx
  -- the head
  obtain ⟨M0, hs0⟩ := start0 hI0 h2 hgs (hJA _ _ hJ0)
  refine wpIn_seq (wpIn_seq (piece hP hD kA hs0 ((hA l p x).trans hAx) fun st1 act1 W1 h1 hev1 ho1 => ?_))
  have hI1 := after_piece hJK hI0 (itSt_len h2) rfl rfl h1 hev1 (le2 wA)
  have hc1 : act1.eval (.tmp tA) = .bool b := eval_tmp (slot_bool h1 (obsB_some ho1))
  refine wpIn_cond hc1 ?_
  cases b with
  | true =>
    simp only [cond_true, Option.some.injEq] at hx
    subst hx
    exact wpIn_ret (fin act1 W1 hI1.defers hI1.j).2
  | false =>
    simp only [cond_false, Option.bind_eq_some_iff] at hx
    obtain ⟨t, hBx, hx⟩ := hx
    refine wpIn_skip ?_
    obtain ⟨M1, hs1⟩ := start0 hI1 h2 hgs (hJA _ _ hI1.j)
    refine wpIn_seq (piece hP hD kB hs1 ((hB l p x).trans hBx) fun st2 act2 W2 h2' hev2 ho2 => ?_)
    have hI2 := after_piece hJK hI1 (itSt_len h2) rfl rfl h2' hev2 (le2 wB)
    have ht2 := slot_int h2' (obsI_some ho2)
    refine wpIn_block (wpIn_loop_rounds fuel ?_)
    -- the rounds
    have key : ∀ (m k : Nat) (t : Int) (a : Act) (W : World), Inv J fn.ntmps l p k a W → a.tmps[t3]? = some (.int .i64 t) → iterL (Cc x) (Dd x) (Tt x) m t = some (xs.drop k) → k ≤ xs.length →
        roundsIn P none (.seq (.seq rC (.cond (.tmp tC) .skip (.exit i0))) (.seq (.block i1 (.seq rD (.seq (.region iY opsY false) (.cond (.tmp tY) .ret .skip)))) rT)) (Exit.inBlock i0 Q) m a W := by
      intro m
      induction m with
      | zero => intro k t a W _ _ h; simp [iterL] at h
      | succ m ih =>
        intro k t a W hI ht h hkl
        simp only [iterL, Option.bind_eq_some_iff] at h
        obtain ⟨b, hCx, h⟩ := h
        rw [roundsIn_succ]
        have hfr3 : ∀ (cs : List AV), (itSt3 fn.ntmps l p cs t3 t).fr[0]? = some (.var (.func (.yield l) #[] #[]) []) ∧ (itSt3 fn.ntmps l p cs t3 t).fr[1]? = some (.var p cs) ∧ (itSt3 fn.ntmps l p cs t3 t).fr.length = fn.ntmps ∧ (itSt3 fn.ntmps l p cs t3 t).fr.getD t3 .undef = .int .i64 t := fun cs => by
          have hl := itSt_len (l := l) (p := p) (cs := cs) h2
          refine ⟨?_, ?_, ?_, ?_⟩
          · simp only [itSt3]; rw [List.getElem?_set_ne (by omega)]; rfl
          · simp only [itSt3]; rw [List.getElem?_set_ne (by omega)]; rfl
          · simp only [itSt3]; rw [List.length_set]; exact hl
          · simp only [itSt3]; rw [List.getD, List.getElem?_set, if_pos rfl, if_pos (by rw [hl]; exact s3n)]; rfl
        obtain ⟨f0, f1, f2, f3⟩ := hfr3 (cellsOf C.ct x)
        obtain ⟨M3, hs3⟩ := start3 hI h2 hgs (hJA _ _ hI.j) ht
        refine wpIn_seq (wpIn_seq (piece hP hD kC hs3 ((hC l p x t).trans hCx) fun st4 act4 W4 h4 hev4 ho4 => ?_))
        have hI4 := after_piece hJK hI f2 f0 f1 h4 hev4 (fun t ht => (le3 wC t ht).1)
        have ht4 : act4.tmps[t3]? = some (.int .i64 t) := slot_int h4 (by rw [List.getD, hev4.fr t3 (fun h => (le3 wC t3 h).2 rfl), ← List.getD]; exact f3)
        refine wpIn_cond (eval_tmp (slot_bool h4 (obsB_some ho4))) ?_
        cases b with
        | false =>
          simp only [cond_false, Option.some.injEq] at h
          have hk0 : k = xs.length := by
            have := congrArg List.length h
            simp only [List.length_nil, List.length_drop] at this
            omega
          refine wpIn_exit ?_
          simp only [Exit.then, Exit.inBlock, if_true]
          subst hk0
          exact (fin act4 W4 hI4.defers hI4.j).1
        | true =>
          simp only [cond_true, Option.bind_eq_some_iff, Option.map_eq_some_iff] at h
          obtain ⟨y, hDx, t', hTx, ys, hys, hyx⟩ := h
          have hkl' : k < xs.length := by
            rcases Nat.lt_or_ge k xs.length with g | g
            · exact g
            · rw [List.drop_eq_nil_of_le g] at hyx; cases hyx
          have hdrop := List.drop_eq_getElem_cons hkl'
          rw [hdrop] at hyx
          simp only [List.cons.injEq] at hyx
          obtain ⟨hy, hys'⟩ := hyx
          have hxk : xs[k]? = some y := by rw [List.getElem?_eq_getElem hkl', hy]
          refine wpIn_skip ?_
          obtain ⟨M5, hs5⟩ := start3 hI4 h2 hgs (hJA _ _ hI4.j) ht4
          refine wpIn_seq (wpIn_block (wpIn_seq (piece hP hD kD hs5 ((hDd l p x t).trans hDx) fun st6 act6 W6 h6 hev6 ho6 => ?_)))
          have hI6 := after_piece hJK hI4 f2 f0 f1 h6 hev6 (fun t ht => (le3 wD t ht).1)
          obtain ⟨id, e, cs, hptr, hlk, hdec⟩ := obsX_some ho6
          have e60 : st6.fr[0]? = some (.var (.func (.yield l) #[] #[]) []) := (hev6.fr 0 (fun h => by have := (le3 wD 0 h).1; omega)).trans f0
          have e61 : st6.fr[1]? = some (.var p (cellsOf C.ct x)) := (hev6.fr 1 (fun h => by have := (le3 wD 1 h).1; omega)).trans f1
          have e63 : st6.fr.getD t3 .undef = .int .i64 t := by rw [List.getD, hev6.fr t3 (fun h => (le3 wD t3 h).2 rfl), ← List.getD]; exact f3
          have e6l : st6.fr.length = fn.ntmps := hev6.len.trans f2
          refine wpIn_seq (wpIn_region ?_)
          have hsz : List.range opsY.size = [0, 1, 2, 3] := by rw [hops]; rfl
          rw [hsz]
          obtain ⟨g0, g1, g2, g3⟩ := hg
          obtain ⟨d0, d1, d2, d3⟩ := hdst
          -- yield's value
          have q0 : (opQ E .n o0.op (E.eval st6.fr) st6.next).run (look st6.store) done1 = some (.var (.func (.yield l) #[] #[]) [], []) := by
            rw [hop0]
            simp only [opQ, moveQ, Env.eval, List.getD, e60, Option.getD_some]
            rfl
          have st0 := step_sim (X := Exit.then (fun a W => (Code.cond (.tmp tY) .ret .skip).wpIn (Fr none) 0 P (Exit.inBlock i1 (Exit.then (rT.wpIn (Fr none) 0 P (Exit.then (roundsIn P none (.seq (.seq rC (.cond (.tmp tC) .skip (.exit i0))) (.seq (.block i1 (.seq rD (.seq (.region iY opsY false) (.cond (.tmp tY) .ret .skip)))) rT)) (Exit.inBlock i0 Q) m) (Exit.inBlock i0 Q))) (Exit.then (roundsIn P none (.seq (.seq rC (.cond (.tmp tC) .skip (.exit i0))) (.seq (.block i1 (.seq rD (.seq (.region iY opsY false) (.cond (.tmp tY) .ret .skip)))) rT)) (Exit.inBlock i0 Q) m) (Exit.inBlock i0 Q)))) a W) (Exit.inBlock i1 (Exit.then (rT.wpIn (Fr none) 0 P (Exit.then (roundsIn P none (.seq (.seq rC (.cond (.tmp tC) .skip (.exit i0))) (.seq (.block i1 (.seq rD (.seq (.region iY opsY false) (.cond (.tmp tY) .ret .skip)))) rT)) (Exit.inBlock i0 Q) m) (Exit.inBlock i0 Q))) (Exit.then (roundsIn P none (.seq (.seq rC (.cond (.tmp tC) .skip (.exit i0))) (.seq (.block i1 (.seq rD (.seq (.region iY opsY false) (.cond (.tmp tY) .ret .skip)))) rT)) (Exit.inBlock i0 Q) m) (Exit.inBlock i0 Q))))) hP.cs h6 k0 q0
          rw [d0] at st0
          refine wpOps_run (o := o0) (by rw [hops]; rfl) (wanted_none g0) (opQ_nodefer q0) (Oper.wp_mono (fun act7 W7 h7 => ?_) st0.1)
          have hev7 := st0.2
          have hput : (st6.put (some a0) (.var (.func (.yield l) #[] #[]) []) []).fr = st6.fr.set a0 (.var (.func (.yield l) #[] #[]) []) := rfl
          have q1 : (opQ E (.load C.t.sz true) o1.op (E.eval (st6.put (some a0) (.var (.func (.yield l) #[] #[]) []) []).fr) (st6.put (some a0) (.var (.func (.yield l) #[] #[]) []) []).next).run (look (st6.put (some a0) (.var (.func (.yield l) #[] #[]) []) []).store) done1 = some (.agg cs, []) := by
            rw [hop1]
            have e1 : E.eval (st6.put (some a0) (.var (.func (.yield l) #[] #[]) []) []).fr (.tmp tN) = .ptr id 0 0 := by
              simp only [Env.eval, hput]
              rw [List.getD, List.getElem?_set_ne n0N, ← List.getD]
              exact hptr
            have hlk' : look (st6.put (some a0) (.var (.func (.yield l) #[] #[]) []) []).store id = some (.box e cs) := hlk
            have hlen : cs.length = C.t.sz := by
              obtain ⟨_, M6, ρ6, hsim6⟩ := h6
              have hb6 := hsim6.blk id
              unfold BlkOk at hb6
              rw [hlk] at hb6
              obtain ⟨g, cap, cur, _, _, hr⟩ := hb6
              exact dec_len hdec hr
            simp only [opQ, e1, loadQ, Qn.run, hlk', oneQ, List.drop_zero]
            rw [List.take_of_length_le (by omega), hlen, Nat.beq_refl]
            rfl
          have st1 := step_sim (X := Exit.then (fun a W => (Code.cond (.tmp tY) .ret .skip).wpIn (Fr none) 0 P (Exit.inBlock i1 (Exit.then (rT.wpIn (Fr none) 0 P (Exit.then (roundsIn P none (.seq (.seq rC (.cond (.tmp tC) .skip (.exit i0))) (.seq (.block i1 (.seq rD (.seq (.region iY opsY false) (.cond (.tmp tY) .ret .skip)))) rT)) (Exit.inBlock i0 Q) m) (Exit.inBlock i0 Q))) (Exit.then (roundsIn P none (.seq (.seq rC (.cond (.tmp tC) .skip (.exit i0))) (.seq (.block i1 (.seq rD (.seq (.region iY opsY false) (.cond (.tmp tY) .ret .skip)))) rT)) (Exit.inBlock i0 Q) m) (Exit.inBlock i0 Q)))) a W) (Exit.inBlock i1 (Exit.then (rT.wpIn (Fr none) 0 P (Exit.then (roundsIn P none (.seq (.seq rC (.cond (.tmp tC) .skip (.exit i0))) (.seq (.block i1 (.seq rD (.seq (.region iY opsY false) (.cond (.tmp tY) .ret .skip)))) rT)) (Exit.inBlock i0 Q) m) (Exit.inBlock i0 Q))) (Exit.then (roundsIn P none (.seq (.seq rC (.cond (.tmp tC) .skip (.exit i0))) (.seq (.block i1 (.seq rD (.seq (.region iY opsY false) (.cond (.tmp tY) .ret .skip)))) rT)) (Exit.inBlock i0 Q) m) (Exit.inBlock i0 Q))))) hP.cs h7 k1 q1
          rw [d1] at st1
          refine wpOps_run (o := o1) (by rw [hops]; rfl) (wanted_none g1) (opQ_nodefer q1) (Oper.wp_mono (fun act8 W8 h8 => ?_) st1.1)
          have hev8 := st1.2
          have hev68 : Evo (fun t => t ∈ [a0, a1]) st6 ((st6.put (some a0) (.var (.func (.yield l) #[] #[]) []) []).put (some a1) (.agg cs) []) := (hev7.wider fun t ht => by cases ht; simp).trans (hev8.wider fun t ht => by cases ht; simp)
          have hI8 := after_piece hJK hI4 f2 f0 f1 h8 ((hev6.wider fun t ht => List.mem_append_left [a0, a1] ht).trans (hev68.wider fun t ht => List.mem_append_right _ ht)) (fun t ht => by
            rcases List.mem_append.1 ht with ht | ht
            · exact (le3 wD t ht).1
            · simp at ht; omega)
          have ht8 : act8.tmps[t3]? = some (.int .i64 t) := slot_int h8 (by rw [List.getD, hev68.fr t3 (fun h => by simp at h; omega), ← List.getD]; exact e63)
          obtain ⟨_, M8, ρ8, hsim8⟩ := h8
          have v0 : act8.tmps[a0]? = some (.func (.yield l) #[] #[]) := by
            have hg : ((st6.put (some a0) (.var (.func (.yield l) #[] #[]) []) []).put (some a1) (.agg cs) []).fr[a0]? = some (.var (.func (.yield l) #[] #[]) []) := by
              show ((st6.fr.set a0 _).set a1 _)[a0]? = _
              rw [List.getElem?_set_ne (fun h => n01 h.symm), List.getElem?_set, if_pos rfl, if_pos (by rw [e6l]; exact l0)]
            obtain ⟨u, hu, hr⟩ := hsim8.frr.get hg
            simp only [Rep] at hr
            rw [hr.1] at hu
            rwa [Array.getElem?_toList] at hu
          have v1 : act8.tmps[a1]? = some (oneV true (valS C.t y)) := by
            have hg : ((st6.put (some a0) (.var (.func (.yield l) #[] #[]) []) []).put (some a1) (.agg cs) []).fr[a1]? = some (.agg cs) := by
              show ((st6.fr.set a0 _).set a1 _)[a1]? = _
              rw [List.getElem?_set, if_pos rfl, if_pos (by rw [List.length_set, e6l]; exact l1)]
            obtain ⟨u, hu, hr⟩ := hsim8.frr.get hg
            simp only [Rep] at hr
            obtain ⟨us, rfl, hus⟩ := hr
            have := RepS.val hnos (RepS.of_dec hdec hus)
            rw [Array.getElem?_toList] at hu
            rw [hu, oneV, ← this]
          -- yield
          have hyld := hY k y W8 hxk hI8.j
          rw [hagg] at hyld
          obtain ⟨fn', tmps', assign', body', hrun, hround⟩ := hyld
          have hex : (execOp act8.eval o2).run P W8 = .ok (.round l fn' tmps' assign' body') W8 := by
            simp [execOp, hop2, resolve, eval_tmp v0, eval_tmp v1, Deferred.ofValue, invoke, hrun]
          have nd2 : ∀ c, o2.op ≠ .defer c := fun c h => by rw [hop2] at h; cases h
          simp only [wpOpsIn]
          rw [show opsY[2]? = some o2 by rw [hops]; rfl]
          simp only [wanted_none g2, if_true]
          refine ⟨fun _ _ => trivial, ?_⟩
          rw [Oper.semAt_eq _ _ _ nd2, hex]
          refine ⟨fun h => by simp [Fr, Fence.wide] at h, hround.mono fun e9 W9 h9 => ?_⟩
          obtain ⟨rfl, hj9⟩ := h9
          -- behind yield
          have hI9 : Inv J fn.ntmps l p (k + 1) (act8.put o2.dst (.bool true)) W9 := by rw [d2]; exact hI8.put sa2 _ hj9
          have ht9 : (act8.put o2.dst (.bool true)).tmps[t3]? = some (.int .i64 t) := by
            rw [d2]; simp only [Act.put]; rw [Array.getElem?_setIfInBounds_ne n23]; exact ht8
          have v2 : (act8.put o2.dst (.bool true)).tmps[a2]? = some (.bool true) := by
            rw [d2]; simp only [Act.put]; rw [Array.getElem?_setIfInBounds, if_pos rfl, if_pos (by rw [hI8.size]; exact l2)]
          dsimp only
          generalize act8.put o2.dst (.bool true) = act9 at hI9 ht9 v2 ⊢
          rw [show opsY[3]? = some o3 by rw [hops]; rfl]
          simp only [wanted_none g3, if_true]
          have nd3 : ∀ c, o3.op ≠ .defer c := fun c h => by rw [hop3] at h; cases h
          have hex3 : (execOp act9.eval o3).run P W9 = .ok (.value (.bool false)) W9 := by
            simp [execOp, hop3, eval_tmp v2, Op.unary]
          refine ⟨fun _ _ => trivial, ?_⟩
          rw [Oper.semAt_eq _ _ _ nd3, hex3]
          have hI10 : Inv J fn.ntmps l p (k + 1) (act9.put o3.dst (.bool false)) W9 := by rw [d3]; exact hI9.put sY _ hI9.j
          have ht10 : (act9.put o3.dst (.bool false)).tmps[t3]? = some (.int .i64 t) := by
            rw [d3]; simp only [Act.put]; rw [Array.getElem?_setIfInBounds_ne nY3]; exact ht9
          have v3 : (act9.put o3.dst (.bool false)).tmps[tY]? = some (.bool false) := by
            rw [d3]; simp only [Act.put]; rw [Array.getElem?_setIfInBounds, if_pos rfl, if_pos (by rw [hI9.size]; exact lY)]
          change Code.wpIn (Fr none) 0 P (Code.cond (.tmp tY) .ret .skip) _ (act9.put o3.dst (.bool false)) W9
          generalize act9.put o3.dst (.bool false) = act10 at hI10 ht10 v3 ⊢
          refine wpIn_cond_false (eval_tmp v3) (wpIn_skip ?_)
          obtain ⟨M11, hs11⟩ := start3 hI10 h2 hgs (hJA _ _ hI10.j) ht10
          change Code.wpIn (Fr none) 0 P rT _ act10 W9
          refine piece hP hD kT hs11 ((hT l p x t).trans hTx) fun st12 act12 W12 h12 hev12 ho12 => ?_
          have hI12 := after_piece hJK hI10 f2 f0 f1 h12 hev12 (le2 wT)
          exact ih (k + 1) t' act12 W12 hI12 (slot_int h12 (obsI_some ho12)) (by rw [hys, hys']) hkl'
    refine key fuel 0 t act2 W2 hI2 ht2 (by rw [hx]; rfl) (Nat.zero_le _)

end

/-! ### Pieces of code -/

def cL : Code → Code
  | .seq a _ => a
  | .cond _ a _ => a
  | .block _ a => a
  | .loop a => a
  | c => c
def cR : Code → Code
  | .seq _ b => b
  | c => c
def cOps : Code → Array Oper
  | .region _ ops _ => ops
  | _ => #[]
def noOper : Oper := { dst := none, op := .move (.const undef), type := 0, pos := "", after := #[], guard := none }

end Go.R
