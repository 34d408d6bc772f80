/- What is proved here: the walks of config.Check, config.clone and config.Combine; a tool for the claim's proof. They ask what they say. -/
import Derived.Test.YtkcphennphabgaaChecked
import Derived.WalkKit
import Derived.Maps.OwnOps
import Derived.Maps.OwnSet
import Derived.Maps.Views
import Derived.Deep.QuietTactic
import Derived.BigQuiet
import Derived.Deep.AppendSrc
import Derived.Deep.AppendLies
import Derived.Deep.RegionHeld3
import Derived.Deep.RegionLaw
set_option maxRecDepth 100000
namespace Go.Proofs.Ytkcphennphabgaa.RT
open Go Go.RowKit Go.WideMaps Go.Maps

/-- What a call keeps. -/
structure Kept (w w' : World) : Prop where
  below : Below w.heap.size w w'
  drawn : w.drawn ≤ w'.drawn
theorem Kept.refl (w : World) : Kept w w := ⟨Below.refl _ _, Nat.le_refl _⟩
theorem Kept.trans {a b c : World} (h : Kept a b) (g : Kept b c) : Kept a c := ⟨h.below.trans (g.below.mono h.below.size), Nat.le_trans h.drawn g.drawn⟩
theorem Kept.alloc (w : World) (o : Obj) : Kept w (w.alloc o) := ⟨(Below.refl _ _).alloc (Nat.le_refl _) o, Nat.le_refl _⟩
theorem Kept.drewN (w : World) (n : Nat) : Kept w (w.drewN n) := ⟨⟨rfl, rfl, rfl, Nat.le_refl _, fun _ _ => rfl⟩, Nat.le_add_right _ _⟩
theorem Kept.cell {w w' : World} (h : Kept w w') {p : Addr} {v : Value} (hp : w.cell? p = some v) : w'.cell? p = some v := by
  have hlt : p.block < w.heap.size := by
    unfold World.cell? at hp
    rcases Nat.lt_or_ge p.block w.heap.size with g | g
    · exact g
    · rw [Array.getElem?_eq_none g] at hp
      cases hp
  rw [h.below.cell hlt]; exact hp
theorem Kept.grown {w w' : World} (h : Kept w w') : w.grownBy w' none := ⟨h.below.os, h.below.tape, h.below.output, h.below.size, fun k hk _ => h.below.block k hk⟩

theorem cell_new (w : World) (cs : Array Value) (e : TypeId) {i : Nat} {v : Value} (h : cs[i]? = some v) : (w.alloc (.cells cs e)).cell? ⟨w.heap.size, i, none⟩ = some v := by
  unfold World.cell?
  rw [show (w.alloc (.cells cs e)).heap[w.heap.size]? = some (.cells cs e) from Array.getElem?_push_size]
  exact h

theorem alloc_lt (w : World) (o : Obj) : w.heap.size < (w.alloc o).heap.size := by
  show w.heap.size < (w.heap.push o).size
  rw [Array.size_push]
  omega
theorem Kept.grownBy {a w w' : World} (h : Kept a w) {b : Nat} (hg : w.grownBy w' (some b)) (hd : w.drawn ≤ w'.drawn) (hb : a.heap.size ≤ b) : Kept a w' :=
  ⟨h.below.grown hg h.below.size (fun k e => by cases e; exact hb), Nat.le_trans h.drawn hd⟩

/-! ### The map of what was seen -/

abbrev one1 : DataW Unit := .lit (.int .i64 1)
def kl (s : ByteArray) : Lit := .string s.data.toList
def seen (acc : List ByteArray) : DataW Unit := setOf one1 (acc.map kl)
def mem (acc : List ByteArray) (s : ByteArray) : Bool := acc.any fun x => x.data.toList == s.data.toList

theorem kl_all (acc : List ByteArray) : ∀ x ∈ acc.map kl, WideAt.IsKeyLit x := fun x hx => by
  obtain ⟨s, _, rfl⟩ := List.mem_map.1 hx
  trivial
theorem has_seen (acc : List ByteArray) (s : ByteArray) : Maps.has (seen acc) (kl s) = mem acc s := by
  unfold seen mem
  rw [has_setOf _ _ _ (kl_all acc), List.any_map]
  rfl
theorem seen_snoc (acc : List ByteArray) (s : ByteArray) : seen (acc ++ [s]) = (seen acc).put (kl s) one1 := by
  unfold seen
  rw [List.map_append]
  exact setOf_snoc _ _ _
theorem at_miss {acc : List ByteArray} {s : ByteArray} (h : mem acc s = false) : (seen acc).atKey (kl s) (.lit (.int .i64 0)) = .lit (.int .i64 0) := atKey_of_not_has (by rw [has_seen]; exact h) _
theorem isMap_seen (acc : List ByteArray) : IsMap (seen acc) := (tidy_setOf one1 _ (kl_all acc)).isMap
theorem at_hit : ∀ (acc : List ByteArray) {s : ByteArray}, mem acc.reverse s = true → (seen acc.reverse).atKey (kl s) (.lit (.int .i64 0)) = .lit (.int .i64 1)
  | [], s, h => by cases h
  | x :: acc, s, h => by
    rw [List.reverse_cons] at h ⊢
    rw [seen_snoc]
    by_cases e : kl s = kl x
    · rw [e, atKey_put_same (isMap_seen _) (k := kl x) (show WideAt.IsKeyLit (kl x) from trivial)]
    · rw [atKey_put_other e]
      refine at_hit acc ?_
      unfold mem at h ⊢
      rw [List.any_append] at h
      cases h1 : (acc.reverse.any fun x => x.data.toList == s.data.toList) with
      | true => rfl
      | false =>
        rw [h1] at h
        simp only [List.any_cons, List.any_nil, Bool.or_false, Bool.false_or] at h
        exact absurd (by unfold kl; rw [eq_of_beq h]) e
theorem at_hit' {acc : List ByteArray} {s : ByteArray} (h : mem acc s = true) : (seen acc).atKey (kl s) (.lit (.int .i64 0)) = .lit (.int .i64 1) := by
  have := at_hit acc.reverse (s := s) (by rw [List.reverse_reverse]; exact h)
  rwa [List.reverse_reverse] at this
theorem size_seen {acc : List ByteArray} {s : ByteArray} (h : mem acc s = false) : Maps.size (seen (acc ++ [s])) = Maps.size (seen acc) + 1 := by
  rw [seen_snoc, size_put (D := seen acc) (tidy_setOf one1 _ (kl_all acc)), has_seen, h]
  rfl

section
variable {P : Program} {w : World} {k e t : TypeId} {b n : Nat}

theorem wpList_look {ops : Array Oper} {rest : List Oper} {o : Oper} {a : Act} {Q : Exit → Act → World → Prop} (hg : o.guard = none) (m x : Operand) (hop : o.op = Op.lookup t m x false)
    (K : Keyed P k) (ht : P.underlying t = some (.map k e)) (he : P.underlying e = some (.int .i64)) (hz : (zeroValue e).run P w = .ok (.int .i64 0) w) (D : DataW Unit)
    (hm : a.eval m = .map (some b)) (hown : w.ownsMap P k (plainElem P e) b n D) (key : Value) (lk : Lit) (hx : a.eval x = key) (hkey : keyOf P k key = some lk) (c : Int) (hc : D.atKey lk (.lit (.int .i64 0)) = .lit (.int .i64 c))
    (hK : wpList P ops Q rest (a.put o.dst (.int .i64 c)) w) : wpList P ops Q (o :: rest) a w :=
  wpList_lookup_own_int w hg m x t hop k e .i64 K ht he hz b n D hm hown key lk hx hkey fun c' h _ => by
    rw [hc] at h
    cases h
    exact hK

theorem wpList_put {ops : Array Oper} {rest : List Oper} {o : Oper} {a : Act} {Q : Exit → Act → World → Prop} (hg : o.guard = none) (m x v : Operand) (hop : o.op = Op.mapUpdate t m x v)
    (K : Keyed P k) (ht : P.underlying t = some (.map k e)) (he : P.underlying e = some (.int .i64)) (D : DataW Unit)
    (hm : a.eval m = .map (some b)) (hown : w.ownsMap P k (plainElem P e) b n D) (hn : n < maxLen) (key : Value) (lk : Lit) (hx : a.eval x = key) (hkey : keyOf P k key = some lk) (c : Int) (hv : a.eval v = .int .i64 c) (hc : (Lit.int .i64 c).wf = true)
    (hK : ∀ w', w'.ownsMap P k (plainElem P e) b (n + 1) (D.put lk (.lit (.int .i64 c))) → w.grownBy w' (some b) → w.drawn ≤ w'.drawn → wpList P ops Q rest (a.put o.dst undef) w') : wpList P ops Q (o :: rest) a w := by
  refine wpList_plain hg fun K' hK' => ?_
  obtain ⟨w', hrun, r1, r2⟩ := hown.update K ht hn hkey (plainElem_int he hc)
  obtain ⟨es, clock, hb, F, hs, rfl⟩ := hown
  obtain ⟨es', clock', hrun', _⟩ := Maps.fit_store (R' := plainElem P e) K ht hb F (Nat.lt_of_le_of_lt hs hn) (fun _ _ _ _ hz => hz) hkey (plainElem_int he hc)
  have hd : w.drawn ≤ w'.drawn := by
    rw [hrun] at hrun'
    cases hrun'
    exact Nat.le_refl _
  unfold Oper.wp
  simp [execOp, hop, hm, hx, hv, hrun, Result.andThen]
  exact hK' _ _ (hK w' r1 r2 hd)
end

/-! ### What the check says -/

abbrev Gp := ByteArray × List ByteArray
def ltB (a b : ByteArray) : Bool := Op.bytesLess a.toList b.toList
def leB (a b : ByteArray) : Bool := Op.bytesLess a.toList b.toList || a.toList == b.toList
def chkS (nm : ByteArray → Bool) : List ByteArray → Option ByteArray → List ByteArray → Int ⊕ List ByteArray
  | acc, _, [] => .inr acc
  | acc, pv, s :: r => bif !nm s then .inl 3 else bif mem acc s || (match pv with | some p => ltB s p | none => false) then .inl 7 else bif Nat.ble 13 (acc.length + 1) then .inl 2 else chkS nm (acc ++ [s]) (some s) r
mutual
def chkK (nm : ByteArray → Bool) (p : ByteArray) (rest : List Gp) : Int ⊕ List ByteArray → Int
  | .inl e => e
  | .inr a => chkG nm a (some p) rest
termination_by (rest.length, 1)
def chkG (nm : ByteArray → Bool) (acc : List ByteArray) (pv : Option ByteArray) : List Gp → Int
  | [] => 0
  | g :: r => bif !nm g.1 then 3 else bif (match pv with | some p => leB g.1 p | none => false) then 7 else bif g.2.isEmpty then 8 else chkK nm g.1 r (chkS nm acc none g.2)
termination_by l => (l.length, 0)
end
theorem chkK_inl (nm : ByteArray → Bool) (p : ByteArray) (rest : List Gp) (e : Int) : chkK nm p rest (.inl e) = e := by unfold chkK; rfl
theorem chkK_inr (nm : ByteArray → Bool) (p : ByteArray) (rest : List Gp) (a : List ByteArray) : chkK nm p rest (.inr a) = chkG nm a (some p) rest := by unfold chkK; rfl
def chk (nm : ByteArray → Bool) (l : List Gp) : Int := bif Nat.ble 13 l.length then 2 else chkG nm [] none l

theorem cfLaw : Keyed Try.prog 9 := string_keyed (by kernel_rfl)
theorem cfU56 : Try.prog.underlying 56 = some (.map 9 3) := by kernel_rfl
theorem cfU3 : Try.prog.underlying 3 = some (.int .i64) := by kernel_rfl
theorem cfU9 : Try.prog.underlying 9 = some .string := by kernel_rfl
theorem cfZ3 (w : World) : (zeroValue 3).run Try.prog w = .ok (.int .i64 0) w := by kernel_rfl

/-- The positions in memory. -/
structure GpIn (w : World) (b off : Nat) (l : List Gp) (ad : Nat → Option Addr) (cp : Nat → Nat) : Prop where
  pos : ∀ j, j < l.length → w.cell? ⟨b, off + j * 2, none⟩ = some (.string (l.getD j (ByteArray.empty, [])).1)
  sec : ∀ j, j < l.length → w.cell? ⟨b, off + j * 2 + 1, none⟩ = some (.slice (ad j) (l.getD j (ByteArray.empty, [])).2.length (cp j))
  at_ : ∀ j, j < l.length → ∀ k, k < (l.getD j (ByteArray.empty, [])).2.length → ∃ bj oj, ad j = some ⟨bj, oj, none⟩ ∧ ∀ k, k < (l.getD j (ByteArray.empty, [])).2.length → w.cell? ⟨bj, oj + k, none⟩ = some (.string ((l.getD j (ByteArray.empty, [])).2.getD k ByteArray.empty))
theorem GpIn.kept {w w' : World} {b off : Nat} {l : List Gp} {ad : Nat → Option Addr} {cp : Nat → Nat} (h : GpIn w b off l ad cp) (hk : Kept w w') : GpIn w' b off l ad cp :=
  ⟨fun j hj => hk.cell (h.pos j hj), fun j hj => hk.cell (h.sec j hj), fun j hj k hk' => let ⟨bj, oj, h1, h2⟩ := h.at_ j hj k hk'; ⟨bj, oj, h1, fun k hk2 => hk.cell (h2 k hk2)⟩⟩

def prev {α : Type} (f : Nat → α) (k : Nat) : Option α := if k = 0 then none else some (f (k - 1))

set_option maxHeartbeats 8000000 in
theorem chk_walk (nm : ByteArray → Bool) (hsz : ∀ s, nm s = true → s.size ≤ 8) (l : List Gp) (b off cap : Nat) (ad : Nat → Option Addr) (cp : Nat → Nat) (w : World) (hnm : ∀ (s : ByteArray) (w1 : World), Kept w w1 → Calls Try.prog 22 #[.string s] w1 fun e w' => e = .returned (.bool (nm s)) ∧ Kept w1 w')
    (hl : GpIn w b off l ad cp) :
    Calls Try.prog 11 #[.slice (some ⟨b, off, none⟩) l.length cap] w fun e w' => e = .returned (.int .i64 (chk nm l)) ∧ Kept w w' := by
  have hmm := @run_makeMap Try.prog
  have hle : ∀ (x y : ByteArray) (w : World), (binOp .leq 9 (.string x) (.string y)).run Try.prog w = .ok (.bool (leB x y)) w := fun _ _ _ => rfl
  have hlss : ∀ (x y : ByteArray) (w : World), (binOp .lss 9 (.string x) (.string y)).run Try.prog w = .ok (.bool (ltB x y)) w := fun _ _ _ => rfl
  go_enter Try.func11, Try.ntmps11
  go_wp2
  · go_ret
    have h12 : (12 : Int) < l.length := by assumption
    refine ⟨?_, Kept.refl _⟩
    unfold chk
    rw [show Nat.ble 13 l.length = true from Nat.ble_eq_true_of_le (by omega)]
    rfl
  have h12 : ((l.length : Nat) : Int) ≤ 12 := by assumption
  have hch : chk nm l = chkG nm [] none l := by
    unfold chk
    rw [show Nat.ble 13 l.length = false by rw [← Bool.not_eq_true, Nat.ble_eq]; omega]
    rfl
  generalize hpk : (fun j => (l.getD j (ByteArray.empty, [])).1) = pk
  go_loopw [14] (fun i wr => ∃ (k : Nat) (acc : List ByteArray), k ≤ l.length ∧ i = .int .i64 k ∧ wr.ownsMap Try.prog 9 (plainElem Try.prog 3) w.heap.size acc.length (seen acc) ∧ Kept w wr ∧ acc.length ≤ 12 ∧ Maps.size (seen acc) = acc.length ∧ chk nm l = chkG nm acc (prev pk k) (l.drop k))
    (fun i _ => l.length - (intOf i).toNat)
  case atStart => exact ⟨0, [], Nat.zero_le _, rfl, World.ownsMap_made _ _ _ _, Kept.alloc _ _, Nat.zero_le _, rfl, hch⟩
  case round =>
    obtain ⟨k, acc, hk, rfl, hown, hkept, hacc, hsize, hE⟩ := hrel
    obtain ⟨wo, hwo⟩ : ∃ x, x = wr := ⟨wr, rfl⟩
    subst hwo
    by_cases hlt : k < l.length
    · -- a position
      have hdrop : l.drop k = l.getD k (ByteArray.empty, []) :: l.drop (k + 1) := by
        rw [List.drop_eq_getElem_cons hlt]; simp [List.getD, hlt]
      rw [hdrop] at hE
      have hm0 := (hl.kept hkept).pos k hlt
      have hm1 := (hl.kept hkept).sec k hlt
      have hm2 := hl.at_ k hlt
      have hpv : 0 < k → wo.cell? ⟨b, off + (k - 1) * 2, none⟩ = some (.string (pk (k - 1))) := fun _ => by
        have := (hl.kept hkept).pos (k - 1) (by omega)
        rw [this, ← hpk]
      obtain ⟨p, hp⟩ : ∃ p, (l.getD k (ByteArray.empty, [])).1 = p := ⟨_, rfl⟩
      obtain ⟨xs, hxs⟩ : ∃ xs, (l.getD k (ByteArray.empty, [])).2 = xs := ⟨_, rfl⟩
      have hpp : pk k = p := by rw [← hpk, ← hp]
      rw [hp] at hm0
      rw [hxs] at hm1 hm2
      unfold chkG at hE
      rw [hp, hxs] at hE
      clear hdrop hp hxs
      go_wp2_with (first
        | (go_at_call 22; refine (hnm _ _ (hkept.trans (Kept.alloc _ _))).mono ?_; rintro e1 w1 ⟨rfl, hk1⟩)
        | go_in)
      · go_ret
        have hn : (!nm p) = true := by assumption
        rw [hn] at hE
        refine ⟨by rw [hE]; rfl, (hkept.trans (Kept.alloc _ _)).trans hk1⟩
      · have hn : (!nm p) = false := by assumption
        rw [hn, cond_false] at hE
        have hb0 : w1.cell? ⟨wo.heap.size, 0, none⟩ = some (.string p) := hk1.cell (cell_new _ _ _ rfl)
        have hb1 : w1.cell? ⟨wo.heap.size, 1, none⟩ = some (.slice (ad k) xs.length (cp k)) := hk1.cell (cell_new _ _ _ rfl)
        have hkw := (Kept.alloc wo (.cells #[.string p, .slice (ad k) xs.length (cp k)] 40)).trans hk1
        have hown1 := hown.kept hkw.grown (by simp)
        have hkept1 := hkept.trans hkw
        by_cases hk0 : k = 0
        · subst hk0
          go_quiet (fail)
          go_wp2
          rw [show (match prev pk 0 with | some p_1 => leB p p_1 | none => false) = false from rfl, cond_false] at hE
          · go_ret
            have hx : (((xs.length : Nat) : Int) == 0) = true := by assumption
            have hxe : xs = [] := List.eq_nil_of_length_eq_zero (by have := eq_of_beq hx; omega)
            rw [hxe] at hE
            exact ⟨by rw [hE]; rfl, hkept1.trans (Kept.drewN _ _)⟩
          have hx : (((xs.length : Nat) : Int) == 0) = false := by assumption
          have hx0 : 0 < xs.length := by
            rcases Nat.eq_zero_or_pos xs.length with g | g
            · rw [g] at hx; cases hx
            · exact g
          have hE2 : chk nm l = chkK nm p (l.drop (0 + 1)) (chkS nm acc none xs) := by
            rw [hE]
            cases hxs : xs with
            | nil => rw [hxs] at hx0; cases hx0
            | cons y ys => rfl
          obtain ⟨bj, oj, had, hcell⟩ := hm2 0 hx0
          simp only [had] at hb1
          simp only [had, hn, hx]
          have hgm : w.heap.size < wo.heap.size := hown.lt
          go_loopw [43] (fun i w2 => ∃ (j : Nat) (acc2 : List ByteArray), j ≤ xs.length ∧ i = .int .i64 j ∧ j ≤ acc2.length ∧ w2.ownsMap Try.prog 9 (plainElem Try.prog 3) w.heap.size acc2.length (seen acc2) ∧ Kept w w2 ∧ wo.heap.size < w2.heap.size ∧ w2.cell? ⟨wo.heap.size, 1, none⟩ = some (.slice (some ⟨bj, oj, none⟩) xs.length (cp 0)) ∧ acc2.length ≤ 12 ∧ Maps.size (seen acc2) = acc2.length ∧
              chk nm l = chkK nm p (l.drop (0 + 1)) (chkS nm acc2 (prev (fun j => xs.getD j ByteArray.empty) j) (xs.drop j)))
            (fun i _ => xs.length - (intOf i).toNat)
          case atStart => exact ⟨0, acc, Nat.zero_le _, rfl, Nat.zero_le _, hown1, hkept1.trans (Kept.drewN _ _), Nat.lt_of_lt_of_le (alloc_lt _ _) hk1.below.size, hb1, hacc, hsize, hE2⟩
          case round =>
            obtain ⟨j, acc2, hj, rfl, hja, hown2, hkept2, hgb, hc5, hacc2, hsize2, hE3⟩ := hrel
            obtain ⟨w2, hw2⟩ : ∃ x, x = wr := ⟨wr, rfl⟩
            subst hw2
            by_cases hjl : j < xs.length
            · obtain ⟨x, hxx⟩ : ∃ x, xs.getD j ByteArray.empty = x := ⟨_, rfl⟩
              have hdx : xs.drop j = x :: xs.drop (j + 1) := by
                rw [List.drop_eq_getElem_cons hjl, ← hxx]; simp [List.getD, hjl]
              have hcx : w2.cell? ⟨bj, oj + j, none⟩ = some (.string x) := by rw [← hxx]; exact hkept2.cell (hcell j hjl)
              rw [hdx] at hE3
              unfold chkS at hE3
              cases hbn : nm x with
              | false =>
                have hn : ∀ w1, Kept w w1 → Calls Try.prog 22 #[.string x] w1 fun e w' => e = .returned (.bool false) ∧ Kept w1 w' := fun w1 h => by have := hnm x w1 h; rwa [hbn] at this
                rw [hbn] at hE3
                go_wp2_with (first
                  | (go_at_call 22; refine (hn _ hkept2).mono ?_; rintro e1 w3 ⟨rfl, hk3⟩)
                  | go_in)
                go_ret
                exact ⟨by rw [hE3]; exact congrArg (fun z => Ending.returned (.int .i64 z)) (chkK_inl _ _ _ _).symm, hkept2.trans hk3⟩
              | true =>
                have hn : ∀ w1, Kept w w1 → Calls Try.prog 22 #[.string x] w1 fun e w' => e = .returned (.bool true) ∧ Kept w1 w' := fun w1 h => by have := hnm x w1 h; rwa [hbn] at this
                have hkey : keyOf Try.prog 9 (.string x) = some (kl x) := keyOf_string_mk cfU9 (by have := hsz x hbn; unfold maxLen; omega)
                rw [hbn] at hE3
                cases hmem : mem acc2 x with
                | true =>
                  rw [hmem] at hE3
                  go_wp2_with (first
                    | (go_at_call 22; refine (hn _ hkept2).mono ?_; rintro e1 w3 ⟨rfl, hk3⟩)
                    | (at_lookup; refine wpList_look rfl _ _ rfl cfLaw cfU56 cfU3 (cfZ3 _) (seen acc2) rfl (hown2.kept hk3.grown (by simp)) _ (kl x) rfl hkey 1 (at_hit' hmem) ?_)
                    | (at_mapUpdate; refine wpList_put rfl _ _ _ rfl cfLaw cfU56 cfU3 (seen acc2) rfl (hown2.kept hk3.grown (by simp)) (by unfold maxLen; omega) _ (kl x) rfl hkey 1 rfl (by decide) ?_; intro w4 hown4 hgrow4 hd4; rw [← seen_snoc] at hown4; have hlen4 := hown4.len cfU56 3; rw [size_seen hmem, hsize2] at hlen4)
                    | go_in)
                  go_ret
                  exact ⟨by rw [hE3]; exact congrArg (fun z => Ending.returned (.int .i64 z)) (chkK_inl _ _ _ _).symm, hkept2.trans hk3⟩
                | false =>
                  rw [hmem] at hE3
                  rcases Nat.eq_zero_or_pos j with hj0 | hj0
                  · subst hj0
                    have hcx0 : w2.cell? ⟨bj, oj, none⟩ = some (.string x) := hcx
                    rw [show (match prev (fun j => xs.getD j ByteArray.empty) 0 with | some p => ltB x p | none => false) = false from rfl] at hE3
                    simp only [Bool.not_true, Bool.or_false, cond_false] at hE3
                    go_wp2_with (first
                      | (go_at_call 22; refine (hn _ hkept2).mono ?_; rintro e1 w3 ⟨rfl, hk3⟩)
                      | (at_lookup; refine wpList_look rfl _ _ rfl cfLaw cfU56 cfU3 (cfZ3 _) (seen acc2) rfl (hown2.kept hk3.grown (by simp)) _ (kl x) rfl hkey 0 (at_miss hmem) ?_)
                      | (at_mapUpdate; refine wpList_put rfl _ _ _ rfl cfLaw cfU56 cfU3 (seen acc2) rfl (hown2.kept hk3.grown (by simp)) (by unfold maxLen; omega) _ (kl x) rfl hkey 1 rfl (by decide) ?_; intro w4 hown4 hgrow4 hd4; rw [← seen_snoc] at hown4; have hlen4 := hown4.len cfU56 3; rw [size_seen hmem, hsize2] at hlen4)
                      | go_in)
                    · go_ret
                      have hbig : (12 : Int) < ((acc2.length + 1 : Nat) : Int) := by
                        have : (12 : Int) < ((acc2.length : Nat) : Int) + 1 := by assumption
                        omega
                      rw [show Nat.ble 13 (acc2.length + 1) = true from Nat.ble_eq_true_of_le (by omega)] at hE3
                      refine ⟨by rw [hE3]; exact congrArg (fun z => Ending.returned (.int .i64 z)) (chkK_inl _ _ _ _).symm, ?_⟩
                      exact (hkept2.trans hk3).grownBy hgrow4 hd4 (Nat.le_refl _)
                    · have hbig : ((acc2.length + 1 : Nat) : Int) ≤ 12 := by
                        have : ((acc2.length : Nat) : Int) + 1 ≤ 12 := by assumption
                        omega
                      rw [show Nat.ble 13 (acc2.length + 1) = false by rw [← Bool.not_eq_true, Nat.ble_eq]; omega] at hE3
                      refine ⟨?_, ?measure⟩
                      iterate 37 (apply Exists.intro)
                      refine ⟨?rel, rfl⟩
                      case rel =>
                        refine ⟨0 + 1, acc2 ++ [x], by omega, by go_num, by rw [List.length_append, List.length_singleton]; omega, ?_, (hkept2.trans hk3).grownBy hgrow4 hd4 (Nat.le_refl _), ?_, ?_, ?_, ?_, ?_⟩
                        · rw [List.length_append, List.length_singleton]; exact hown4
                        · exact Nat.lt_of_lt_of_le (Nat.lt_of_lt_of_le hgb hk3.below.size) hgrow4.size
                        · have e1 := hk3.cell hc5
                          rw [← e1]
                          exact World.cell?_of_block (hgrow4.block _ (Nat.lt_of_lt_of_le hgb hk3.below.size) (by simp; omega))
                        · rw [List.length_append, List.length_singleton]; omega
                        · rw [size_seen hmem, hsize2, List.length_append, List.length_singleton]
                        · rw [hE3]
                          simp only [cond_false]
                          rw [show prev (fun j => xs.getD j ByteArray.empty) (0 + 1) = some x by unfold prev; simp [← hxx]]
                      case measure => simp [intOf]; omega
                  · obtain ⟨j', rfl⟩ : ∃ j', j = j' + 1 := ⟨j - 1, by omega⟩
                    rw [show (match prev (fun j => xs.getD j ByteArray.empty) (j' + 1) with | some p => ltB x p | none => false) = ltB x (xs.getD j' ByteArray.empty) from rfl] at hE3
                    obtain ⟨y, hyy⟩ : ∃ y, xs.getD j' ByteArray.empty = y := ⟨_, rfl⟩
                    have hcy : w2.cell? ⟨bj, oj + j', none⟩ = some (.string y) := by rw [← hyy]; exact hkept2.cell (hcell j' (by omega))
                    have i0 : IntKind.i64.wrap ((j' : Nat) : Int) = ((j' : Nat) : Int) := by rw [IntKind.wrap_i64]; omega
                    rw [hyy] at hE3
                    simp only [Bool.not_true, Bool.false_or, cond_false] at hE3
                    go_wp2_with (first
                      | (go_at_call 22; refine (hn _ hkept2).mono ?_; rintro e1 w3 ⟨rfl, hk3⟩; have hc53 := hk3.cell hc5; have hcy3 := hk3.cell hcy)
                      | (at_lookup; refine wpList_look rfl _ _ rfl cfLaw cfU56 cfU3 (cfZ3 _) (seen acc2) rfl (hown2.kept hk3.grown (by simp)) _ (kl x) rfl hkey 0 (at_miss hmem) ?_)
                      | (at_mapUpdate; refine wpList_put rfl _ _ _ rfl cfLaw cfU56 cfU3 (seen acc2) rfl (hown2.kept hk3.grown (by simp)) (by unfold maxLen; omega) _ (kl x) rfl hkey 1 rfl (by decide) ?_; intro w4 hown4 hgrow4 hd4; rw [← seen_snoc] at hown4; have hlen4 := hown4.len cfU56 3; rw [size_seen hmem, hsize2] at hlen4)
                      | go_in)
                    · go_ret
                      have hlt1 : ltB x y = true := by assumption
                      rw [hlt1] at hE3
                      exact ⟨by rw [hE3]; exact congrArg (fun z => Ending.returned (.int .i64 z)) (chkK_inl _ _ _ _).symm, hkept2.trans hk3⟩
                    all_goals have hlt1 : ltB x y = false := by assumption
                    all_goals simp only [hlt1, cond_false] at hE3
                    · go_ret
                      have hbig : (12 : Int) < ((acc2.length + 1 : Nat) : Int) := by
                        have : (12 : Int) < ((acc2.length : Nat) : Int) + 1 := by assumption
                        omega
                      rw [show Nat.ble 13 (acc2.length + 1) = true from Nat.ble_eq_true_of_le (by omega)] at hE3
                      refine ⟨by rw [hE3]; exact congrArg (fun z => Ending.returned (.int .i64 z)) (chkK_inl _ _ _ _).symm, ?_⟩
                      exact (hkept2.trans hk3).grownBy hgrow4 hd4 (Nat.le_refl _)
                    · have hbig : ((acc2.length + 1 : Nat) : Int) ≤ 12 := by
                        have : ((acc2.length : Nat) : Int) + 1 ≤ 12 := by assumption
                        omega
                      rw [show Nat.ble 13 (acc2.length + 1) = false by rw [← Bool.not_eq_true, Nat.ble_eq]; omega] at hE3
                      refine ⟨?_, ?measureB⟩
                      iterate 37 (apply Exists.intro)
                      refine ⟨?relB, rfl⟩
                      case relB =>
                        refine ⟨j' + 1 + 1, acc2 ++ [x], by omega, by go_num, by rw [List.length_append, List.length_singleton]; omega, ?_, (hkept2.trans hk3).grownBy hgrow4 hd4 (Nat.le_refl _), ?_, ?_, ?_, ?_, ?_⟩
                        · rw [List.length_append, List.length_singleton]; exact hown4
                        · exact Nat.lt_of_lt_of_le (Nat.lt_of_lt_of_le hgb hk3.below.size) hgrow4.size
                        · have e1 := hk3.cell hc5
                          rw [← e1]
                          exact World.cell?_of_block (hgrow4.block _ (Nat.lt_of_lt_of_le hgb hk3.below.size) (by simp; omega))
                        · rw [List.length_append, List.length_singleton]; omega
                        · rw [size_seen hmem, hsize2, List.length_append, List.length_singleton]
                        · rw [hE3]
                          simp only [cond_false]
                          rw [show prev (fun j => xs.getD j ByteArray.empty) (j' + 1 + 1) = some x by unfold prev; simp [← hxx]]
                      case measureB => simp [intOf]; omega
            · have hj' : j = xs.length := by omega
              go_wp2
              refine ⟨⟨0 + 1, acc2, by omega, by go_num, hown2, hkept2, hacc2, hsize2, ?_⟩, ?_⟩
              · rw [hE3, show xs.drop j = [] from List.drop_eq_nil_of_le (by omega)]
                rw [show prev pk (0 + 1) = some p by unfold prev; simp [hpp]]
                exact chkK_inr _ _ _ _
              · simp [intOf]; omega
        · obtain ⟨k', rfl⟩ : ∃ k', k = k' + 1 := ⟨k - 1, by omega⟩
          have hpv1 : w1.cell? ⟨b, off + k' * 2, none⟩ = some (.string (pk k')) := hkw.cell (by have := hpv (by omega); rwa [Nat.add_sub_cancel] at this)
          have i1 : (0 : Int) < ((k' + 1 : Nat) : Int) := by omega
          have i2 : (0 : Int) ≤ ((k' : Nat) : Int) := by omega
          have i0 : IntKind.i64.wrap ((k' : Nat) : Int) = ((k' : Nat) : Int) := by rw [IntKind.wrap_i64]; omega
          have i3 : ((k' : Nat) : Int) < ((l.length : Nat) : Int) := by omega
          rw [show (match prev pk (k' + 1) with | some p_1 => leB p p_1 | none => false) = leB p (pk k') from rfl] at hE
          go_quiet (fail)
          go_wp2
          · go_ret
            have hle1 : leB p (pk k') = true := by assumption
            rw [hle1] at hE
            exact ⟨by rw [hE]; rfl, hkept1.trans (Kept.drewN _ _)⟩
          all_goals have hle1 : leB p (pk k') = false := by assumption
          all_goals simp only [hle1, cond_false] at hE
          · go_ret
            have hx : (((xs.length : Nat) : Int) == 0) = true := by assumption
            have hxe : xs = [] := List.eq_nil_of_length_eq_zero (by have := eq_of_beq hx; omega)
            rw [hxe] at hE
            exact ⟨by rw [hE]; rfl, hkept1.trans (Kept.drewN _ _)⟩
          have hx : (((xs.length : Nat) : Int) == 0) = false := by assumption
          have hx0 : 0 < xs.length := by
            rcases Nat.eq_zero_or_pos xs.length with g | g
            · rw [g] at hx; cases hx
            · exact g
          have hE2 : chk nm l = chkK nm p (l.drop (k' + 1 + 1)) (chkS nm acc none xs) := by
            rw [hE]
            cases hxs : xs with
            | nil => rw [hxs] at hx0; cases hx0
            | cons y ys => rfl
          obtain ⟨bj, oj, had, hcell⟩ := hm2 0 hx0
          simp only [had] at hb1
          simp only [had, hn, hx, hle1]
          have hgm : w.heap.size < wo.heap.size := hown.lt
          go_loopw [43] (fun i w2 => ∃ (j : Nat) (acc2 : List ByteArray), j ≤ xs.length ∧ i = .int .i64 j ∧ j ≤ acc2.length ∧ w2.ownsMap Try.prog 9 (plainElem Try.prog 3) w.heap.size acc2.length (seen acc2) ∧ Kept w w2 ∧ wo.heap.size < w2.heap.size ∧ w2.cell? ⟨wo.heap.size, 1, none⟩ = some (.slice (some ⟨bj, oj, none⟩) xs.length (cp (k' + 1))) ∧ acc2.length ≤ 12 ∧ Maps.size (seen acc2) = acc2.length ∧
              chk nm l = chkK nm p (l.drop (k' + 1 + 1)) (chkS nm acc2 (prev (fun j => xs.getD j ByteArray.empty) j) (xs.drop j)))
            (fun i _ => xs.length - (intOf i).toNat)
          case atStart => exact ⟨0, acc, Nat.zero_le _, rfl, Nat.zero_le _, hown1, hkept1.trans (Kept.drewN _ _), Nat.lt_of_lt_of_le (alloc_lt _ _) hk1.below.size, hb1, hacc, hsize, hE2⟩
          case round =>
            obtain ⟨j, acc2, hj, rfl, hja, hown2, hkept2, hgb, hc5, hacc2, hsize2, hE3⟩ := hrel
            obtain ⟨w2, hw2⟩ : ∃ x, x = wr := ⟨wr, rfl⟩
            subst hw2
            by_cases hjl : j < xs.length
            · obtain ⟨x, hxx⟩ : ∃ x, xs.getD j ByteArray.empty = x := ⟨_, rfl⟩
              have hdx : xs.drop j = x :: xs.drop (j + 1) := by
                rw [List.drop_eq_getElem_cons hjl, ← hxx]; simp [List.getD, hjl]
              have hcx : w2.cell? ⟨bj, oj + j, none⟩ = some (.string x) := by rw [← hxx]; exact hkept2.cell (hcell j hjl)
              rw [hdx] at hE3
              unfold chkS at hE3
              cases hbn : nm x with
              | false =>
                have hn : ∀ w1, Kept w w1 → Calls Try.prog 22 #[.string x] w1 fun e w' => e = .returned (.bool false) ∧ Kept w1 w' := fun w1 h => by have := hnm x w1 h; rwa [hbn] at this
                rw [hbn] at hE3
                go_wp2_with (first
                  | (go_at_call 22; refine (hn _ hkept2).mono ?_; rintro e1 w3 ⟨rfl, hk3⟩)
                  | go_in)
                go_ret
                exact ⟨by rw [hE3]; exact congrArg (fun z => Ending.returned (.int .i64 z)) (chkK_inl _ _ _ _).symm, hkept2.trans hk3⟩
              | true =>
                have hn : ∀ w1, Kept w w1 → Calls Try.prog 22 #[.string x] w1 fun e w' => e = .returned (.bool true) ∧ Kept w1 w' := fun w1 h => by have := hnm x w1 h; rwa [hbn] at this
                have hkey : keyOf Try.prog 9 (.string x) = some (kl x) := keyOf_string_mk cfU9 (by have := hsz x hbn; unfold maxLen; omega)
                rw [hbn] at hE3
                cases hmem : mem acc2 x with
                | true =>
                  rw [hmem] at hE3
                  go_wp2_with (first
                    | (go_at_call 22; refine (hn _ hkept2).mono ?_; rintro e1 w3 ⟨rfl, hk3⟩)
                    | (at_lookup; refine wpList_look rfl _ _ rfl cfLaw cfU56 cfU3 (cfZ3 _) (seen acc2) rfl (hown2.kept hk3.grown (by simp)) _ (kl x) rfl hkey 1 (at_hit' hmem) ?_)
                    | (at_mapUpdate; refine wpList_put rfl _ _ _ rfl cfLaw cfU56 cfU3 (seen acc2) rfl (hown2.kept hk3.grown (by simp)) (by unfold maxLen; omega) _ (kl x) rfl hkey 1 rfl (by decide) ?_; intro w4 hown4 hgrow4 hd4; rw [← seen_snoc] at hown4; have hlen4 := hown4.len cfU56 3; rw [size_seen hmem, hsize2] at hlen4)
                    | go_in)
                  go_ret
                  exact ⟨by rw [hE3]; exact congrArg (fun z => Ending.returned (.int .i64 z)) (chkK_inl _ _ _ _).symm, hkept2.trans hk3⟩
                | false =>
                  rw [hmem] at hE3
                  rcases Nat.eq_zero_or_pos j with hj0 | hj0
                  · subst hj0
                    have hcx0 : w2.cell? ⟨bj, oj, none⟩ = some (.string x) := hcx
                    rw [show (match prev (fun j => xs.getD j ByteArray.empty) 0 with | some p => ltB x p | none => false) = false from rfl] at hE3
                    simp only [Bool.not_true, Bool.or_false, cond_false] at hE3
                    go_wp2_with (first
                      | (go_at_call 22; refine (hn _ hkept2).mono ?_; rintro e1 w3 ⟨rfl, hk3⟩)
                      | (at_lookup; refine wpList_look rfl _ _ rfl cfLaw cfU56 cfU3 (cfZ3 _) (seen acc2) rfl (hown2.kept hk3.grown (by simp)) _ (kl x) rfl hkey 0 (at_miss hmem) ?_)
                      | (at_mapUpdate; refine wpList_put rfl _ _ _ rfl cfLaw cfU56 cfU3 (seen acc2) rfl (hown2.kept hk3.grown (by simp)) (by unfold maxLen; omega) _ (kl x) rfl hkey 1 rfl (by decide) ?_; intro w4 hown4 hgrow4 hd4; rw [← seen_snoc] at hown4; have hlen4 := hown4.len cfU56 3; rw [size_seen hmem, hsize2] at hlen4)
                      | go_in)
                    · go_ret
                      have hbig : (12 : Int) < ((acc2.length + 1 : Nat) : Int) := by
                        have : (12 : Int) < ((acc2.length : Nat) : Int) + 1 := by assumption
                        omega
                      rw [show Nat.ble 13 (acc2.length + 1) = true from Nat.ble_eq_true_of_le (by omega)] at hE3
                      refine ⟨by rw [hE3]; exact congrArg (fun z => Ending.returned (.int .i64 z)) (chkK_inl _ _ _ _).symm, ?_⟩
                      exact (hkept2.trans hk3).grownBy hgrow4 hd4 (Nat.le_refl _)
                    · have hbig : ((acc2.length + 1 : Nat) : Int) ≤ 12 := by
                        have : ((acc2.length : Nat) : Int) + 1 ≤ 12 := by assumption
                        omega
                      rw [show Nat.ble 13 (acc2.length + 1) = false by rw [← Bool.not_eq_true, Nat.ble_eq]; omega] at hE3
                      refine ⟨?_, ?measure⟩
                      iterate 37 (apply Exists.intro)
                      refine ⟨?rel, rfl⟩
                      case rel =>
                        refine ⟨0 + 1, acc2 ++ [x], by omega, by go_num, by rw [List.length_append, List.length_singleton]; omega, ?_, (hkept2.trans hk3).grownBy hgrow4 hd4 (Nat.le_refl _), ?_, ?_, ?_, ?_, ?_⟩
                        · rw [List.length_append, List.length_singleton]; exact hown4
                        · exact Nat.lt_of_lt_of_le (Nat.lt_of_lt_of_le hgb hk3.below.size) hgrow4.size
                        · have e1 := hk3.cell hc5
                          rw [← e1]
                          exact World.cell?_of_block (hgrow4.block _ (Nat.lt_of_lt_of_le hgb hk3.below.size) (by simp; omega))
                        · rw [List.length_append, List.length_singleton]; omega
                        · rw [size_seen hmem, hsize2, List.length_append, List.length_singleton]
                        · rw [hE3]
                          simp only [cond_false]
                          rw [show prev (fun j => xs.getD j ByteArray.empty) (0 + 1) = some x by unfold prev; simp [← hxx]]
                      case measure => simp [intOf]; omega
                  · obtain ⟨j', rfl⟩ : ∃ j', j = j' + 1 := ⟨j - 1, by omega⟩
                    rw [show (match prev (fun j => xs.getD j ByteArray.empty) (j' + 1) with | some p => ltB x p | none => false) = ltB x (xs.getD j' ByteArray.empty) from rfl] at hE3
                    obtain ⟨y, hyy⟩ : ∃ y, xs.getD j' ByteArray.empty = y := ⟨_, rfl⟩
                    have hcy : w2.cell? ⟨bj, oj + j', none⟩ = some (.string y) := by rw [← hyy]; exact hkept2.cell (hcell j' (by omega))
                    have i0 : IntKind.i64.wrap ((j' : Nat) : Int) = ((j' : Nat) : Int) := by rw [IntKind.wrap_i64]; omega
                    rw [hyy] at hE3
                    simp only [Bool.not_true, Bool.false_or, cond_false] at hE3
                    go_wp2_with (first
                      | (go_at_call 22; refine (hn _ hkept2).mono ?_; rintro e1 w3 ⟨rfl, hk3⟩; have hc53 := hk3.cell hc5; have hcy3 := hk3.cell hcy)
                      | (at_lookup; refine wpList_look rfl _ _ rfl cfLaw cfU56 cfU3 (cfZ3 _) (seen acc2) rfl (hown2.kept hk3.grown (by simp)) _ (kl x) rfl hkey 0 (at_miss hmem) ?_)
                      | (at_mapUpdate; refine wpList_put rfl _ _ _ rfl cfLaw cfU56 cfU3 (seen acc2) rfl (hown2.kept hk3.grown (by simp)) (by unfold maxLen; omega) _ (kl x) rfl hkey 1 rfl (by decide) ?_; intro w4 hown4 hgrow4 hd4; rw [← seen_snoc] at hown4; have hlen4 := hown4.len cfU56 3; rw [size_seen hmem, hsize2] at hlen4)
                      | go_in)
                    · go_ret
                      have hlt1 : ltB x y = true := by assumption
                      rw [hlt1] at hE3
                      exact ⟨by rw [hE3]; exact congrArg (fun z => Ending.returned (.int .i64 z)) (chkK_inl _ _ _ _).symm, hkept2.trans hk3⟩
                    all_goals have hlt1 : ltB x y = false := by assumption
                    all_goals simp only [hlt1, cond_false] at hE3
                    · go_ret
                      have hbig : (12 : Int) < ((acc2.length + 1 : Nat) : Int) := by
                        have : (12 : Int) < ((acc2.length : Nat) : Int) + 1 := by assumption
                        omega
                      rw [show Nat.ble 13 (acc2.length + 1) = true from Nat.ble_eq_true_of_le (by omega)] at hE3
                      refine ⟨by rw [hE3]; exact congrArg (fun z => Ending.returned (.int .i64 z)) (chkK_inl _ _ _ _).symm, ?_⟩
                      exact (hkept2.trans hk3).grownBy hgrow4 hd4 (Nat.le_refl _)
                    · have hbig : ((acc2.length + 1 : Nat) : Int) ≤ 12 := by
                        have : ((acc2.length : Nat) : Int) + 1 ≤ 12 := by assumption
                        omega
                      rw [show Nat.ble 13 (acc2.length + 1) = false by rw [← Bool.not_eq_true, Nat.ble_eq]; omega] at hE3
                      refine ⟨?_, ?measureB⟩
                      iterate 37 (apply Exists.intro)
                      refine ⟨?relB, rfl⟩
                      case relB =>
                        refine ⟨j' + 1 + 1, acc2 ++ [x], by omega, by go_num, by rw [List.length_append, List.length_singleton]; omega, ?_, (hkept2.trans hk3).grownBy hgrow4 hd4 (Nat.le_refl _), ?_, ?_, ?_, ?_, ?_⟩
                        · rw [List.length_append, List.length_singleton]; exact hown4
                        · exact Nat.lt_of_lt_of_le (Nat.lt_of_lt_of_le hgb hk3.below.size) hgrow4.size
                        · have e1 := hk3.cell hc5
                          rw [← e1]
                          exact World.cell?_of_block (hgrow4.block _ (Nat.lt_of_lt_of_le hgb hk3.below.size) (by simp; omega))
                        · rw [List.length_append, List.length_singleton]; omega
                        · rw [size_seen hmem, hsize2, List.length_append, List.length_singleton]
                        · rw [hE3]
                          simp only [cond_false]
                          rw [show prev (fun j => xs.getD j ByteArray.empty) (j' + 1 + 1) = some x by unfold prev; simp [← hxx]]
                      case measureB => simp [intOf]; omega
            · have hj' : j = xs.length := by omega
              go_wp2
              refine ⟨⟨k' + 1 + 1, acc2, by omega, by go_num, hown2, hkept2, hacc2, hsize2, ?_⟩, ?_⟩
              · rw [hE3, show xs.drop j = [] from List.drop_eq_nil_of_le (by omega)]
                rw [show prev pk (k' + 1 + 1) = some p by unfold prev; simp [hpp]]
                exact chkK_inr _ _ _ _
              · simp [intOf]; omega
    · have hk' : k = l.length := by omega
      go_wp2
      go_ret
      rw [List.drop_eq_nil_of_le (by omega)] at hE
      unfold chkG at hE
      exact ⟨by rw [hE]; rfl, hkept⟩

/-- No position. -/
theorem chk_none (A : Option Addr) (c : Nat) (w : World) : Calls Try.prog 11 #[.slice A 0 c] w fun e w' => e = .returned (.int .i64 0) ∧ Kept w w' := by
  have hmm := @run_makeMap Try.prog
  go_enter Try.func11, Try.ntmps11
  go_wp2
  refine wp_loop_rounds 1 ?_
  rw [rounds_succ]
  go_wp2
  go_ret
  exact ⟨rfl, Kept.alloc _ _⟩


/-- 'append' of a row of the call's own, with what is said of draws. -/
theorem run_append_d {P : Program} {w : World} (base : Nat) (t ty e : TypeId) (i : TypeInfo) (z : Value) (size bytes : Nat) (ht : P.underlying t = some (.slice e)) (hi : P.info? e = some i) (hz : i.zero = some z)
    (hsize : i.size = size) (hby : i.bytes = bytes) (hzs : z.cells.size = size) (hsz : 0 < size)
    (v : Value) (n : Nat) (xs : List Value) (hown : w.ownsRow base e size v n xs)
    (ad : Addr) (m c : Nat) (news : List Value) (hl : news.length = m * size) (hnews : ∀ j u, news[j]? = some u → w.cell? (ad.add j) = some u) (h1 : ∀ u ∈ news, u.oneCell' = true)
    (hm : 0 < m) (h63 : n + m ≤ maxLen) (hbytes : (n + m) * bytes ≤ 140737488355328) (hbase : base ≤ w.heap.size) :
    ∃ g cap w', (Builtin.append_ #[t, t] ty #[v, .slice (some ad) m c]).run P w = .ok (.slice (some ⟨g, 0, none⟩) (n + m) cap) w' ∧ w'.ownsRow base e size (.slice (some ⟨g, 0, none⟩) (n + m) cap) (n + m) (xs ++ news) ∧
      w.grownBy w' v.ownBlock ∧ (v.ownBlock = some g ∨ g = w.heap.size) ∧ g < w'.heap.size ∧ w.drawn ≤ w'.drawn := by
  obtain ⟨g, cap, w', hrun, r1, r2, r3, r4⟩ := run_append_lies w t ty base e i z size bytes ht hi hz hsize hby hzs hsz v n xs hown ad m c news hl hnews h1 hm h63 hbytes hbase _ rfl
  refine ⟨g, cap, w', hrun, r1, r2, r3, r4, ?_⟩
  have hmx : maxLen = 9223372036854775807 := rfl
  have hsrc : Go.Src P i.size t (.slice (some ad) m c) m news w := Go.Src.ofSlice w ht ad m c news (by rw [hsize]; exact hl) hnews h1
  obtain ⟨hxl, ⟨rfl, rfl⟩ | ⟨g0, cap0, cur, rfl, hb0, hg0, hn0, hc0, hs0, ht0⟩⟩ := hown
  · have hr := run_append_grow_src (P := P) w t t ty e i z ht hi hz none 0 0 [] (by simp [Builtin.firstCells]) _ _ news hsrc (by omega) (by rw [hmx] at h63; omega) (growslice_fits (by omega) (by rw [hby]; exact hbytes))
    rw [hrun] at hr
    cases hr
    exact Nat.le_succ _
  · by_cases hroom : n + m ≤ cap0
    · have hr := run_append_room (P := P) w t ty e i ht hi g0 n cap0 cur hg0 ad m c news (by rw [hsize]; exact hl) hnews h1 hroom (by
        rw [hsize, hl, hs0, ← Nat.add_mul]
        exact Nat.mul_le_mul_right _ hroom)
      rw [hrun] at hr
      cases hr
      exact Nat.le_refl _
    · have hr := run_append_grow_src (P := P) w t t ty e i z ht hi hz (some ⟨g0, 0, none⟩) n cap0 xs (by
        refine run_firstCells_some (P := P) w.drew i.size n ⟨g0, 0, none⟩ n cap0 _ (by rw [hxl, hsize]) (fun j u hv => ?_)
        rw [show (⟨g0, 0, none⟩ : Addr).add j = ⟨g0, j, none⟩ by unfold Addr.add; split <;> simp_all]
        rw [cell_of_row w.drew g0 j cur e (0, 0) hg0]
        rw [← ht0, List.getElem?_take] at hv
        split at hv
        · simpa using hv
        · cases hv) _ _ news hsrc (by omega) (by rw [hmx] at h63; omega) (growslice_fits (by omega) (by rw [hby]; exact hbytes))
      rw [hrun] at hr
      cases hr
      exact Nat.le_succ _

/-- .. at an operation. -/
theorem wp_append_d {P : Program} {w : World} {o : Oper} {a : Act} {K : Act → World → Prop} {Q : Exit → Act → World → Prop} (s x : Operand) (t : TypeId) (ho : o.op = .call { callee := .builtin .append, args := #[s, x], argTypes := #[t, t] })
    (base : Nat) (e : TypeId) (i : TypeInfo) (z : Value) (size bytes : Nat) (ht : P.underlying t = some (.slice e)) (hi : P.info? e = some i) (hz : i.zero = some z)
    (hsize : i.size = size) (hby : i.bytes = bytes) (hzs : z.cells.size = size) (hsz : 0 < size)
    (v : Value) (n : Nat) (xs : List Value) (hs : a.eval s = v) (hown : w.ownsRow base e size v n xs)
    (ad : Addr) (m c : Nat) (news : List Value) (hx : a.eval x = .slice (some ad) m c) (hl : news.length = m * size) (hnews : ∀ j u, news[j]? = some u → w.cell? (ad.add j) = some u) (h1 : ∀ u ∈ news, u.oneCell' = true)
    (hm : 0 < m) (h63 : n + m ≤ maxLen) (hbytes : (n + m) * bytes ≤ 140737488355328) (hbase : base ≤ w.heap.size)
    (h : ∀ g cap w', w'.ownsRow base e size (.slice (some ⟨g, 0, none⟩) (n + m) cap) (n + m) (xs ++ news) → w.grownBy w' v.ownBlock → (v.ownBlock = some g ∨ g = w.heap.size) → g < w'.heap.size → w.drawn ≤ w'.drawn → K (a.put o.dst (.slice (some ⟨g, 0, none⟩) (n + m) cap)) w') :
    Oper.wp P o a w K Q := by
  obtain ⟨g, cap, w', hrun, r1, r2, r3, r4, r5⟩ := run_append_d (P := P) (w := w) base t o.type e i z size bytes ht hi hz hsize hby hzs hsz v n xs hown ad m c news hl hnews h1 hm h63 hbytes hbase
  unfold Oper.wp
  simp [execOp, ho, resolve, invoke, builtin, hs, hx, hrun, Result.andThen]
  exact h g cap w' r1 r2 r3 r4 r5

theorem step_append_d {P : Program} {w : World} {ops : Array Oper} {o : Oper} {a : Act} {K : Act → World → Prop} {Q : Exit → Act → World → Prop} {E : Prop} (hgd : o.guard = none) (s x : Operand) (t : TypeId) (ho : o.op = .call { callee := .builtin .append, args := #[s, x], argTypes := #[t, t] })
    (base : Nat) (e : TypeId) (i : TypeInfo) (z : Value) (size bytes : Nat) (ht : P.underlying t = some (.slice e)) (hi : P.info? e = some i) (hz : i.zero = some z)
    (hsize : i.size = size) (hby : i.bytes = bytes) (hzs : z.cells.size = size) (hsz : 0 < size)
    (v : Value) (n : Nat) (xs : List Value) (hs : a.eval s = v) (hown : w.ownsRow base e size v n xs)
    (ad : Addr) (m c : Nat) (news : List Value) (hx : a.eval x = .slice (some ad) m c) (hl : news.length = m * size) (hnews : ∀ j u, news[j]? = some u → w.cell? (ad.add j) = some u) (h1 : ∀ u ∈ news, u.oneCell' = true)
    (hm : 0 < m) (h63 : n + m ≤ maxLen) (hbytes : (n + m) * bytes ≤ 140737488355328) (hbase : base ≤ w.heap.size)
    (h : ∀ g cap w', w'.ownsRow base e size (.slice (some ⟨g, 0, none⟩) (n + m) cap) (n + m) (xs ++ news) → w.grownBy w' v.ownBlock → (v.ownBlock = some g ∨ g = w.heap.size) → g < w'.heap.size → w.drawn ≤ w'.drawn → K (a.put o.dst (.slice (some ⟨g, 0, none⟩) (n + m) cap)) w') :
    if Region.wanted o (yielded ops a.tmps) = true then Oper.wp P o a w K Q else E := by
  have hw : Region.wanted o (yielded ops a.tmps) = true := by simp [Region.wanted, hgd]
  rw [if_pos hw]
  exact wp_append_d s x t ho base e i z size bytes ht hi hz hsize hby hzs hsz v n xs hs hown ad m c news hx hl hnews h1 hm h63 hbytes hbase h


def gp0 : Gp := (ByteArray.empty, [])
/-- The cells of copies: a name, a slice over a block of its own. -/
def cellsV : List Gp → List (Nat × Nat) → List Value
  | p :: l, q :: gc => .string p.1 :: .slice (some ⟨q.1, 0, none⟩) p.2.length q.2 :: cellsV l gc
  | _, _ => []

theorem cellsV_append : ∀ (l : List Gp) (gc : List (Nat × Nat)) (p : Gp) (q : Nat × Nat), gc.length = l.length → cellsV (l ++ [p]) (gc ++ [q]) = cellsV l gc ++ [.string p.1, .slice (some ⟨q.1, 0, none⟩) p.2.length q.2]
  | [], [], p, q, _ => rfl
  | a :: l, b :: gc, p, q, h => by
    simp only [List.cons_append, cellsV]
    rw [cellsV_append l gc p q (by simpa using h)]
  | [], _ :: _, _, _, h => by cases h
  | _ :: _, [], _, _, h => by cases h

/-- A copy of some names. -/
structure SecAt (w : World) (base : Nat) (xs : List ByteArray) (q : Nat × Nat) : Prop where
  le : base ≤ q.1
  row : ∃ cur : Array Value, w.heap[q.1]? = some (.cells cur 9 (0, 0)) ∧ cur.size = q.2 ∧ xs.length ≤ q.2 ∧ q.2 ≤ maxLen ∧ ∀ i, i < xs.length → cur[i]? = some (.string (xs.getD i ByteArray.empty))

structure Copies (w : World) (base : Nat) (l : List Gp) (gc : List (Nat × Nat)) (ov : Value) : Prop where
  row : w.ownsRow base 40 2 ov l.length (cellsV l gc)
  len : gc.length = l.length
  sec : ∀ j, j < l.length → SecAt w base (l.getD j gp0).2 (gc.getD j (0, 0))
  nd : (gc.map Prod.fst).Nodup
  far : ∀ g ∈ gc.map Prod.fst, ov.ownBlock ≠ some g

theorem SecAt.block {w w' : World} {base : Nat} {xs : List ByteArray} {q : Nat × Nat} (h : SecAt w base xs q) (e : w'.heap[q.1]? = w.heap[q.1]?) : SecAt w' base xs q := by
  obtain ⟨h1, cur, h2, h3⟩ := h
  exact ⟨h1, cur, e.trans h2, h3⟩
theorem SecAt.lt {w : World} {base : Nat} {xs : List ByteArray} {q : Nat × Nat} (h : SecAt w base xs q) : q.1 < w.heap.size := by
  obtain ⟨_, cur, h2, _⟩ := h
  rcases Nat.lt_or_ge q.1 w.heap.size with g | g
  · exact g
  · rw [Array.getElem?_eq_none g] at h2; cases h2

theorem Copies.kept {w w' : World} {base : Nat} {l : List Gp} {gc : List (Nat × Nat)} {ov : Value} (h : Copies w base l gc ov) (hk : Kept w w') : Copies w' base l gc ov := by
  refine ⟨?_, h.len, fun j hj => (h.sec j hj).block (hk.below.block _ (h.sec j hj).lt), h.nd, h.far⟩
  obtain ⟨h1, h2 | ⟨g, cap, cur, h2, h3, h4, h5⟩⟩ := h.row
  · exact ⟨h1, .inl h2⟩
  · refine ⟨h1, .inr ⟨g, cap, cur, h2, h3, ?_, h5⟩⟩
    have hlt : g < w.heap.size := by
      rcases Nat.lt_or_ge g w.heap.size with q | q
      · exact q
      · rw [Array.getElem?_eq_none q] at h4; cases h4
    rw [hk.below.block g hlt]; exact h4

theorem Copies.ownLt {w : World} {base : Nat} {l : List Gp} {gc : List (Nat × Nat)} {ov : Value} (h : Copies w base l gc ov) {x : Nat} (e : ov.ownBlock = some x) : x < w.heap.size := by
  obtain ⟨h1, ⟨rfl, _⟩ | ⟨g', cap, cur, rfl, h3, h4, h5⟩⟩ := h.row
  · cases e
  · have e : some g' = some x := e
    obtain rfl : g' = x := Option.some.inj e
    rcases Nat.lt_or_ge g' w.heap.size with q | q
    · exact q
    · rw [Array.getElem?_eq_none q] at h4; cases h4

theorem Copies.ownGe {w : World} {base : Nat} {l : List Gp} {gc : List (Nat × Nat)} {ov : Value} (h : Copies w base l gc ov) {x : Nat} (e : ov.ownBlock = some x) : base ≤ x := by
  obtain ⟨h1, ⟨rfl, _⟩ | ⟨g', cap, cur, rfl, h3, h4, h5⟩⟩ := h.row
  · cases e
  · have e : some g' = some x := e
    obtain rfl : g' = x := Option.some.inj e
    exact h3
theorem Kept.grownRow {a w w' : World} (h : Kept a w) {row : Option Nat} (hg : w.grownBy w' row) (hd : w.drawn ≤ w'.drawn) (hb : ∀ k, row = some k → a.heap.size ≤ k) : Kept a w' :=
  ⟨h.below.grown hg h.below.size hb, Nat.le_trans h.drawn hd⟩

theorem getD_take {α : Type} {l : List α} {k j : Nat} {d : α} (h : j < k) : (l.take k).getD j d = l.getD j d := by
  simp [List.getD, h]

/-- One copy more. -/
theorem Copies.snoc {w2 w' : World} {base : Nat} {l : List Gp} {gc : List (Nat × Nat)} {ov : Value} (h : Copies w2 base l gc ov) (p : Gp) (q : Nat × Nat) (hq : SecAt w2 base p.2 q) (hnew : ∀ g ∈ gc.map Prod.fst, g ≠ q.1) (hov : ov.ownBlock ≠ some q.1)
    {g cap : Nat} (hrow : w'.ownsRow base 40 2 (.slice (some ⟨g, 0, none⟩) (l.length + 1) cap) (l.length + 1) (cellsV l gc ++ [.string p.1, .slice (some ⟨q.1, 0, none⟩) p.2.length q.2])) (hg : w2.grownBy w' ov.ownBlock) (hat : ov.ownBlock = some g ∨ w2.heap.size ≤ g) :
    Copies w' base (l ++ [p]) (gc ++ [q]) (.slice (some ⟨g, 0, none⟩) (l.length + 1) cap) := by
  have keep : ∀ x, x < w2.heap.size → ov.ownBlock ≠ some x → w'.heap[x]? = w2.heap[x]? := fun x hx hne => hg.block x hx (fun e => hne e.symm)
  refine ⟨?_, by rw [List.length_append, List.length_append, h.len]; rfl, fun j hj => ?_, ?_, ?_⟩
  · rw [cellsV_append l gc p q h.len, List.length_append, List.length_singleton]; exact hrow
  · rw [List.length_append, List.length_singleton] at hj
    by_cases e : j < l.length
    · have hs := h.sec j e
      rw [show (l ++ [p]).getD j gp0 = l.getD j gp0 by simp [List.getD, List.getElem?_append_left e], show (gc ++ [q]).getD j (0, 0) = gc.getD j (0, 0) by simp [List.getD, List.getElem?_append_left (show j < gc.length by rw [h.len]; exact e)]]
      refine hs.block (keep _ hs.lt (h.far _ ?_))
      have : j < gc.length := by rw [h.len]; exact e
      rw [show gc.getD j (0, 0) = gc[j] by simp [List.getD, this]]
      exact List.mem_map_of_mem (List.getElem_mem this)
    · obtain rfl : j = l.length := by omega
      rw [show (l ++ [p]).getD l.length gp0 = p by simp [List.getD], show (gc ++ [q]).getD l.length (0, 0) = q by rw [← h.len]; simp [List.getD]]
      exact hq.block (keep _ hq.lt hov)
  · rw [List.map_append, List.map_singleton, List.nodup_append]
    exact ⟨h.nd, by simp, fun a ha b hb => by rw [List.mem_singleton.1 hb]; exact hnew a ha⟩
  · intro x hx e
    rw [List.map_append, List.mem_append] at hx
    change some g = some x at e
    cases e
    rcases hat with hat | hat
    · rcases hx with hx | hx
      · exact h.far g hx hat
      · rw [List.map_singleton, List.mem_singleton] at hx
        exact hov (hx ▸ hat)
    · rcases hx with hx | hx
      · obtain ⟨r, hr, e⟩ := List.mem_map.1 hx
        obtain ⟨j, hj, e2⟩ := List.getElem_of_mem hr
        have := (h.sec j (by rw [← h.len]; exact hj)).lt
        rw [show gc.getD j (0, 0) = gc[j] by simp [List.getD, hj], e2, e] at this
        omega
      · rw [List.map_singleton, List.mem_singleton] at hx
        have := hq.lt
        omega

theorem info40 : (Try.prog.info? 40).map (fun i => (i.zero, i.size, i.bytes)) = some (some (.agg #[.string ByteArray.empty, .slice none 0 0]), 2, 40) := by kernel_rfl
theorem cfU22 : Try.prog.underlying 22 = some (.slice 40) := by kernel_rfl

set_option maxHeartbeats 8000000 in
theorem clone_walk (l : List Gp) (b off cap : Nat) (ad : Nat → Option Addr) (cp : Nat → Nat) (w : World)
    (hcl : ∀ (j : Nat) (w1 : World), j < l.length → Kept w w1 → Calls Try.prog 28 #[.slice (ad j) (l.getD j gp0).2.length (cp j)] w1 fun e w' => ∃ q : Nat × Nat, e = .returned (.slice (some ⟨q.1, 0, none⟩) (l.getD j gp0).2.length q.2) ∧ SecAt w' w1.heap.size (l.getD j gp0).2 q ∧ Kept w1 w')
    (hl : GpIn w b off l ad cp) (hlen : l.length ≤ 1000) (hne : ∀ j, j < l.length → 0 < (l.getD j gp0).2.length) :
    Calls Try.prog 20 #[.slice (some ⟨b, off, none⟩) l.length cap] w fun e w' => ∃ v gc, e = .returned v ∧ Copies w' w.heap.size l gc v ∧ Kept w w' := by
  obtain ⟨i0, hi, hz0, hz1, hz2⟩ := info_parts info40
  go_enter Try.func20, Try.ntmps20
  go_wp2
  go_loopw [3, 8] (fun v i wr => ∃ (k : Nat) (gc : List (Nat × Nat)), k ≤ l.length ∧ i = .int .i64 k ∧ Copies wr w.heap.size (l.take k) gc v ∧ Kept w wr)
    (fun _ i _ => l.length - (intOf i).toNat)
  case atStart => exact ⟨0, [], Nat.zero_le _, rfl, ⟨World.ownsRow_nil _ _ _ _, rfl, fun j hj => by simp at hj, List.Pairwise.nil, fun g hg => by cases hg⟩, Kept.refl _⟩
  case round =>
    obtain ⟨k, gc, hk, rfl, hcop, hkept⟩ := hrel
    by_cases hlt : k < l.length
    · have hm0 := (hl.kept hkept).pos k hlt
      have hm1 := (hl.kept hkept).sec k hlt
      have hn := hne k hlt
      obtain ⟨bj, oj, had, hcell⟩ := hl.at_ k hlt 0 hn
      rw [had] at hm1
      have hcl2 := fun w1 => hcl k w1 hlt
      rw [had] at hcl2
      change ∀ w1, Kept w w1 → Calls Try.prog 28 #[.slice (some ⟨bj, oj, none⟩) (l.getD k (ByteArray.empty, [])).2.length (cp k)] w1 fun e w' => ∃ q : Nat × Nat, e = .returned (.slice (some ⟨q.1, 0, none⟩) (l.getD k (ByteArray.empty, [])).2.length q.2) ∧ SecAt w' w1.heap.size (l.getD k (ByteArray.empty, [])).2 q ∧ Kept w1 w' at hcl2
      obtain ⟨p, hp⟩ : ∃ p, (l.getD k (ByteArray.empty, [])).1 = p := ⟨_, rfl⟩
      obtain ⟨xs, hxs⟩ : ∃ xs, (l.getD k (ByteArray.empty, [])).2 = xs := ⟨_, rfl⟩
      change 0 < (l.getD k (ByteArray.empty, [])).2.length at hn
      rw [hp] at hm0
      rw [hxs] at hm1 hcell hn hcl2
      have htl : (l.take k).length = k := by rw [List.length_take]; omega
      go_wp2
      have hfar : some wr.heap.size ≠ u3.ownBlock := fun e => Nat.lt_irrefl _ (hcop.ownLt e.symm)
      have hkd : Kept wr (wr.alloc (.cells #[.string p, .slice (some ⟨bj, oj, none⟩) xs.length (cp k)] 40)).drew := ⟨⟨rfl, rfl, rfl, Nat.le_of_lt (alloc_lt _ _), fun j hj => Below.heap_alloc _ _ _ hj⟩, Nat.le_succ _⟩
      go_region_held3 (fun w' => w'.cell? ⟨wr.heap.size, 0, none⟩ = some (.string p) ∧ w'.cell? ⟨wr.heap.size, 1, none⟩ = some (.slice (some ⟨bj, oj, none⟩) xs.length (cp k)))
        (first | exact ⟨hS0, hS1⟩ | exact ⟨cell_new _ _ _ rfl, cell_new _ _ _ rfl⟩ | exact ⟨hk1.cell (cell_new _ _ _ rfl), hk1.cell (cell_new _ _ _ rfl)⟩ | go_keep)
        (first
          | (go_at_call 28; refine (hcl2 _ (hkept.trans hkd)).mono ?_; rintro e w1 ⟨q, rfl, hq, hk1⟩)
          | (refine step_append_d rfl _ _ _ rfl w.heap.size 40 i0 _ 2 40 cfU22 hi hz0 hz1 hz2 rfl (by omega) u3 k (cellsV (l.take k) gc) rfl (by have := ((hcop.kept (hkd.trans hk1)).row); rw [htl] at this; exact this.alloc _) ⟨w1.heap.size, 0, none⟩ 1 1 [.string p, .slice (some ⟨q.1, 0, none⟩) xs.length q.2] rfl rfl (World.news_of_block (cs := #[.string p, .slice (some ⟨q.1, 0, none⟩) xs.length q.2]) (t := 40) (fr := (0, 0)) (heap_alloc_new w1 _)) (by simp [Value.oneCell']) (by omega) (by unfold maxLen; omega) (by omega) (by have h1 := hkept.below.size; have h2 := hkd.below.size; have h3 := hk1.below.size; have h4 := alloc_lt w1 (.cells #[.string p, .slice (some ⟨q.1, 0, none⟩) xs.length q.2] 40); omega) ?_; intro g cap3 w3 hrow3 hgrow3 hat3 hlt3 hd3;
              have hfl : wr.heap.size < (w1.alloc (.cells #[.string p, .slice (some ⟨q.1, 0, none⟩) xs.length q.2] 40)).heap.size := Nat.lt_of_lt_of_le (Nat.lt_of_lt_of_le (alloc_lt _ _) hk1.below.size) (Nat.le_of_lt (alloc_lt _ _));
              have hS0 : w3.cell? ⟨wr.heap.size, 0, none⟩ = some (.string p) := (hgrow3.cell_far ⟨wr.heap.size, 0, none⟩ hfl hfar).trans ((Kept.alloc _ _).cell (hk1.cell (cell_new _ _ _ rfl)));
              have hS1 : w3.cell? ⟨wr.heap.size, 1, none⟩ = some (.slice (some ⟨bj, oj, none⟩) xs.length (cp k)) := (hgrow3.cell_far ⟨wr.heap.size, 1, none⟩ hfl hfar).trans ((Kept.alloc _ _).cell (hk1.cell (cell_new _ _ _ rfl)))))
      have hk4 : Kept wr (w1.alloc (.cells #[.string p, .slice (some ⟨q.1, 0, none⟩) xs.length q.2] 40)) := hkd.trans (hk1.trans (Kept.alloc _ _))
      have hcop4 := hcop.kept hk4
      have hq4 : SecAt (w1.alloc (.cells #[.string p, .slice (some ⟨q.1, 0, none⟩) xs.length q.2] 40)) w.heap.size xs q := by
        have h1 := hq.block (w' := w1.alloc (.cells #[.string p, .slice (some ⟨q.1, 0, none⟩) xs.length q.2] 40)) (Below.heap_alloc _ _ _ hq.lt)
        exact ⟨Nat.le_trans (Nat.le_trans hkept.below.size hkd.below.size) h1.le, h1.row⟩
      have hqw : wr.heap.size ≤ q.1 := Nat.le_trans hkd.below.size hq.le
      have htk : l.take (k + 1) = l.take k ++ [(p, xs)] := by
        rw [List.take_succ_eq_append_getElem hlt]
        have : l[k] = (p, xs) := by
          have h1 : l.getD k (ByteArray.empty, []) = l[k] := by simp [List.getD, hlt]
          rw [h1] at hp hxs
          exact Prod.ext hp hxs
        rw [this]
      have hfin := hcop4.snoc (w' := w3) (p, xs) q hq4 (fun x hx e => by
        obtain ⟨r, hr, e1⟩ := List.mem_map.1 hx
        obtain ⟨j, hj, e2⟩ := List.getElem_of_mem hr
        have h3 := (hcop.sec j (by rw [← hcop.len]; exact hj)).lt
        rw [show gc.getD j (0, 0) = gc[j] by simp [List.getD, hj], e2, e1] at h3
        omega) (fun e => by have := hcop.ownLt e; omega) (g := g) (cap := cap3) (by rw [htl]; exact hrow3) hgrow3 (hat3.imp (fun h => h) (fun h => Nat.le_of_eq h.symm))
      rw [htl, ← htk] at hfin
      have hkf : Kept w w3 := (hkept.trans hk4).grownRow hgrow3 hd3 (fun x e => hcop.ownGe e)
      clear hcop4 hq4 hcop hrow3 hgrow3 hat3
      go_wp2
      refine ⟨⟨k + 1, gc ++ [q], by omega, by go_num, hfin, hkf⟩, ?_⟩
      simp [intOf]; omega
    · have hk' : k = l.length := by omega
      go_wp2
      go_ret
      subst hk'
      rw [List.take_length] at hcop
      exact ⟨_, gc, rfl, hcop, hkept⟩
theorem clone_none (A : Option Addr) (c : Nat) (w : World) : Calls Try.prog 20 #[.slice A 0 c] w fun e w' => e = .returned (.slice none 0 0) ∧ Kept w w' := by
  go_enter Try.func20, Try.ntmps20
  go_wp2
  refine wp_loop_rounds 1 ?_
  rw [rounds_succ]
  go_wp2
  go_ret
  exact ⟨rfl, Kept.refl _⟩



/-- A row of names. -/
structure NamesAt (w : World) (xs : List ByteArray) (g c : Nat) : Prop where
  row : ∃ cur : Array Value, w.heap[g]? = some (.cells cur 9 (0, 0)) ∧ cur.size = c ∧ xs.length ≤ c ∧ c ≤ maxLen ∧ ∀ i, i < xs.length → cur[i]? = some (.string (xs.getD i ByteArray.empty))

/-- Positions of the call's own, each with names in a block of the call's own. -/
structure Whole (w : World) (base : Nat) (l : List Gp) (g cap : Nat) (hc : Nat → Nat × Nat) : Prop where
  ge : base ≤ g
  row : ∃ cur : Array Value, w.heap[g]? = some (.cells cur 40 (0, 0)) ∧ cur.size = cap * 2 ∧ l.length ≤ cap ∧ cap ≤ maxLen ∧
    ∀ j, j < l.length → cur[j * 2]? = some (.string (l.getD j gp0).1) ∧ cur[j * 2 + 1]? = some (.slice (some ⟨(hc j).1, 0, none⟩) (l.getD j gp0).2.length (hc j).2)
  names : ∀ j, j < l.length → base ≤ (hc j).1 ∧ (hc j).1 ≠ g ∧ NamesAt w (l.getD j gp0).2 (hc j).1 (hc j).2

theorem cellsV_at : ∀ (l : List Gp) (gc : List (Nat × Nat)), gc.length = l.length → ∀ j, j < l.length → (cellsV l gc)[j * 2]? = some (.string (l.getD j gp0).1) ∧ (cellsV l gc)[j * 2 + 1]? = some (.slice (some ⟨(gc.getD j (0, 0)).1, 0, none⟩) (l.getD j gp0).2.length (gc.getD j (0, 0)).2)
  | [], _, _, j, hj => by cases hj
  | p :: l, [], h, _, _ => by cases h
  | p :: l, q :: gc, h, j, hj => by
    cases j with
    | zero => exact ⟨rfl, rfl⟩
    | succ j =>
      have := cellsV_at l gc (by simpa using h) j (by simpa using hj)
      rw [show (j + 1) * 2 = j * 2 + 1 + 1 by omega]
      exact this

theorem Copies.whole {w : World} {base : Nat} {l : List Gp} {gc : List (Nat × Nat)} {ov : Value} (h : Copies w base l gc ov) (hl : 0 < l.length) : ∃ g cap, ov = .slice (some ⟨g, 0, none⟩) l.length cap ∧ Whole w base l g cap (fun j => gc.getD j (0, 0)) := by
  obtain ⟨h1, ⟨rfl, h2⟩ | ⟨g, cap, cur, rfl, h3, h4, h5, h6, h7, h8⟩⟩ := h.row
  · omega
  refine ⟨g, cap, rfl, h3, ⟨cur, h4, h7, h5, h6, fun j hj => ?_⟩, fun j hj => ?_⟩
  · have hh := cellsV_at l gc h.len j hj
    rw [← h8, List.getElem?_take, if_pos (by omega), List.getElem?_take, if_pos (by omega), Array.getElem?_toList, Array.getElem?_toList] at hh
    exact hh
  · have hs := h.sec j hj
    refine ⟨hs.le, fun e => ?_, ⟨hs.row⟩⟩
    have hj' : j < gc.length := by rw [h.len]; exact hj
    refine h.far (gc.getD j (0, 0)).1 ?_ (by rw [e]; rfl)
    rw [show gc.getD j (0, 0) = gc[j] by simp [List.getD, hj']]
    exact List.mem_map_of_mem (List.getElem_mem hj')

theorem info9 : (Try.prog.info? 9).map (fun i => (i.zero, i.size, i.bytes)) = some (some (.string ByteArray.empty), 1, 16) := by kernel_rfl
theorem cfU23 : Try.prog.underlying 23 = some (.slice 9) := by kernel_rfl
theorem NamesAt.owns {w : World} {base : Nat} {xs : List ByteArray} {g c : Nat} (h : NamesAt w xs g c) (hb : base ≤ g) : w.ownsRow base 9 1 (.slice (some ⟨g, 0, none⟩) xs.length c) xs.length (xs.map Value.string) := by
  obtain ⟨cur, h1, h2, h3, h4, h5⟩ := h
  refine ⟨by simp, .inr ⟨g, c, cur, rfl, hb, h1, h3, h4, by rw [h2, Nat.mul_one], ?_⟩⟩
  apply List.ext_getElem?
  intro i
  rw [List.getElem?_take]
  by_cases hi : i < xs.length
  · rw [if_pos (by omega), Array.getElem?_toList, h5 i hi]
    simp [List.getD, hi]
  · rw [if_neg (by omega)]
    simp [List.getElem?_eq_none (Nat.le_of_not_lt hi)]
theorem NamesAt.cell {w : World} {xs : List ByteArray} {g c : Nat} (h : NamesAt w xs g c) : ∀ j u, (xs.map Value.string)[j]? = some u → w.cell? ((⟨g, 0, none⟩ : Addr).add j) = some u := fun j u hu => by
  obtain ⟨cur, h1, h2, h3, h4, h5⟩ := h
  rw [show (⟨g, 0, none⟩ : Addr).add j = ⟨g, j, none⟩ by unfold Addr.add; split <;> simp_all, cell_of_row w g j cur 9 (0, 0) h1]
  rw [List.getElem?_map, Option.map_eq_some_iff] at hu
  obtain ⟨s, hs, rfl⟩ := hu
  have hj := (List.getElem?_eq_some_iff.1 hs).1
  rw [h5 j hj]
  simp [List.getD, hs]
theorem NamesAt.of_owns {w : World} {base : Nat} {xs : List ByteArray} {g c : Nat} (h : w.ownsRow base 9 1 (.slice (some ⟨g, 0, none⟩) xs.length c) xs.length (xs.map Value.string)) : base ≤ g ∧ NamesAt w xs g c := by
  obtain ⟨h1, ⟨h2, _⟩ | ⟨g', cap, cur, h2, h3, h4, h5, h6, h7, h8⟩⟩ := h
  · cases h2
  · cases h2
    refine ⟨h3, cur, h4, by rw [h7, Nat.mul_one], h5, h6, fun i hi => ?_⟩
    have : (cur.toList.take (xs.length * 1))[i]? = (xs.map Value.string)[i]? := by rw [h8]
    rw [List.getElem?_take, if_pos (by omega), Array.getElem?_toList] at this
    rw [this]
    simp [List.getD, hi]

theorem NamesAt.block {w w' : World} {xs : List ByteArray} {g c : Nat} (h : NamesAt w xs g c) (e : w'.heap[g]? = w.heap[g]?) : NamesAt w' xs g c := by
  obtain ⟨cur, h1, h2⟩ := h
  exact ⟨cur, e.trans h1, h2⟩
theorem NamesAt.lt {w : World} {xs : List ByteArray} {g c : Nat} (h : NamesAt w xs g c) : g < w.heap.size := by
  obtain ⟨cur, h1, h2⟩ := h
  rcases Nat.lt_or_ge g w.heap.size with q | q
  · exact q
  · rw [Array.getElem?_eq_none q] at h1; cases h1

theorem getD_set_same {α : Type} {l : List α} {i : Nat} {a d : α} (h : i < l.length) : (l.set i a).getD i d = a := by simp [List.getD, h]
theorem getD_set_other {α : Type} {l : List α} {i j : Nat} {a d : α} (h : j ≠ i) : (l.set i a).getD j d = l.getD j d := by simp [List.getD, List.getElem?_set_ne (Ne.symm h)]

theorem Whole.mono {w : World} {base base' : Nat} {l : List Gp} {g cap : Nat} {hc : Nat → Nat × Nat} (h : Whole w base l g cap hc) (hb : base' ≤ base) : Whole w base' l g cap hc :=
  ⟨Nat.le_trans hb h.ge, h.row, fun j hj => let ⟨a, b⟩ := h.names j hj; ⟨Nat.le_trans hb a, b⟩⟩

/-- One position's names are put in another row. -/
theorem Whole.put {w4 w5 : World} {base : Nat} {l : List Gp} {g0 cap0 : Nat} {hc : Nat → Nat × Nat} (hW : Whole w4 base l g0 cap0 hc) {i : Nat} (hi : i < l.length) (hd : ∀ j, j < l.length → j ≠ i → (hc j).1 ≠ (hc i).1)
    {ys : List ByteArray} {g5 cap5 : Nat} (hrow : w5.ownsRow base 9 1 (.slice (some ⟨g5, 0, none⟩) ys.length cap5) ys.length (ys.map Value.string)) (hg : w4.grownBy w5 (some (hc i).1)) (hat : some (hc i).1 = some g5 ∨ g5 = w4.heap.size) :
    Whole (w5.setCell ⟨g0, i * 2 + 1, none⟩ (.slice (some ⟨g5, 0, none⟩) ys.length cap5)) base (l.set i ((l.getD i gp0).1, ys)) g0 cap0 (fun j => if j = i then (g5, cap5) else hc j) := by
  obtain ⟨ge, ⟨cur, hcur, hcs, hlc, hcm, hcell⟩, hn⟩ := hW
  have hg0 : g0 < w4.heap.size := by
    rcases Nat.lt_or_ge g0 w4.heap.size with q | q
    · exact q
    · rw [Array.getElem?_eq_none q] at hcur; cases hcur
  have h5g : g5 ≠ g0 := by
    rcases hat with e | e
    · rw [← Option.some.inj e]; exact (hn i hi).2.1
    · omega
  have hcur5 : w5.heap[g0]? = some (.cells cur 40 (0, 0)) := (hg.block g0 hg0 (fun e => (hn i hi).2.1 (Option.some.inj e).symm)).trans hcur
  obtain ⟨b5, n5⟩ := NamesAt.of_owns hrow
  refine ⟨ge, ⟨cur.setIfInBounds (i * 2 + 1) (.slice (some ⟨g5, 0, none⟩) ys.length cap5), heap_setCell_same _ _ _ _ _ _ hcur5, by rw [Array.size_setIfInBounds]; exact hcs, by rw [List.length_set]; exact hlc, hcm, fun j hj => ?_⟩, fun j hj => ?_⟩
  · rw [List.length_set] at hj
    obtain ⟨a1, a2⟩ := hcell j hj
    by_cases e : j = i
    · subst e
      rw [getD_set_same hj, if_pos rfl, Array.getElem?_setIfInBounds_ne (by omega), Array.getElem?_setIfInBounds_self_of_lt (by omega)]
      exact ⟨a1, rfl⟩
    · rw [getD_set_other e, if_neg e, Array.getElem?_setIfInBounds_ne (by omega), Array.getElem?_setIfInBounds_ne (by omega)]
      exact ⟨a1, a2⟩
  · rw [List.length_set] at hj
    by_cases e : j = i
    · subst e
      rw [getD_set_same hj, if_pos rfl]
      exact ⟨b5, h5g, n5.block (heap_setCell_other _ _ _ _ h5g)⟩
    · rw [getD_set_other e, if_neg e]
      obtain ⟨c1, c2, c3⟩ := hn j hj
      exact ⟨c1, c2, (c3.block (hg.block _ c3.lt (fun q => hd j hj e (Option.some.inj q)))).block (heap_setCell_other _ _ _ _ c2)⟩

/-- One position's names are put in order in their place. -/
theorem Whole.sorted {w6 w7 : World} {base : Nat} {l : List Gp} {g0 cap0 : Nat} {hc : Nat → Nat × Nat} (hW : Whole w6 base l g0 cap0 hc) {i : Nat} (hi : i < l.length) (hd : ∀ j, j < l.length → j ≠ i → (hc j).1 ≠ (hc i).1)
    {ys : List ByteArray} (hl : ys.length = (l.getD i gp0).2.length) (hrow : NamesAt w7 ys (hc i).1 (hc i).2) (hg : w6.grownBy w7 (some (hc i).1)) : Whole w7 base (l.set i ((l.getD i gp0).1, ys)) g0 cap0 hc := by
  obtain ⟨ge, ⟨cur, hcur, hcs, hlc, hcm, hcell⟩, hn⟩ := hW
  have hg0 : g0 < w6.heap.size := by
    rcases Nat.lt_or_ge g0 w6.heap.size with q | q
    · exact q
    · rw [Array.getElem?_eq_none q] at hcur; cases hcur
  have hcur7 : w7.heap[g0]? = some (.cells cur 40 (0, 0)) := (hg.block g0 hg0 (fun e => (hn i hi).2.1 (Option.some.inj e).symm)).trans hcur
  refine ⟨ge, ⟨cur, hcur7, hcs, by rw [List.length_set]; exact hlc, hcm, fun j hj => ?_⟩, fun j hj => ?_⟩
  · rw [List.length_set] at hj
    obtain ⟨a1, a2⟩ := hcell j hj
    by_cases e : j = i
    · subst e
      rw [getD_set_same hj, hl]
      exact ⟨a1, a2⟩
    · rw [getD_set_other e]
      exact ⟨a1, a2⟩
  · rw [List.length_set] at hj
    obtain ⟨c1, c2, c3⟩ := hn j hj
    by_cases e : j = i
    · subst e
      rw [getD_set_same hj]
      exact ⟨c1, c2, hrow⟩
    · rw [getD_set_other e]
      exact ⟨c1, c2, c3.block (hg.block _ c3.lt (fun q => hd j hj e (Option.some.inj q)))⟩

theorem nodup_getD {gc : List (Nat × Nat)} (h : (gc.map Prod.fst).Nodup) {i j : Nat} (hi : i < gc.length) (hj : j < gc.length) (hne : j ≠ i) : (gc.getD j (0, 0)).1 ≠ (gc.getD i (0, 0)).1 := by
  rw [show gc.getD j (0, 0) = gc[j] by simp [List.getD, hj], show gc.getD i (0, 0) = gc[i] by simp [List.getD, hi]]
  intro e
  have h1 := List.pairwise_iff_getElem.1 h
  have hi' : i < (gc.map Prod.fst).length := by rw [List.length_map]; exact hi
  have hj' : j < (gc.map Prod.fst).length := by rw [List.length_map]; exact hj
  rcases Nat.lt_or_gt_of_ne hne with q | q
  · have := h1 j i hj' hi' q
    rw [List.getElem_map, List.getElem_map] at this
    exact this e
  · have := h1 i j hi' hj' q
    rw [List.getElem_map, List.getElem_map] at this
    exact this e.symm

/-- What Combine comes to. -/
def CombPost (ec : Int) (fd : ByteArray → Int) (to_ from_ : ByteArray) (w : World) (Fin : Value → World → Prop) (e : Ending) (w' : World) : Prop :=
  (ec ≠ 0 ∧ e = .returned (.tuple #[.slice none 0 0, .int .i64 ec]) ∧ Kept w w') ∨ (ec = 0 ∧ (fd to_ < 0 ∨ fd from_ < 0) ∧ e = .returned (.tuple #[.slice none 0 0, .int .i64 8]) ∧ Kept w w') ∨
  (ec = 0 ∧ ¬ (fd to_ < 0 ∨ fd from_ < 0) ∧ fd to_ = fd from_ ∧ e = .returned (.tuple #[.slice none 0 0, .int .i64 1]) ∧ Kept w w') ∨
  (ec = 0 ∧ ¬ (fd to_ < 0 ∨ fd from_ < 0) ∧ fd to_ ≠ fd from_ ∧ ∃ v', e = .returned (.tuple #[v', .int .i64 0]) ∧ Fin v' w')

set_option maxHeartbeats 16000000 in
theorem combine_walk (S : Value) (l : List Gp) (to_ from_ : ByteArray) (ec : Int) (fd : ByteArray → Int) (srt : List ByteArray → List ByteArray) (w : World) (Fin : Value → World → Prop)
    (hfd : ec = 0 → ∀ s, fd s < l.length) (hlen : ec = 0 → l.length ≤ 12) (hne : ec = 0 → ∀ j, j < l.length → 0 < (l.getD j gp0).2.length ∧ (l.getD j gp0).2.length ≤ 12)
    (hchk : ∀ w', Kept w w' → Calls Try.prog 11 #[S] w' fun e w'' => e = .returned (.int .i64 ec) ∧ Kept w' w'')
    (hfind : ec = 0 → ∀ s w', Kept w w' → Calls Try.prog 19 #[S, .string s] w' fun e w'' => e = .returned (.int .i64 (fd s)) ∧ Kept w' w'')
    (hsort : ∀ xs g c w', xs.length ≤ 24 → Kept w w' → w.heap.size ≤ g → NamesAt w' xs g c → Calls Try.prog 18 #[.slice (some ⟨g, 0, none⟩) xs.length c] w' fun e w'' => e = .returned (.tuple #[]) ∧ NamesAt w'' (srt xs) g c ∧ (srt xs).length = xs.length ∧ w'.grownBy w'' (some g) ∧ w'.drawn ≤ w''.drawn)
    (hdel : ∀ (i k : Nat) (w' : World) (g cap : Nat) (hc : Nat → Nat × Nat), fd to_ = i → fd from_ = k → i < l.length → k < l.length → i ≠ k → Kept w w' → Whole w' w.heap.size (l.set i ((l.getD i gp0).1, srt ((l.getD i gp0).2 ++ (l.getD k gp0).2))) g cap hc →
      Calls Try.prog 21 #[.slice (some ⟨g, 0, none⟩) l.length cap, .int .i64 k, .int .i64 (k + 1)] w' fun e w'' => ∃ v', e = .returned v' ∧ Fin v' w'')
    (hclone : ∀ w', Kept w w' → ec = 0 → 0 < l.length → Calls Try.prog 20 #[S] w' fun e w'' => ∃ v gc, e = .returned v ∧ Copies w'' w'.heap.size l gc v ∧ Kept w' w'') :
    Calls Try.prog 8 #[S, .string to_, .string from_] w (CombPost ec fd to_ from_ w Fin) := by
  obtain ⟨j0, hj, hy0, hy1, hy2⟩ := info_parts info9
  by_cases hec : ec = 0
  case neg =>
    go_enter Try.func8, Try.ntmps8
    go_wp2_with (first
      | (go_at_call 11; refine (hchk _ (Kept.refl _)).mono ?_; rintro e1 w1 ⟨rfl, hk1⟩)
      | go_in)
    all_goals first | (go_ret2; exact .inl ⟨hec, rfl, hk1⟩) | (exfalso; have : ec = 0 := (by assumption); exact hec this)
  subst hec
  replace hfd := hfd rfl
  replace hlen := hlen rfl
  replace hfind := hfind rfl
  have hne2 := hne rfl
  clear hne
  by_cases hneg : fd to_ < 0 ∨ fd from_ < 0
  · go_enter Try.func8, Try.ntmps8
    go_wp2_with (first
      | (go_at_call 11; refine (hchk _ (Kept.refl _)).mono ?_; rintro e1 w1 ⟨rfl, hk1⟩)
      | (go_at_call_of 19 (Value.string to_); refine (hfind to_ _ hk1).mono ?_; rintro e2 w2 ⟨rfl, hk2⟩)
      | (go_at_call_of 19 (Value.string from_); refine (hfind from_ _ (hk1.trans hk2)).mono ?_; rintro e3 w3 ⟨rfl, hk3⟩)
      | go_in)
    all_goals (go_ret2; exact .inr (.inl ⟨rfl, hneg, rfl, hk1.trans (hk2.trans hk3)⟩))
  obtain ⟨i, hi⟩ : ∃ i : Nat, fd to_ = i := ⟨(fd to_).toNat, by omega⟩
  obtain ⟨k, hk⟩ : ∃ k : Nat, fd from_ = k := ⟨(fd from_).toNat, by omega⟩
  have hil := hfd to_
  have hkl := hfd from_
  have hf1 : ∀ w', Kept w w' → Calls Try.prog 19 #[S, .string to_] w' fun e w'' => e = .returned (.int .i64 (i : Int)) ∧ Kept w' w'' := fun w' h => by rw [← hi]; exact hfind _ _ h
  have hf2 : ∀ w', Kept w w' → Calls Try.prog 19 #[S, .string from_] w' fun e w'' => e = .returned (.int .i64 (k : Int)) ∧ Kept w' w'' := fun w' h => by rw [← hk]; exact hfind _ _ h
  rw [hi] at hil
  rw [hk] at hkl
  have hcl2 : ∀ w', Kept w w' → Calls Try.prog 20 #[S] w' fun e w'' => ∃ v gc, e = .returned v ∧ Copies w'' w'.heap.size l gc v ∧ Kept w' w'' := fun w' h => hclone w' h rfl (by omega)
  by_cases hik : i = k
  · subst hik
    go_enter Try.func8, Try.ntmps8
    go_wp2_with (first
      | (go_at_call 11; refine (hchk _ (Kept.refl _)).mono ?_; rintro e1 w1 ⟨rfl, hk1⟩)
      | (go_at_call_of 19 (Value.string to_); refine (hf1 _ hk1).mono ?_; rintro e2 w2 ⟨rfl, hk2⟩)
      | (go_at_call_of 19 (Value.string from_); refine (hf2 _ (hk1.trans hk2)).mono ?_; rintro e3 w3 ⟨rfl, hk3⟩)
      | go_in)
    all_goals (go_ret2; exact .inr (.inr (.inl ⟨rfl, hneg, hi.trans hk.symm, rfl, hk1.trans (hk2.trans hk3)⟩)))
  go_enter Try.func8, Try.ntmps8
  go_wp2_with (first
    | (go_at_call 11; refine (hchk _ (Kept.refl _)).mono ?_; rintro e1 w1 ⟨rfl, hk1⟩)
    | (go_at_call_of 19 (Value.string to_); refine (hf1 _ hk1).mono ?_; rintro e2 w2 ⟨rfl, hk2⟩)
    | (go_at_call_of 19 (Value.string from_); refine (hf2 _ (hk1.trans hk2)).mono ?_; rintro e3 w3 ⟨rfl, hk3⟩)
    | (go_at_call 20; refine (hcl2 _ (hk1.trans (hk2.trans hk3))).mono ?_; rintro e4 w4 ⟨v, gc, rfl, hcop, hk4⟩)
    | go_in)
  obtain ⟨g0, cap0, rfl, hW⟩ := hcop.whole (by omega)
  obtain ⟨cur, hcur, hcs, hlc, hcm, hat⟩ := hW.row
  obtain ⟨ai1, ai2⟩ := hat i (by omega)
  obtain ⟨ak1, ak2⟩ := hat k (by omega)
  obtain ⟨bi1, bi2, bi3⟩ := hW.names i (by omega)
  obtain ⟨bk1, bk2, bk3⟩ := hW.names k (by omega)
  obtain ⟨ni1, ni2⟩ := hne2 i (by omega)
  obtain ⟨nk1, nk2⟩ := hne2 k (by omega)
  generalize hxi : (l.getD i gp0).2 = xi at ai2 bi3 ni1 ni2
  generalize hxk : (l.getD k gp0).2 = xk at ak2 bk3 nk1 nk2
  generalize hqi : gc.getD i (0, 0) = qi at ai2 bi1 bi2 bi3
  generalize hqk : gc.getD k (0, 0) = qk at ak2 bk1 bk2 bk3
  have ci : w4.cell? ⟨g0, i * 2 + 1, none⟩ = some (.slice (some ⟨qi.1, 0, none⟩) xi.length qi.2) := by rw [cell_of_row w4 g0 _ cur 40 (0, 0) hcur]; exact ai2
  have ck : w4.cell? ⟨g0, k * 2 + 1, none⟩ = some (.slice (some ⟨qk.1, 0, none⟩) xk.length qk.2) := by rw [cell_of_row w4 g0 _ cur 40 (0, 0) hcur]; exact ak2
  have hown := bi3.owns bi1
  have hg0 : g0 < w4.heap.size := by
    rcases Nat.lt_or_ge g0 w4.heap.size with g | g
    · exact g
    · rw [Array.getElem?_eq_none g] at hcur; cases hcur
  have hgq : some g0 ≠ (Value.slice (some ⟨qi.1, 0, none⟩) xi.length qi.2).ownBlock := fun e => bi2 (Option.some.inj (show some g0 = some qi.1 from e)).symm
  have fi : w4.frozen? ⟨g0, i * 2 + 1, none⟩ = false := by unfold World.frozen?; rw [hcur]; simp
  have i0 : (0 : Int) ≤ (i : Int) := by omega
  have k0 : (0 : Int) ≤ (k : Int) := by omega
  go_region_law (first
    | (refine step_append_d rfl _ _ _ rfl w3.heap.size 9 j0 _ 1 16 cfU23 hj hy0 hy1 hy2 rfl (by omega) (.slice (some ⟨qi.1, 0, none⟩) xi.length qi.2) xi.length (xi.map Value.string) rfl hown ⟨qk.1, 0, none⟩ xk.length qk.2 (xk.map Value.string) rfl (by simp) bk3.cell (by simp [Value.oneCell']) nk1 (by unfold maxLen; omega) (by omega) (hk4.below.size) ?_; intro g5 cap5 w5 hrow5 hgrow5 hat5 hlt5 hd5;
        have cs5 : w5.cell? ⟨g0, i * 2 + 1, none⟩ = some (.slice (some ⟨qi.1, 0, none⟩) xi.length qi.2) := (hgrow5.cell_far ⟨g0, i * 2 + 1, none⟩ hg0 hgq).trans ci;
        have fs5 : w5.frozen? ⟨g0, i * 2 + 1, none⟩ = false := (hgrow5.frozen_far ⟨g0, i * 2 + 1, none⟩ hg0 hgq).trans fi))
  all_goals
    have hdj : ∀ j, j < l.length → j ≠ i → (gc.getD j (0, 0)).1 ≠ (gc.getD i (0, 0)).1 := fun j hj hji => nodup_getD hcop.nd (by rw [hcop.len]; omega) (by rw [hcop.len]; exact hj) hji
    have hrow6 : w5.ownsRow w3.heap.size 9 1 (.slice (some ⟨g5, 0, none⟩) (xi ++ xk).length cap5) (xi ++ xk).length ((xi ++ xk).map Value.string) := by rw [List.map_append, List.length_append]; exact hrow5
    have hgq5 : w4.grownBy w5 (some (gc.getD i (0, 0)).1) := by rw [hqi]; exact ⟨hgrow5.os, hgrow5.tape, hgrow5.output, hgrow5.size, hgrow5.block⟩
    have hW6 := hW.put (by omega) hdj hrow6 hgq5 (by rw [hqi]; exact hat5)
    rw [List.length_append] at hW6
    have hk5 : Kept w w5 := (hk1.trans (hk2.trans (hk3.trans hk4))).grownBy (b := qi.1) ⟨hgrow5.os, hgrow5.tape, hgrow5.output, hgrow5.size, hgrow5.block⟩ (Nat.le_trans (Nat.le_succ _) hd5) (Nat.le_trans (Nat.le_trans hk1.below.size (Nat.le_trans hk2.below.size hk3.below.size)) bi1)
    have hk6 : Kept w (w5.setCell ⟨g0, i * 2 + 1, none⟩ (.slice (some ⟨g5, 0, none⟩) (xi.length + xk.length) cap5)) := ⟨hk5.below.setCell (Nat.le_trans (Nat.le_trans hk1.below.size (Nat.le_trans hk2.below.size hk3.below.size)) hW.ge) _, hk5.drawn⟩
    have hc6 : (w5.setCell ⟨g0, i * 2 + 1, none⟩ (.slice (some ⟨g5, 0, none⟩) (xi.length + xk.length) cap5)).cell? ⟨g0, i * 2 + 1, none⟩ = some (.slice (some ⟨g5, 0, none⟩) (xi.length + xk.length) cap5) := World.cell?_setCell_same _ _ _ cs5
    generalize w5.setCell ⟨g0, i * 2 + 1, none⟩ (.slice (some ⟨g5, 0, none⟩) (xi.length + xk.length) cap5) = w6 at hW6 hk6 hc6 ⊢
    have hn6 : NamesAt w6 (xi ++ xk) g5 cap5 := by
      have := (hW6.names i (by rw [List.length_set]; omega)).2.2
      rw [getD_set_same (by omega), if_pos rfl] at this
      exact this
    have hb3 : w.heap.size ≤ w3.heap.size := Nat.le_trans hk1.below.size (Nat.le_trans hk2.below.size hk3.below.size)
    have hb5 : w3.heap.size ≤ g5 := (NamesAt.of_owns hrow6).1
    have hso : ∀ w', w' = w6 → Calls Try.prog 18 #[.slice (some ⟨g5, 0, none⟩) (xi.length + xk.length) cap5] w' fun e w'' => e = .returned (.tuple #[]) ∧ NamesAt w'' (srt (xi ++ xk)) g5 cap5 ∧ (srt (xi ++ xk)).length = (xi ++ xk).length ∧ w'.grownBy w'' (some g5) ∧ w'.drawn ≤ w''.drawn := fun w' e => by
      subst e
      rw [← List.length_append]
      exact hsort _ _ _ _ (by have h1 := (hne2 i (by omega)).2; have h2 := (hne2 k (by omega)).2; rw [hxi] at h1; rw [hxk] at h2; rw [List.length_append]; omega) hk6 (Nat.le_trans hb3 hb5) hn6
    have hdj6 : ∀ j, j < (l.set i ((l.getD i gp0).1, xi ++ xk)).length → j ≠ i → ((fun j => if j = i then (g5, cap5) else gc.getD j (0, 0)) j).1 ≠ ((fun j => if j = i then (g5, cap5) else gc.getD j (0, 0)) i).1 := fun j hj hji e => by
      rw [List.length_set] at hj
      dsimp only at e
      rw [if_neg hji, if_pos rfl] at e
      rcases hat5 with q | q
      · exact hdj j hj hji (e.trans (by rw [hqi]; exact (Option.some.inj q).symm))
      · have := ((hW.names j hj).2.2).lt
        change g5 = w4.heap.size at q
        omega
    have hfin : ∀ w7, NamesAt w7 (srt (xi ++ xk)) g5 cap5 → (srt (xi ++ xk)).length = (xi ++ xk).length → w6.grownBy w7 (some g5) → w6.drawn ≤ w7.drawn → Kept w w7 ∧ ∃ hc, Whole w7 w.heap.size (l.set i ((l.getD i gp0).1, srt (xi ++ xk))) g0 cap0 hc := fun w7 hn7 hl7 hg7 hd7 => by
      refine ⟨hk6.grownBy hg7 hd7 (Nat.le_trans hb3 hb5), (fun j => if j = i then (g5, cap5) else gc.getD j (0, 0)), ?_⟩
      have := hW6.sorted (w7 := w7) (i := i) (by rw [List.length_set]; omega) hdj6 (ys := srt (xi ++ xk)) (by rw [getD_set_same (by omega)]; exact hl7) (by simpa using hn7) (by simpa using hg7)
      rw [getD_set_same (by omega), List.set_set] at this
      exact this.mono hb3
    clear hat5 hgrow5 hrow5 hrow6 hgq5 cs5 fs5 hcop hown hlt5
    go_wp2_with (first
      | (go_at_call 18; refine (hso _ rfl).mono ?_; rintro e7 w7 ⟨rfl, hn7, hl7, hg7, hd7⟩)
      | (go_at_call 21; obtain ⟨hk7, hc7, hW7⟩ := hfin w7 hn7 hl7 hg7 hd7; rw [← hxi, ← hxk] at hW7; refine (hdel i k w7 g0 cap0 hc7 hi hk (by omega) (by omega) hik hk7 hW7).mono ?_; rintro e8 w8 ⟨v', rfl, hF⟩)
      | go_in)
    go_ret2
    exact .inr (.inr (.inr ⟨rfl, hneg, fun e => hik (by omega), v', rfl, hF⟩))

end Go.Proofs.Ytkcphennphabgaa.RT
