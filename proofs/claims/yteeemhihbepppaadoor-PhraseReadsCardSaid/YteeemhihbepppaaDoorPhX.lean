/- What is proved here: functions of the library that change a row in its place, by the kit's contracts; a tool for the claim's proof. It asks nothing. -/
import Derived.Test.YteeemhihbepppaaDoorRc
import Derived.Shelf.Strings.Split
import Derived.Shelf.Strconv.Itoa3
import Derived.Shelf.Strconv.AtoiAll
/- strings.Split at one byte, strconv.Itoa, strconv.Atoi by the kit's contracts (of draws nothing is said: over the loose World). -/
namespace Go.R
open Go Go.Proofs Go.Shelf Go.RowKit

/-! ### Plain functions -/

/-- The pieces between a byte's instances. -/
def cutL (c : UInt8) : List UInt8 → List (List UInt8)
  | [] => [[]]
  | b :: l => bif b == c then [] :: cutL c l else match cutL c l with
    | [] => []
    | p :: r => (b :: p) :: r

def cutF (s sep : ByteArray) : Option (List ByteArray) := match sep.data.toList with
  | [c] => bif Nat.ble s.size 1000000 then some ((cutL c s.data.toList).map fun p => ⟨p.toArray⟩) else none
  | _ => none

def digF : Nat → Nat → List UInt8
  | 0, _ => []
  | k + 1, u => bif Nat.ble 10 u then digF k (u / 10) ++ [UInt8.ofNat (48 + u % 10)] else [UInt8.ofNat (48 + u)]

/-- A number's numeral. -/
def numF (n : Int) : ByteArray := bif decide (n < 0) then ⟨(45 :: digF 20 n.natAbs).toArray⟩ else ⟨(digF 20 n.toNat).toArray⟩

def itoaF (n : Int) : Option ByteArray := bif decide (-9223372036854775808 ≤ n) && decide (n ≤ 9223372036854775807) then some (numF n) else none

/-- What a text spells, and whether it is a fault. -/
def atoiF (s : ByteArray) : Option (Int × Bool) := bif Nat.ble s.size 1000000 then
    some (match Lib.atoiAll s.data.toList with
      | .ok v => (v, false)
      | .range => (Lib.atoiSat s.data.toList, true)
      | _ => (0, true))
  else none

theorem digF_eq : ∀ (k u : Nat), u < 10 ^ k → 0 < k → digF k u = Lib.decDigits u
  | 0, _, _, h => absurd h (by omega)
  | k + 1, u, h, _ => by
    rw [Lib.decDigits, digF]
    by_cases hu : u < 10
    · have e : Nat.ble 10 u = false := Bool.eq_false_iff.2 fun e => by have := Nat.le_of_ble_eq_true e; omega
      rw [dif_pos hu, e]
      rfl
    · rw [dif_neg hu, Nat.ble_eq_true_of_le (by omega)]
      have h1 : u / 10 < 10 ^ k := by rw [Nat.pow_succ] at h; omega
      have h2 : 0 < k := by
        rcases Nat.eq_zero_or_pos k with rfl | hk
        · simp at h; omega
        · exact hk
      rw [digF_eq k _ h1 h2]
      rfl

theorem numF_eq {n : Int} (h0 : -9223372036854775808 ≤ n) (h1 : n ≤ 9223372036854775807) : numF n = ⟨(Lib.itoa n).toArray⟩ := by
  unfold numF Lib.itoa
  by_cases hn : n < 0
  · rw [decide_eq_true hn, if_pos hn, digF_eq 20 _ (by omega) (by omega)]
    rfl
  · rw [decide_eq_false hn, if_neg hn, cond_false, digF_eq 20 _ (by omega) (by omega)]

theorem cutL_ne (c : UInt8) : ∀ l, cutL c l ≠ []
  | [] => by simp [cutL]
  | b :: l => by
    rw [cutL]
    cases b == c with
    | true => simp
    | false =>
      dsimp only [cond_false]
      cases h : cutL c l with
      | nil => exact absurd h (cutL_ne c l)
      | cons p r => simp

theorem splitK_cut (c : UInt8) : ∀ l : List UInt8, Lib.splitK [c] 0 (Lib.count l [c]) l = cutL c l
  | [] => by rw [Lib.count_one]; rfl
  | b :: l => by
    have ih := splitK_cut c l
    by_cases h : b = c
    · subst h
      have hix : Lib.index (b :: l) [b] = 0 := by rw [Lib.index]; simp [List.isPrefixOf]
      rw [Lib.count_cons_eq, Nat.add_comm, Lib.splitK, hix, cutL]
      simp only [beq_self_eq_true, cond_true]
      rw [if_neg (by decide), ← ih]
      rfl
    · rw [Lib.count_cons_ne b c l h, cutL, beq_eq_false_iff_ne.2 h, cond_false]
      have hp : ([c] : List UInt8).isPrefixOf (b :: l) = false := by simp [List.isPrefixOf, Ne.symm h]
      have hix : Lib.index (b :: l) [c] = if Lib.index l [c] == -1 then -1 else Lib.index l [c] + 1 := by rw [Lib.index, hp]; simp
      rw [← ih]
      cases hk : Lib.count l [c] with
      | zero => rfl
      | succ k =>
        rw [Lib.splitK, Lib.splitK, hix]
        by_cases hm : Lib.index l [c] = -1
        · rw [hm]; rfl
        · have hge := Lib.index_ge l [c]
          obtain ⟨j, hj⟩ : ∃ j : Nat, Lib.index l [c] = j := ⟨(Lib.index l [c]).toNat, by omega⟩
          rw [hj]
          have e1 : ((j : Int) == -1) = false := beq_eq_false_iff_ne.2 (by omega)
          have e2 : ((j : Int) + 1 == -1) = false := beq_eq_false_iff_ne.2 (by omega)
          have e3 : ((j : Int) + 1).toNat = j + 1 := by omega
          simp only [e1, e2, e3, Bool.false_eq_true, if_false, Int.toNat_natCast, Nat.add_zero, List.length_singleton, List.take_succ_cons, List.drop_succ_cons]

theorem splitB_cut (c : UInt8) (s : ByteArray) : Lib.splitB ⟨#[c]⟩ 0 (Lib.countB s ⟨#[c]⟩) s = (cutL c s.data.toList).map fun p => ⟨p.toArray⟩ := by
  have h := Lib.splitB_data ⟨#[c]⟩ 0 (Lib.countB s ⟨#[c]⟩) s
  have e : Lib.splitK [c] 0 (Lib.countB s ⟨#[c]⟩) s.data.toList = cutL c s.data.toList := splitK_cut c s.data.toList
  have h' : (Lib.splitB ⟨#[c]⟩ 0 (Lib.countB s ⟨#[c]⟩) s).map (fun b => b.data.toList) = cutL c s.data.toList := h.trans e
  rw [← h', List.map_map]
  have : ((fun p : List UInt8 => (⟨p.toArray⟩ : ByteArray)) ∘ fun b : ByteArray => b.data.toList) = id := by
    funext b
    rfl
  rw [this, List.map_id]

section
variable {P : Program} {gt : List (Nat × List AV)} {ρ : Ren}

/-! ### strings.Split -/

theorem split_ok (L : Lays.n146 P ρ) (hi9 : (P.info? (ρ.t 9)).map (fun i => (i.zero, i.size, i.bytes)) = some (some (.string ByteArray.empty), 1, 16)) :
    CalOk P gt ⟨ρ.f 146, [.ro false .str, .ro false .str], [⟨false, .slice .str, [ρ.t 9]⟩], fun x => cutF x.1 x.2⟩ := by
  refine ⟨enters_of L.f146 (by kernel_rfl) rfl, fun M w (x : ByteArray × ByteArray) vs gs (r : List ByteArray) hm _ hargs _ hF => ?_⟩
  obtain ⟨v1, l1, g1, g2, rfl, rfl, ⟨rfl, u1, rfl, _, h1⟩, v2, rfl, ⟨rfl, u2, rfl, _, h2⟩⟩ := hargs
  have h1 : u1 = [.string x.1] := h1
  have h2 : u2 = [.string x.2] := h2
  subst h1 h2
  obtain ⟨s, sep⟩ := x
  change cutF s sep = some r at hF
  unfold cutF at hF
  split at hF
  · rename_i c hsep
    cases hb : Nat.ble s.size 1000000 with
    | false => rw [hb] at hF; cases hF
    | true =>
      rw [hb] at hF
      have hs := Nat.le_of_ble_eq_true hb
      obtain rfl := Option.some.inj hF
      obtain rfl : sep = ⟨#[c]⟩ := by
        obtain ⟨⟨l⟩⟩ := sep
        change l = [c] at hsep
        rw [hsep]
      have h1 : (1 : Nat) ≤ (⟨#[c]⟩ : ByteArray).size := Nat.le_refl 1
      have hle := Lib.countB_le ⟨#[c]⟩ h1 s.size s (Nat.le_refl _)
      have hlen := Lib.splitB_all ⟨#[c]⟩ h1 0 _ s rfl
      have hC := Any.strings_Count_one { L with } s c w
      have hcb : ((Lib.countByte s.data.toList c : Nat) : Int) = ((Lib.countB s ⟨#[c]⟩ : Nat) : Int) := by
        show _ = ((Lib.count s.data.toList [c] : Nat) : Int)
        rw [Lib.count_one]
        rfl
      rw [hcb] at hC
      have hix : ∀ y : ByteArray, Lib.indexB y ⟨#[c]⟩ = Lib.indexByte y.data.toList c := fun y => Lib.index_one y.data.toList c
      have cc := Any.strings_genSplit_core { L with } hi9 s ⟨#[c]⟩ 0 (-1) (Lib.countB s ⟨#[c]⟩ + 1) w (by omega) h1 (Nat.zero_le _)
        (fun y cs _ => by rw [hix]; exact Any.strings_Index_one { L with } y c _) hC (by decide) (by decide) (by rw [if_pos (by decide)]; omega)
      rw [Nat.add_sub_cancel, hlen] at cc
      have e2 : Lib.cellsOf (Lib.splitB ⟨#[c]⟩ 0 (Lib.countB s ⟨#[c]⟩) s) (Lib.countB s ⟨#[c]⟩ + 1) = ((Lib.splitB ⟨#[c]⟩ 0 (Lib.countB s ⟨#[c]⟩) s).map Value.string).toArray := by rw [← hlen]; exact Lib.cellsOf_full _
      rw [e2] at cc
      have key : Calls P (ρ.f 146) #[.string s, .string ⟨#[c]⟩] w fun e w' =>
          e = .returned (.slice (some ⟨w.heap.size, 0, none⟩) (Lib.countB s ⟨#[c]⟩ + 1) (Lib.countB s ⟨#[c]⟩ + 1)) ∧ w' = w.alloc (.cells ((Lib.splitB ⟨#[c]⟩ 0 (Lib.countB s ⟨#[c]⟩) s).map Value.string).toArray (ρ.t 9)) := by
        have t3 := L.t3; have t9 := L.t9; have t31 := L.t31
        have a3 := L.a3; have a9 := L.a9; have a31 := L.a31
        have z3 := L.z3; have v3 := L.v3; have z9 := L.z9; have v9 := L.v9; have z31 := L.z31; have v31 := L.v31
        have e221 : ∀ args w, (callFunc (ρ.f 221) args).run P w = .ok (.enter (ρ.f 221) args) w := enters_of L.f221 (by kernel_rfl) rfl
        clear hC hix e2
        go_enter L.f146, Body.n146_ntmps ρ
        go_wp2_with (go_at_fn (ρ.f 221); refine cc.mono ?_; rintro e w' ⟨rfl, hw⟩; rw [hw])
        go_ret
        exact ⟨rfl, rfl⟩
      refine key.mono fun e w' hw => ?_
      obtain ⟨rfl, rfl⟩ := hw
      rw [splitB_cut] at hlen ⊢
      generalize hys : ((cutL c s.data.toList).map fun p => (⟨p.toArray⟩ : ByteArray)) = ys at hlen ⊢
      have hnone : ∀ o, M w.heap.size o = none := fun o => by
        cases hv : M w.heap.size o with
        | none => rfl
        | some v => exact absurd (hm.lt hv) (Nat.lt_irrefl _)
      have hk : Kp w (w.alloc (.cells (ys.map Value.string).toArray (ρ.t 9))) (· ∈ ([] : List Nat)) := (Kp.refl w _).grown (World.grownBy_alloc w _ none) (DrawLe.refl _) (by simp)
      refine ⟨_, M, rfl, Mem.le_refl _, hm.kp hk (by simp), hk, fun _ _ _ h => .inl h, [_], [w.heap.size], rfl, by simp, _, rfl, [_], rfl, fun _ => rfl, ρ.t 9, _, rfl, rfl, some ⟨w.heap.size, 0, none⟩, ys.length, by rw [hlen],
        .inr ⟨w.heap.size, _, rfl, rfl, .inl (Nat.le_refl _), hnone, by simp [Ty.sz], heap_alloc_new w _, Nat.le_refl _, ?_, by simp [Ty.sz], fun i y hy => ⟨[.string y], rfl, fun j u hu => ?_⟩⟩⟩
      · rw [hlen]
        have : maxLen = 9223372036854775807 := rfl
        omega
      · cases j with
        | zero =>
          obtain rfl : Value.string y = u := by simpa using hu
          show (ys.map Value.string).toArray[i * 1 + 0]? = _
          rw [Nat.mul_one, Nat.add_zero, List.getElem?_toArray, List.getElem?_map, hy]
          rfl
        | succ j => simp at hu
  · cases hF

/-! ### strconv.Itoa -/

theorem repL_ints {M : Mem} {ρ : Places} {L : Blks} {k : IntKind} : {tab : List Int} → {us : List Value} → RepL M ρ L (tab.map (AV.int k)) us → us = tab.map fun z => Value.int k z
  | [], us, h => by simpa [RepL] using h
  | z :: tab, us, h => by
    simp only [List.map_cons, RepL, Rep] at h
    obtain ⟨v, r, rfl, rfl, hr⟩ := h
    rw [List.map_cons, repL_ints hr]

/-- The table of the powers of ten, out of the memory that is known. -/
theorem tabIs {M : Mem} {w : World} {g : Nat} {name : String} {k : IntKind} {tab : List Int} (hm : MemOk M w) (hn : P.globalNamed name = some g) (h : GlobAt M g (tab.map (AV.int k))) : Lib.TabIs P w name k tab := by
  obtain ⟨hr, _, o, v, hv, hend⟩ := h
  simp only [Rep] at hr
  obtain ⟨ad, us, e, hs, hrep, hc⟩ := hr
  cases e
  have hcell : ∀ j, w.cell? ⟨g, j, none⟩ = M g j := fun j => hm g o v hv j
  obtain rfl := repL_ints hrep
  have ho := hcell o
  rw [hv] at ho
  unfold World.cell? at ho hcell
  unfold Lib.TabIs World.var?
  rw [hn, Option.bind_some]
  dsimp only at ho hcell ⊢
  split at ho
  · rename_i cs t fr hh
    rw [hh] at hcell ⊢
    dsimp only at hcell ⊢
    simp only [Option.isSome_none, Bool.false_eq_true, if_false] at hcell
    congr 1
    apply Array.ext_getElem?
    intro i
    have e0 : ((tab.map fun z => Value.int k z).toArray)[i]? = (tab.map fun z => Value.int k z)[i]? := by simp
    rw [e0]
    have hsz : cs.size ≤ tab.length := by
      have := hcell tab.length
      rw [List.length_map] at hend
      rw [hend] at this
      exact Array.getElem?_eq_none_iff.1 this
    by_cases hi : i < tab.length
    · have e1 : (tab.map fun z => Value.int k z)[i]? = some (Value.int k tab[i]) := by simp [hi]
      have := hc i _ e1
      rw [Nat.zero_add] at this
      rw [hcell i, this, e1]
    · rw [Array.getElem?_eq_none (by omega), List.getElem?_eq_none (by simpa using Nat.le_of_not_lt hi)]
  · cases ho

theorem itoa_ok {g : Nat} (L : LaysM.n171 P ρ) (hn : P.globalNamed "internal/strconv.uint64pow10" = some g) (hg : (g, Lib.pow10Tab.map (AV.int .u64)) ∈ gt) :
    CalOk P gt ⟨ρ.f 171, [.ro false (.int .i64)], [⟨false, .str, []⟩], fun x => itoaF x⟩ := by
  refine ⟨enters_of L.f171 (by kernel_rfl) rfl, fun M w (x : Int) vs gs (r : ByteArray) hm hgl hargs _ hF => ?_⟩
  obtain ⟨v1, rfl, rfl, u1, rfl, _, h1⟩ := hargs
  have h1 : u1 = [.int .i64 x] := h1
  subst h1
  change itoaF x = some r at hF
  unfold itoaF at hF
  cases hb : decide (-9223372036854775808 ≤ x) && decide (x ≤ 9223372036854775807) with
  | false => rw [hb] at hF; cases hF
  | true =>
    rw [hb] at hF
    obtain rfl := Option.some.inj hF
    simp only [Bool.and_eq_true, decide_eq_true_eq] at hb
    refine (Any.strconv_Itoa L x hb.1 hb.2 w (tabIs hm hn (hgl g _ hg))).mono fun e w' h => ?_
    obtain ⟨rfl, k, os, rfl⟩ := h
    have hk : Kp w (Sort.grow (w.drewN k) os) (· ∈ ([] : List Nat)) := by
      refine ⟨rfl, rfl, rfl, by simp [Sort.grow], DrawLe.any _ _, fun b hb _ => ?_⟩
      simp [Sort.grow, Array.getElem?_append, hb]
    exact ⟨_, M, rfl, Mem.le_refl _, hm.kp hk (by simp), hk, fun _ _ _ h => .inl h, [_], [], rfl, List.nodup_nil, _, rfl, [_], rfl, fun _ => rfl, by rw [numF_eq hb.1 hb.2]; exact ⟨rfl, rfl, rfl⟩⟩

/-! ### strconv.Atoi -/

theorem atoi_ret {M : Mem} {w w' : World} {v : Int} {u : Value} {b : Bool} (hm : MemOk M w) (hb : Below w.heap.size w w') (hu : RepS M .err b [u]) :
    ∃ v' M', Ending.returned (.tuple #[.int .i64 v, u]) = .returned v' ∧ RetOk M w [] M' w' [⟨false, .int .i64, []⟩, ⟨false, .err, []⟩] (v, b) v' := by
  have hk : Kp w w' (· ∈ ([] : List Nat)) := ⟨hb.os, hb.tape, hb.output, hb.size, DrawLe.any _ _, fun k hk _ => hb.block k hk⟩
  exact ⟨_, M, rfl, Mem.le_refl _, hm.kp hk (by simp), hk, fun _ _ _ h => .inl h, [_, _], [], rfl, List.nodup_nil, _, _, [], [], rfl, rfl, ⟨[_], rfl, fun _ => rfl, rfl, rfl, rfl⟩, _, rfl, [_], rfl, fun _ => rfl, hu, rfl, rfl⟩

theorem err_cell {M : Mem} {w : World} {g : Nat} (hm : MemOk M w) (h : GlobAt M g [.errv true]) : ∃ t p, w.cell? ⟨g, 0, none⟩ = some (.iface t p) := by
  have hr := h.rep
  simp only [Rep, RepL] at hr
  obtain ⟨ad, us, e, hs, ⟨v, r, rfl, ⟨_, hv⟩, rfl⟩, hc⟩ := hr
  cases e
  obtain ⟨t, p, rfl⟩ := hv trivial
  exact ⟨t, p, hm.at (hc 0 _ rfl)⟩

theorem atoi_ok (L : LaysC.n172 P ρ) (h15 : (ρ.g 15, [AV.errv true]) ∈ gt) (h16 : (ρ.g 16, [AV.errv true]) ∈ gt) :
    CalOk P gt ⟨ρ.f 172, [.ro false .str], [⟨false, .int .i64, []⟩, ⟨false, .err, []⟩], fun x => atoiF x⟩ := by
  refine ⟨enters_of L.f172 (by kernel_rfl) rfl, fun M w (s : ByteArray) vs gs (r : Int × Bool) hm hgl hargs _ hF => ?_⟩
  obtain ⟨v1, rfl, rfl, u1, rfl, _, h1⟩ := hargs
  have h1 : u1 = [.string s] := h1
  subst h1
  change atoiF s = some r at hF
  unfold atoiF at hF
  cases hb : Nat.ble s.size 1000000 with
  | false => rw [hb] at hF; cases hF
  | true =>
    rw [hb] at hF
    have hs := Nat.le_of_ble_eq_true hb
    have hF := Option.some.inj hF
    split at hF
    · rename_i v hv
      subst hF
      refine (Any.strconv_Atoi_ok L s (by omega) v hv w).mono fun e w' h => ?_
      obtain ⟨rfl, hw⟩ := h
      refine atoi_ret hm ?_ (by simp [RepS])
      rcases hw with rfl | ⟨t, rfl⟩
      · exact Below.refl _ _
      · exact Lib.bytesWorld_below _ _ _
    · rename_i hv
      subst hF
      obtain ⟨t, p, hc⟩ := err_cell hm (hgl _ _ h16)
      refine (Any.strconv_Atoi_range L s (by omega) hv _ w hc (.inr ⟨t, p, rfl⟩)).mono fun e w' h => ?_
      obtain ⟨N, rfl, _, _, hbel⟩ := h
      exact atoi_ret hm hbel (by simp [RepS])
    · rename_i hv1 hv2
      subst hF
      obtain ⟨t, p, hc⟩ := err_cell hm (hgl _ _ h15)
      refine (Any.strconv_Atoi_syntax L s (by omega) ?_ _ w hc (.inr ⟨t, p, rfl⟩)).mono fun e w' h => ?_
      · cases he : Lib.atoiAll s.data.toList with
        | ok v => exact absurd he (hv1 v)
        | range => exact absurd he hv2
        | _ => rfl
      · obtain ⟨N, rfl, _, _, hbel⟩ := h
        exact atoi_ret hm hbel (by simp [RepS])

end
end Go.R
