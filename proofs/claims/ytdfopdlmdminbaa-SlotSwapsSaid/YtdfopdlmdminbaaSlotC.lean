/- What is proved here: the plain laws SlotSwaps and SlotEarlier. They ask nothing. -/
import Derived.Test.YtdfopdlmdminbaaSlT
import Derived.Test.YtdfopdlmdminbaaPlA
import Derived.Test.YtdfopdlmdminbaaStrA
import Derived.Test.YtdfopdlmdminbaaStrB
import Derived.Test.YtdfopdlmdminbaaFlowT
import Derived.Test.YtdfopdlmdminbaaSlotA
import Derived.Test.YtdfopdlmdminbaaSlotB
namespace Go.Proofs.Ytdfopdlmdminbaa.RT
open Go Go.R

attribute [local irreducible] slot_Assign.F slot_Check.F slot_Delays.F slot_Swap.F slot_Name.F

theorem assign_went (k : Nat) (hk : 300 ≤ k) (hr : slot_Name.F k rwy = some true) (l : List Dm) (c : Cps) : (∃ e, e ≠ 0 ∧ slot_Assign.F k rwy l c = some ([], e)) ∨ ∃ S s, Went k l c S s ∧ slot_Assign.F k rwy l c = some (s, 0) := by
  rcases assign_eq k hk rwy hr l c with ⟨e, he, h, _⟩ | ⟨hd, hc, h⟩
  · exact .inl ⟨e, he, h⟩
  · obtain ⟨S, hS⟩ := srt_exists k hk hd.len hd.apart
    have h1 := h S hS
    cases ha : asg rwy c S with
    | none => rw [ha] at h1; exact .inl ⟨18, by decide, h1⟩
    | some s => rw [ha] at h1; exact .inr ⟨S, s, ⟨hd, hc, hS, ha⟩, h1⟩

theorem went_call {k : Nat} {l : List Dm} {c : Cps} {S : List Dm} {s : List Sl} (h : Went k l c S s) : ∀ i j, i < s.length → j < s.length → (sl s i).1 = (sl s j).1 → i = j := by
  have hl := h.len
  have : ∀ i j, i < j → j < s.length → (sl s i).1 ≠ (sl s j).1 := fun i j hij hj => by
    rw [(h.get (show i < S.length by omega)).1, (h.get (show j < S.length by omega)).1]
    have := List.pairwise_iff_getElem.1 h.apart i j (by omega) (by omega) hij
    unfold dm
    rwa [getD_get _ (show i < S.length by omega), getD_get _ (show j < S.length by omega)]
  intro i j hi hj e
  rcases Nat.lt_trichotomy i j with g | g | g
  · exact absurd e (this i j g hj)
  · exact g
  · exact absurd e.symm (this j i g hi)

theorem went_find {k : Nat} {l : List Dm} {c : Cps} {S : List Dm} {s : List Sl} (h : Went k l c S s) {d : Dm} (hd : d ∈ l) : ∃ j, j < s.length ∧ fx d.1 s = j ∧ dm S j = d := by
  obtain ⟨j, hj, e⟩ := List.mem_iff_getElem.1 (h.srt.1.mem_iff.2 hd)
  have hl := h.len
  have e' : dm S j = d := by unfold dm; rw [getD_get _ hj, e]
  exact ⟨j, by omega, fx_uniq (went_call h) (by omega) (by rw [(h.get hj).1, e']), e'⟩

theorem went_dly {k : Nat} {l : List Dm} {c : Cps} {S : List Dm} {s : List Sl} (h : Went k l c S s) : Dly k l s := by
  have hl := h.len
  refine ⟨h.dm, by omega, fun d hd => ?_⟩
  obtain ⟨j, hj, e1, e2⟩ := went_find h hd
  have := h.get (show j < S.length by omega)
  unfold DlOk
  rw [e1, ← e2]
  exact ⟨hj, this.2⟩

/-! ### SlotSwaps -/

def sumI : List Int → Int
  | [] => 0
  | x :: r => x + sumI r

theorem swaps_loop (k : Nat) (l : List Dm) (hl : l.length ≤ 24) (f g : Dm → Int) (hb : ∀ d ∈ l, -200000 ≤ f d - g d ∧ f d - g d ≤ 200000) (e e' : Int) : ∀ (n i : Nat) (a : Int), i ≤ l.length → l.length - i < n → -200000 * i ≤ a → a ≤ 200000 * i →
    skywaykeep3_SlotSwaps.l0 k (l.map f, e) (l.map g, e') n (a, (i : Int)) = some (Sum.inl (a + sumI ((l.drop i).map fun d => f d - g d))) := by
  intro n
  induction n with
  | zero => intro i _ _ h; omega
  | succ n ih =>
    intro i a hi hn h0 h1
    rw [skywaykeep3_SlotSwaps.l0_succ]
    unfold skywaykeep3_SlotSwaps.l0b
    dsimp only
    simp only [List.length_map]
    rw [show mn ((l.length : Nat) : Int) ((l.length : Nat) : Int) = ((l.length : Nat) : Int) by unfold mn; split <;> rfl]
    by_cases hlt : i < l.length
    · have hd := drop_cons hlt ((ByteArray.empty, 0) : Dm)
      rw [dm_eq] at hd
      rw [decide_eq_true (p := (i : Int) < ((l.length : Nat) : Int)) (by omega), decide_eq_true (p := 0 ≤ (i : Int)) (by omega)]
      simp only [Bool.and_self, cond_true, getD_nat]
      have ge : ∀ q : Dm → Int, (l.map q).getD i 0 = q (dm l i) := fun q => by unfold dm; simp [List.getD, hlt]
      have hbi := hb _ (getD_mem (ByteArray.empty, 0) hlt)
      rw [dm_eq] at hbi
      rw [ge, ge, w64_id (n := f (dm l i) - g (dm l i)) (by omega) (by omega), w64_id (n := a + (f (dm l i) - g (dm l i))) (by omega) (by omega), show w64 ((i : Int) + 1) = ((i + 1 : Nat) : Int) from w64_id (by omega) (by omega), hd, ih (i + 1) _ (by omega) (by omega) (by omega) (by omega)]
      simp only [List.map_cons, sumI, Int.add_assoc]
    · rw [decide_eq_false (p := (i : Int) < ((l.length : Nat) : Int)) (by omega), List.drop_eq_nil_of_le (by omega)]
      simp [sumI]

/-- How often a call is asked for. -/
def one (c : ByteArray) (d : Dm) : Int := if d.1 = c then 1 else 0

theorem one_none (c : ByteArray) : ∀ l : List Dm, (∀ d ∈ l, d.1 ≠ c) → sumI (l.map (one c)) = 0
  | [], _ => rfl
  | x :: r, h => by
    simp only [List.map_cons, sumI]
    rw [one_none c r fun d hd => h d (List.mem_cons_of_mem _ hd)]
    unfold one
    rw [if_neg (h x (by simp))]
    rfl

theorem one_sum : ∀ l : List Dm, l.Pairwise (fun a b => a.1 ≠ b.1) → ∀ d ∈ l, sumI (l.map (one d.1)) = 1
  | x :: r, h, d, hd => by
    obtain ⟨h1, h2⟩ := List.pairwise_cons.1 h
    simp only [List.map_cons, sumI]
    rcases List.mem_cons.1 hd with rfl | hd
    · rw [one_none d.1 r fun q hq => (h1 q hq).symm]
      simp [one]
    · rw [one_sum r h2 d hd]
      unfold one
      rw [if_neg (h1 d hd)]
      rfl

theorem sum_two (δ : Int) (a b : ByteArray) (f : Dm → Int) : ∀ l : List Dm, (∀ d ∈ l, f d = δ * one a d - δ * one b d) → sumI (l.map f) = δ * sumI (l.map (one a)) - δ * sumI (l.map (one b))
  | [], _ => by simp [sumI]
  | x :: r, h => by
    simp only [List.map_cons, sumI]
    rw [h x (by simp), sum_two δ a b f r fun d hd => h d (List.mem_cons_of_mem _ hd), Int.mul_add, Int.mul_add]
    omega

theorem SlotSwaps_plain (k : Nat) (hk : 300 ≤ k) (hr : slot_Name.F k rwy = some true) (hf : skywaykeep3_slotFact.F k = some true) (l : List Dm) (c : Cps) (p q : Int) : skywaykeep3_SlotSwaps.F k l c p q = some true := by
  unfold skywaykeep3_SlotSwaps.F
  rw [hf]
  simp only [Option.bind_some, Bool.not_true, cond_false]
  rw [show (⟨#[82, 87, 89]⟩ : ByteArray) = rwy from rfl]
  rcases assign_went k hk hr l c with ⟨e, he, h⟩ | ⟨S, s, hw, h⟩
  · rw [h]
    simp only [Option.bind_some]
    rw [cond_pos (c := e != 0) (by simpa using he)]
    rfl
  rw [h]
  simp only [Option.bind_some]
  rw [cond_neg (c := (0 : Int) != 0) (by rfl)]
  have hl := hw.len
  simp only [Option.bind_some]
  by_cases hz : l.length = 0
  · rw [cond_pos (c := ((l.length : Nat) : Int) == 0) (by simp [hz]), show s.length = 0 by omega]
    rfl
  rw [cond_neg (c := ((l.length : Nat) : Int) == 0) (beq_false_of_ne (by omega))]
  obtain ⟨u, hu, u0, u1⟩ := pick_ok k p ((l.length : Nat) : Int) (by omega) (by omega)
  obtain ⟨v, hv, v0, v1⟩ := pick_ok k q ((l.length : Nat) : Int) (by omega) (by omega)
  obtain ⟨u, rfl⟩ : ∃ n : Nat, u = n := ⟨u.toNat, by omega⟩
  obtain ⟨v, rfl⟩ : ∃ n : Nat, v = n := ⟨v.toNat, by omega⟩
  rw [hu, hv]
  simp only [Option.bind_some]
  rw [cond_pos (inIdx u0 u1), cond_pos (inIdx v0 v1)]
  simp only [getD_nat, dm_eq]
  have ha : dm l u ∈ l := getD_mem _ (by omega)
  have hb : dm l v ∈ l := getD_mem _ (by omega)
  generalize dm l u = da at *
  generalize dm l v = db at *
  obtain ⟨i, hi, ei, _⟩ := went_find hw ha
  obtain ⟨j, hj, ej, _⟩ := went_find hw hb
  have hdl := went_dly hw
  have ba : fx da.1 s < s.length := by omega
  have bb : fx db.1 s < s.length := by omega
  have ga := fx_get da.1 ba
  have gb := fx_get db.1 bb
  rcases swap_eq k (by omega) l s hdl da.1 db.1 ba bb with ⟨g1, g2⟩ | ⟨g1, g2⟩
  · rw [g1]
    simp only [Option.bind_some]
    rw [cond_neg (c := (0 : Int) != 0) (by rfl), ei, ej]
    rw [ei, ej] at g2
    rw [ei] at ga
    rw [ej] at gb
    have hml : (sw s i j).length = s.length := sw_len s i j
    have hfx : ∀ x, fx x (sw s i j) = fx x s := fun x => fx_congr x (by rw [hml]) fun t _ => sw_call s i j hi hj t
    rcases swap_eq k (by omega) l (sw s i j) g2 da.1 db.1 (by rw [hfx, hml]; exact ba) (by rw [hfx, hml]; exact bb) with ⟨k1, _⟩ | ⟨_, k2⟩
    rotate_left
    · rw [hfx, hfx, ei, ej, sw_sw s i j hi hj] at k2
      exact absurd hdl k2
    rw [hfx, hfx, ei, ej, sw_sw s i j hi hj] at k1
    rw [k1]
    simp only [Option.bind_some]
    rcases delays_cases k (by omega) l s with ⟨_, _, _, hn⟩ | ⟨d1, _⟩
    · exact absurd hdl hn
    rcases delays_cases k (by omega) l (sw s i j) with ⟨_, _, _, hn⟩ | ⟨d2, _⟩
    · exact absurd g2 hn
    rw [d1, d2]
    simp only [Option.bind_some]
    have hbd : ∀ d ∈ l, -200000 ≤ dl s d - dl (sw s i j) d ∧ dl s d - dl (sw s i j) d ≤ 200000 := fun d hd => by
      have q1 := hdl.each d hd
      have q2 := g2.each d hd
      have q3 := (hdl.dm.each d hd).time
      unfold DlOk at q1 q2
      unfold dl
      omega
    have hsl := swaps_loop k l hl.2.2 (dl s) (dl (sw s i j)) hbd 0 0 k 0 0 (by omega) (by omega) (by omega) (by omega)
    rw [show ((0 : Nat) : Int) = 0 from rfl] at hsl
    rw [hsl]
    simp only [Option.bind_some]
    have hsum : sumI (l.map fun d => dl s d - dl (sw s i j) d) = 0 := by
      rw [sum_two ((sl s i).2.2 - (sl s j).2.2) da.1 db.1 _ l fun d hd => ?_, one_sum l hdl.dm.apart da ha, one_sum l hdl.dm.apart db hb]
      · omega
      · obtain ⟨t, ht, et, _⟩ := went_find hw hd
        have gt := fx_get d.1 (show fx d.1 s < s.length by omega)
        rw [et] at gt
        unfold dl one
        rw [hfx, et, sw_get s i j hi hj]
        by_cases c1 : t = j
        · subst c1
          rw [if_pos rfl]
          have e2 : d.1 = db.1 := by rw [← gt, gb]
          rw [if_pos e2]
          by_cases c2 : d.1 = da.1
          · rw [if_pos c2]
            have : i = t := by rw [← ei, ← c2, et]
            subst this
            simp only
            omega
          · rw [if_neg c2]
            simp only
            omega
        · rw [if_neg c1]
          have e2 : ¬ d.1 = db.1 := fun z => c1 (by rw [← et, z, ej])
          rw [if_neg e2]
          by_cases c2 : t = i
          · subst c2
            rw [if_pos rfl, if_pos (by rw [← gt, ga])]
            simp only
            omega
          · rw [if_neg c2, if_neg (fun z => c2 (by rw [← et, z, ei]))]
            omega
    rw [List.drop_zero, hsum, sequal_refl k (by omega) s (by omega)]
    simp
  · rw [g1]
    simp only [Option.bind_some]
    rw [cond_pos (c := (12 : Int) != 0) (by rfl)]
    simp only [List.length_nil]
    have hne : da.1 ≠ db.1 := fun e => by
      refine g2 ?_
      rw [← e]
      have : sw s (fx da.1 s) (fx da.1 s) = s := by
        refine sl_ext (sw_len _ _ _) fun t _ => ?_
        rw [sw_get s _ _ ba ba]
        by_cases z : t = fx da.1 s
        · subst z; simp
        · simp [z]
      rw [this]
      exact hdl
    rw [ba_dec, decide_eq_false hne]
    rfl

/-! ### SlotEarlier -/

def zzz : ByteArray := ⟨#[90, 90, 90, 90]⟩
attribute [local semireducible] slot_Name.F in
theorem zzz_ok (m : Nat) : slot_Name.F (m + 40) zzz = some true := by kernel_rfl

theorem earlier_loop (k : Nat) (l : List Dm) (hl : l.length ≤ 24) (ht : ∀ d ∈ l, 0 ≤ d.2 ∧ d.2 ≤ 200000) : ∀ (n i : Nat) (a : Int), i ≤ l.length → l.length - i < n → 0 ≤ a → a ≤ 200000 →
    skywaykeep3_SlotEarlier.l0 k l n (a, (i : Int)) = some (Sum.inr true) ∨ ∃ b, skywaykeep3_SlotEarlier.l0 k l n (a, (i : Int)) = some (Sum.inl b) ∧ a ≤ b ∧ b ≤ 200000 ∧ ∀ d ∈ l.drop i, scmp d.1 zzz < 0 ∧ d.2 ≤ b := by
  intro n
  induction n with
  | zero => intro i _ _ h; omega
  | succ n ih =>
    intro i a hi hn h0 h1
    rw [skywaykeep3_SlotEarlier.l0_succ]
    unfold skywaykeep3_SlotEarlier.l0b
    dsimp only
    by_cases hlt : i < l.length
    · have hd := drop_cons hlt ((ByteArray.empty, 0) : Dm)
      rw [dm_eq] at hd
      rw [decide_eq_true (p := (i : Int) < ((l.length : Nat) : Int)) (by omega), decide_eq_true (p := 0 ≤ (i : Int)) (by omega)]
      simp only [Bool.and_self, cond_true, getD_nat, dm_eq]
      have htd := ht _ (getD_mem (ByteArray.empty, 0) hlt)
      rw [dm_eq] at htd
      rw [hd, show (⟨#[90, 90, 90, 90]⟩ : ByteArray) = zzz from rfl]
      by_cases h : Op.bytesLess (dm l i).1.toList zzz.toList = true
      · rw [h, show w64 ((i : Int) + 1) = ((i + 1 : Nat) : Int) from w64_id (by omega) (by omega)]
        have hmx : a ≤ mx a (dm l i).2 ∧ (dm l i).2 ≤ mx a (dm l i).2 ∧ mx a (dm l i).2 ≤ 200000 := by unfold mx; split <;> omega
        simp only [Bool.not_true, cond_false]
        rcases ih (i + 1) (mx a (dm l i).2) (by omega) (by omega) (by omega) (by omega) with g | ⟨b, g1, g2, g3, g4⟩
        · exact .inl g
        · refine .inr ⟨b, g1, by omega, g3, fun d hd => ?_⟩
          rcases List.mem_cons.1 hd with rfl | hd
          · exact ⟨scmp_lt.2 h, by omega⟩
          · exact g4 d hd
      · rw [show Op.bytesLess (dm l i).1.toList zzz.toList = false by simpa using h]
        exact .inl rfl
    · rw [decide_eq_false (p := (i : Int) < ((l.length : Nat) : Int)) (by omega), List.drop_eq_nil_of_le (by omega)]
      exact .inr ⟨a, rfl, by omega, h1, fun d hd => by cases hd⟩

theorem asg_snoc (place : ByteArray) (z : Dm) : ∀ {S : List Dm} {c : Cps} {s : List Sl}, asg place c S = some s → asg place c (S ++ [z]) = none ∨ ∃ x, asg place c (S ++ [z]) = some (s ++ [x])
  | [], c, s, h => by
    simp only [asg, Option.some.injEq] at h
    subst h
    simp only [List.nil_append, asg]
    cases tk z.2 c with
    | none => exact .inl rfl
    | some p => exact .inr ⟨_, rfl⟩
  | d :: r, c, s, h => by
    simp only [asg, Option.bind_eq_some_iff, Option.map_eq_some_iff] at h
    obtain ⟨p, h1, s', h2, rfl⟩ := h
    simp only [List.cons_append, asg, h1, Option.bind_some]
    rcases asg_snoc place z h2 with h | ⟨x, h⟩
    · rw [h]; exact .inl rfl
    · rw [h]; exact .inr ⟨x, rfl⟩

theorem SlotEarlier_plain (k : Nat) (hk : 300 ≤ k) (hr : slot_Name.F k rwy = some true) (hzz : slot_Name.F k zzz = some true) (hf : skywaykeep3_slotFact.F k = some true) (l : List Dm) (c : Cps) (p : Int) : skywaykeep3_SlotEarlier.F k l c p = some true := by
  unfold skywaykeep3_SlotEarlier.F
  rw [hf]
  simp only [Option.bind_some, Bool.not_true, cond_false]
  rw [show (⟨#[82, 87, 89]⟩ : ByteArray) = rwy from rfl, show (⟨#[90, 90, 90, 90]⟩ : ByteArray) = zzz from rfl]
  rcases assign_went k hk hr l c with ⟨e, he, h⟩ | ⟨S, s, hw, h⟩
  · rw [h]
    simp only [Option.bind_some]
    rw [cond_pos (c := e != 0) (by simpa using he)]
    rfl
  rw [h]
  simp only [Option.bind_some]
  rw [cond_neg (c := (0 : Int) != 0) (by rfl)]
  have hl := hw.len
  simp only [Option.bind_some]
  by_cases hz : 24 ≤ l.length
  · rw [cond_pos (decide_eq_true (by omega))]
  rw [cond_neg (decide_eq_false (by omega))]
  have ht : ∀ d ∈ l, 0 ≤ d.2 ∧ d.2 ≤ 200000 := fun d hd => (hw.dm.each d hd).time
  rcases earlier_loop k l (by omega) ht k 0 0 (by omega) (by omega) (by omega) (by omega) with g | ⟨b, g1, g2, g3, g4⟩
  · rw [show ((0 : Nat) : Int) = 0 from rfl] at g
    rw [g]
    rfl
  rw [show ((0 : Nat) : Int) = 0 from rfl] at g1
  rw [g1]
  simp only [Option.bind_some]
  obtain ⟨u, hu, u0, u1⟩ := pick_ok k p 50 (by omega) (by omega)
  rw [hu]
  simp only [Option.bind_some]
  unfold slices_Clone_api_SlotDemand.F
  rw [cond_pos (Nat.ble_eq_true_of_le (by omega)), List.nil_append]
  simp only [Option.bind_some]
  rw [cond_pos (Nat.ble_eq_true_of_le (by omega)), w64_id (n := b + u) (by omega) (by omega)]
  have hmn : 0 ≤ mn 200000 (b + u) ∧ mn 200000 (b + u) ≤ 200000 ∧ b ≤ mn 200000 (b + u) := by unfold mn; split <;> omega
  generalize mn 200000 (b + u) = t at *
  simp only [List.drop_zero] at g4
  have hdm : DmOk k (l ++ [(zzz, t)]) := by
    refine ⟨by simp; omega, fun d hd => ?_, List.pairwise_append.2 ⟨hw.dm.apart, by simp, fun x hx y hy => ?_⟩⟩
    · rcases List.mem_append.1 hd with hd | hd
      · exact hw.dm.each d hd
      · rw [List.mem_singleton.1 hd]; exact ⟨hzz, hmn.1, hmn.2.1⟩
    · rw [List.mem_singleton.1 hy]
      intro e
      have := (g4 x hx).1
      have h2 : scmp x.1 zzz = 0 := scmp_zero.2 (by rw [e])
      omega
  have hsrt : Srt (l ++ [(zzz, t)]) (S ++ [(zzz, t)]) := by
    refine ⟨hw.srt.1.append_right _, List.pairwise_append.2 ⟨hw.srt.2, by simp, fun x hx y hy => ?_⟩⟩
    rw [List.mem_singleton.1 hy]
    obtain ⟨q1, q2⟩ := g4 x (hw.srt.1.mem_iff.1 hx)
    unfold dcmp
    rw [iscmp_lt]
    by_cases e : x.2 = t
    · exact .inr ⟨e, q1⟩
    · exact .inl (by simp only; omega)
  have hAs : slot_Assign.F k rwy (l ++ [(zzz, t)]) c = some (match asg rwy c (S ++ [(zzz, t)]) with | none => ([], 18) | some s => (s, 0)) := by
    rcases assign_eq k hk rwy hr (l ++ [(zzz, t)]) c with ⟨_, _, _, hn⟩ | ⟨_, _, h⟩
    · exact absurd ⟨hdm, hw.caps⟩ hn
    · exact h _ hsrt
  rcases asg_snoc rwy (zzz, t) hw.asg with h2 | ⟨x, h2⟩
  · rw [h2] at hAs
    rw [hAs]
    rfl
  · rw [h2] at hAs
    rw [hAs]
    simp only [Option.bind_some]
    rw [show ((0 : Int) == 18) = false from rfl]
    simp only [cond_false, Option.bind_some, beq_self_eq_true, cond_true]
    rw [w64_id (n := ((s.length : Nat) : Int) + 1) (by omega) (by omega), show ((((s ++ [x]).length : Nat) : Int) == ((s.length : Nat) : Int) + 1) = true by simp]
    simp only [cond_true]
    rw [cond_pos (by simp; omega), show (s ++ [x]).take (((s.length : Nat) : Int).toNat) = s by simp, sequal_refl k (by omega) s (by omega)]
    rfl

end Go.Proofs.Ytdfopdlmdminbaa.RT
