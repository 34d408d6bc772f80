/- What is proved here: the plain law SlotImproves. It asks nothing. -/
import Derived.Test.YtdfopdlmdminbaaSlT
import Derived.Test.YtdfopdlmdminbaaPlA
import Derived.Test.YtdfopdlmdminbaaStrA
import Derived.Test.YtdfopdlmdminbaaFlowT
import Derived.Test.YtdfopdlmdminbaaSlotA
import Derived.Test.YtdfopdlmdminbaaSlotB
import Derived.Test.YtdfopdlmdminbaaSlotC
namespace Go.Proofs.Ytdfopdlmdminbaa.RT
open Go Go.R

attribute [local irreducible] slot_Assign.F slot_Check.F slot_Delays.F slot_Swap.F slot_Name.F

/-! ### More room -/

inductive More : Cps → Cps → Prop
  | refl (c : Cps) : More c c
  | here (x : (Int × Int) × Int) (r : Cps) : More ((x.1, x.2 + 1) :: r) (x :: r)
  | cons {c d : Cps} (x : (Int × Int) × Int) (h : More c d) : More (x :: c) (x :: d)

def From (c : Cps) : Prop := c.Pairwise fun a b => a.1.1 ≤ b.1.1

theorem tk_more {t : Int} : ∀ {c : Cps} {a : Int} {c' : Cps}, tk t c = some (a, c') → More c c' ∧ c'.map (·.1) = c.map (·.1)
  | [], a, c', h => by simp [tk] at h
  | x :: r, a, c', h => by
    simp only [tk] at h
    split at h
    · simp only [Option.some.injEq, Prod.mk.injEq] at h
      obtain ⟨rfl, rfl⟩ := h
      refine ⟨?_, rfl⟩
      have := More.here (x.1, x.2 - 1) r
      rwa [show x.2 - 1 + 1 = x.2 by omega] at this
    · cases hr : tk t r with
      | none => rw [hr] at h; cases h
      | some p =>
        rw [hr] at h
        simp only [Option.map_some, Option.some.injEq, Prod.mk.injEq] at h
        obtain ⟨rfl, rfl⟩ := h
        obtain ⟨h1, h2⟩ := tk_more (a := p.1) (c' := p.2) hr
        exact ⟨.cons x h1, by simp [h2]⟩

theorem tk_ge {t f : Int} : ∀ {c : Cps} {a : Int} {c' : Cps}, (∀ y ∈ c, f ≤ y.1.1) → tk t c = some (a, c') → mx t f ≤ a
  | [], a, c', _, h => by simp [tk] at h
  | x :: r, a, c', hf, h => by
    simp only [tk] at h
    split at h
    · simp only [Option.some.injEq, Prod.mk.injEq] at h
      obtain ⟨rfl, rfl⟩ := h
      have := hf x (by simp)
      unfold mx
      split <;> split <;> omega
    · cases hr : tk t r with
      | none => rw [hr] at h; cases h
      | some p =>
        rw [hr] at h
        simp only [Option.map_some, Option.some.injEq, Prod.mk.injEq] at h
        obtain ⟨rfl, rfl⟩ := h
        exact tk_ge (a := p.1) (c' := p.2) (fun y hy => hf y (List.mem_cons_of_mem _ hy)) hr

theorem more_tk {t : Int} {c d : Cps} (h : More c d) : From d → Cap d → ∀ {b : Int} {d' : Cps}, tk t d = some (b, d') → ∃ a c', tk t c = some (a, c') ∧ a ≤ b ∧ More c' d' := by
  induction h with
  | refl c => intro _ _ b d' hd; exact ⟨b, d', hd, by omega, .refl _⟩
  | here x r =>
    intro hfr hcp b d' hd
    have hx := hcp x (by simp)
    simp only [tk] at hd ⊢
    split at hd
    · rename_i h
      simp only [Option.some.injEq, Prod.mk.injEq] at hd
      obtain ⟨rfl, rfl⟩ := hd
      rw [if_pos ⟨by omega, h.2⟩]
      refine ⟨_, _, rfl, by omega, ?_⟩
      have := More.here (x.1, x.2 - 1) r
      rwa [show x.2 + 1 - 1 = x.2 - 1 + 1 by omega]
    · rename_i h
      cases hr : tk t r with
      | none => rw [hr] at hd; cases hd
      | some p =>
        rw [hr] at hd
        simp only [Option.map_some, Option.some.injEq, Prod.mk.injEq] at hd
        obtain ⟨rfl, rfl⟩ := hd
        by_cases h2 : t < x.1.2
        · rw [if_pos ⟨by omega, h2⟩]
          refine ⟨_, _, rfl, tk_ge (a := p.1) (c' := p.2) (List.pairwise_cons.1 hfr).1 hr, ?_⟩
          rw [show x.2 + 1 - 1 = x.2 by omega]
          exact .cons x (tk_more (a := p.1) (c' := p.2) hr).1
        · rw [if_neg (fun h => h2 h.2)]
          exact ⟨_, _, rfl, by omega, .here x p.2⟩
  | cons x h ih =>
    intro hfr hcp b d' hd
    simp only [tk] at hd ⊢
    split at hd
    · rename_i hh
      simp only [Option.some.injEq, Prod.mk.injEq] at hd
      obtain ⟨rfl, rfl⟩ := hd
      rw [if_pos hh]
      exact ⟨_, _, rfl, by omega, .cons _ h⟩
    · rename_i c0 d0 hh
      rw [if_neg hh]
      cases hr : tk t d0 with
      | none => rw [hr] at hd; cases hd
      | some p =>
        rw [hr] at hd
        simp only [Option.map_some, Option.some.injEq, Prod.mk.injEq] at hd
        obtain ⟨rfl, rfl⟩ := hd
        obtain ⟨a, c', e1, e2, e3⟩ := ih (List.pairwise_cons.1 hfr).2 (fun y hy => hcp y (List.mem_cons_of_mem _ hy)) (b := p.1) (d' := p.2) hr
        rw [e1]
        exact ⟨a, x :: c', rfl, e2, .cons x e3⟩

theorem From.of_map {c d : Cps} (h : From c) (e : d.map (·.1) = c.map (·.1)) : From d := by
  have h1 : (c.map (fun x : (Int × Int) × Int => x.1)).Pairwise (fun a b : Int × Int => a.1 ≤ b.1) := (List.pairwise_map (f := fun x : (Int × Int) × Int => x.1) (R := fun a b : Int × Int => a.1 ≤ b.1)).2 h
  rw [← e] at h1
  exact (List.pairwise_map (f := fun x : (Int × Int) × Int => x.1) (R := fun a b : Int × Int => a.1 ≤ b.1)).1 h1

/-- Every slot of the first has one of the second with its call, and is not later. -/
def Below (s' s : List Sl) : Prop := ∀ x ∈ s', ∃ y ∈ s, y.1 = x.1 ∧ x.2.2 ≤ y.2.2

theorem Below.cons {s' s : List Sl} {x y : Sl} (h : Below s' s) (h1 : y.1 = x.1) (h2 : x.2.2 ≤ y.2.2) : Below (x :: s') (y :: s) := fun z hz => by
  rcases List.mem_cons.1 hz with rfl | hz
  · exact ⟨y, by simp, h1, h2⟩
  · obtain ⟨w, hw, k⟩ := h z hz
    exact ⟨w, List.mem_cons_of_mem _ hw, k⟩

theorem asg_more (place : ByteArray) : ∀ {B : List Dm} {c d : Cps} {s : List Sl}, More c d → From d → Cap d → asg place d B = some s → ∃ s', asg place c B = some s' ∧ Below s' s ∧ s'.map (·.1) = B.map (·.1)
  | [], c, d, s, _, _, _, h => ⟨[], rfl, fun x hx => (by cases hx), rfl⟩
  | b :: B, c, d, s, hm, hf, hc, h => by
    simp only [asg, Option.bind_eq_some_iff, Option.map_eq_some_iff] at h
    obtain ⟨p, h1, s', h2, rfl⟩ := h
    obtain ⟨x, d'⟩ := p
    obtain ⟨a, c', e1, e2, e3⟩ := more_tk hm hf hc h1
    obtain ⟨t1, _⟩ := tk_cap hc h1
    obtain ⟨s2, g1, g2, g3⟩ := asg_more place e3 (hf.of_map (tk_more h1).2) t1 h2
    refine ⟨(b.1, (place, a)) :: s2, ?_, g2.cons rfl e2, by simp [g3]⟩
    simp only [asg, e1, Option.bind_some, g1, Option.map_some]

theorem asg_without (place : ByteArray) (d : Dm) (B : List Dm) : ∀ {A : List Dm} {c : Cps} {s : List Sl}, From c → Cap c → asg place c (A ++ d :: B) = some s → ∃ s', asg place c (A ++ B) = some s' ∧ Below s' s ∧ s'.map (·.1) = (A ++ B).map (·.1)
  | [], c, s, hf, hc, h => by
    simp only [List.nil_append, asg, Option.bind_eq_some_iff, Option.map_eq_some_iff] at h
    obtain ⟨p, h1, s', h2, rfl⟩ := h
    obtain ⟨x, c'⟩ := p
    obtain ⟨t1, _⟩ := tk_cap hc h1
    obtain ⟨s2, g1, g2, g3⟩ := asg_more place (tk_more h1).1 (hf.of_map (tk_more h1).2) t1 h2
    exact ⟨s2, g1, fun z hz => let ⟨w, hw, k⟩ := g2 z hz; ⟨w, List.mem_cons_of_mem _ hw, k⟩, g3⟩
  | a :: A, c, s, hf, hc, h => by
    simp only [List.cons_append, asg, Option.bind_eq_some_iff, Option.map_eq_some_iff] at h
    obtain ⟨p, h1, s', h2, rfl⟩ := h
    obtain ⟨x, c'⟩ := p
    obtain ⟨t1, _⟩ := tk_cap hc h1
    obtain ⟨s2, g1, g2, g3⟩ := asg_without place d B (hf.of_map (tk_more h1).2) t1 h2
    refine ⟨(a.1, (place, x)) :: s2, ?_, g2.cons rfl (by simp only; omega), by simp [g3]⟩
    simp only [List.cons_append, asg, h1, Option.bind_some, g1, Option.map_some]

theorem span_mono {c : Cps} (h : CpOk c) : ∀ q j : Nat, j < q → q < c.length → (ent c j).1.2 ≤ (ent c q).1.1 := by
  intro q
  induction q with
  | zero => intro j hj; omega
  | succ q ih =>
    intro j hj hq
    have h1 := h.2 (q + 1) hq
    have h2 := h.2 q (by omega)
    unfold EnOk at h1 h2
    have h3 := h1.2.2.2.2.2 (by omega)
    rw [Nat.add_sub_cancel] at h3
    by_cases e : j = q
    · subst e; exact h3
    · have := ih j (by omega) (by omega)
      omega

theorem CpOk.from {c : Cps} (h : CpOk c) : From c := by
  unfold From
  rw [List.pairwise_iff_getElem]
  intro i j hi hj hij
  have h1 := span_mono h j i hij hj
  have h2 := h.2 i hi
  unfold EnOk at h2
  have e1 : ent c i = c[i] := getD_get _ hi
  have e2 : ent c j = c[j] := getD_get _ hj
  rw [e1] at h1 h2
  rw [e2] at h1
  omega

/-! ### SlotImproves -/

theorem delete_dm (k : Nat) (l : List Dm) (hl : l.length ≤ 24) (j : Nat) (hj : j < l.length) : slices_Delete_api_SlotDemand.F k l j ((j + 1 : Nat) : Int) = some (l.take j ++ l.drop (j + 1)) := by
  unfold slices_Delete_api_SlotDemand.F
  have e1 : (l.drop (j + 1)).length = l.length - (j + 1) := List.length_drop
  have e2 : (l.take j).length = j := by rw [List.length_take]; omega
  simp only [Int.toNat_natCast]
  rw [decide_eq_true (p := 0 ≤ (j : Int)) (by omega), decide_eq_true (p := (j : Int) ≤ ((j + 1 : Nat) : Int)) (by omega), decide_eq_true (p := ((j + 1 : Nat) : Int) ≤ ((l.length : Nat) : Int)) (by omega), decide_eq_true (p := ((l.length : Nat) : Int) ≤ ((l.length : Nat) : Int)) (by omega), decide_eq_true (p := (j : Int) ≤ ((l.length : Nat) : Int)) (by omega), decide_eq_true (p := 0 ≤ ((j + 1 : Nat) : Int)) (by omega), beq_false_of_ne (show (j : Int) ≠ ((j + 1 : Nat) : Int) by omega), Nat.ble_eq_true_of_le (show j + (l.drop (j + 1)).length ≤ l.length by omega)]
  simp only [Bool.and_self, cond_true, cond_false]
  rw [cond_pos (c := _ && _)]
  · congr 1
    rw [List.append_assoc, List.take_append_of_le_length (by simp; omega), List.take_take]
    rw [show min (j + (l.drop (j + 1)).length) (j + (l.drop (j + 1)).length - 0) = j + (l.drop (j + 1)).length by omega]
    rw [List.take_append_of_le_length (by rw [List.length_append, e2]; omega)]
    exact List.take_of_length_le (by rw [List.length_append, e2]; omega)
  · simp
    omega

theorem release_loop (k : Nat) (l : List Dm) (hl : l.length ≤ 24) (ha : ∀ i j, i < l.length → j < l.length → (dm l i).1 = (dm l j).1 → i = j) (u : Nat) (hu : u < l.length) : ∀ n i : Nat, i ≤ u → u - i < n →
    slot_Release.l0 k (dm l u).1 l n i = some (u : Int) := by
  intro n
  induction n with
  | zero => intro i _ h; omega
  | succ n ih =>
    intro i hi hn
    rw [slot_Release.l0_succ]
    unfold slot_Release.l0b
    rw [decide_eq_true (p := (i : Int) < ((l.length : Nat) : Int)) (by omega), decide_eq_true (p := 0 ≤ (i : Int)) (by omega)]
    simp only [Bool.and_self, cond_true, getD_nat, dm_eq]
    rw [ba_dec]
    by_cases h : (dm l i).1 = (dm l u).1
    · rw [decide_eq_true h]
      have := ha i u (by omega) hu h
      subst this
      rfl
    · rw [decide_eq_false h, show w64 ((i : Int) + 1) = ((i + 1 : Nat) : Int) from w64_id (by omega) (by omega)]
      have : i ≠ u := fun e => h (by rw [e])
      exact ih (i + 1) (by omega) (by omega)

theorem dm_apart {l : List Dm} (h : l.Pairwise fun a b => a.1 ≠ b.1) : ∀ i j, i < l.length → j < l.length → (dm l i).1 = (dm l j).1 → i = j := by
  have : ∀ i j, i < j → j < l.length → (dm l i).1 ≠ (dm l j).1 := fun i j hij hj => by
    have := List.pairwise_iff_getElem.1 h i j (by omega) hj hij
    unfold dm
    rwa [getD_get _ (show i < l.length by omega), getD_get _ hj]
  intro i j hi hj e
  rcases Nat.lt_trichotomy i j with g | g | g
  · exact absurd e (this i j g hj)
  · exact g
  · exact absurd e.symm (this j i g hi)

theorem improves_in (k : Nat) (l : List Dm) (s : List Sl) (hs : s.length ≤ 24) (hap : ∀ i j, i < s.length → j < s.length → (sl s i).1 = (sl s j).1 → i = j) (e e' : Int) (u : Nat) (m : List Sl) (x : Nat) (hx : x < m.length) (hm : m.length ≤ 24) (hne : (sl m x).1 ≠ (dm l u).1) (y : Nat) (hy : y < s.length) (hc : (sl s y).1 = (sl m x).1) (ht : (sl m x).2.2 ≤ (sl s y).2.2) (self : Int → Option Bool) : ∀ n i : Nat, i ≤ y → y - i < n →
    skywaykeep3_SlotImproves.l0 k l (s, e) (u : Int) (m, e') x self n i = self ((x + 1 : Nat) : Int) := by
  intro n
  induction n with
  | zero => intro i _ h; omega
  | succ n ih =>
    intro i hi hn
    rw [skywaykeep3_SlotImproves.l0_succ]
    unfold skywaykeep3_SlotImproves.l0b
    dsimp only
    rw [decide_eq_true (p := (i : Int) < ((s.length : Nat) : Int)) (by omega), decide_eq_true (p := 0 ≤ (i : Int)) (by omega), decide_eq_false (p := (i : Int) < 0) (by omega)]
    simp only [Bool.and_self, cond_true, cond_false, getD_nat, dm_eq, sl_eq]
    rw [ba_dec, ba_dec]
    by_cases h : (sl s i).1 = (sl m x).1
    · rw [decide_eq_true h, decide_eq_false hne]
      have : i = y := hap i y (by omega) hy (by rw [h, hc])
      subst this
      rw [decide_eq_false (p := (sl m x).2.2 > (sl s i).2.2) (by omega), show w64 ((x : Int) + 1) = ((x + 1 : Nat) : Int) from w64_id (by omega) (by omega)]
      rfl
    · rw [decide_eq_false h, show w64 ((i : Int) + 1) = ((i + 1 : Nat) : Int) from w64_id (by omega) (by omega)]
      have : i ≠ y := fun e => h (by rw [e, hc])
      exact ih (i + 1) (by omega) (by omega)

theorem improves_out (k : Nat) (hk : 100 ≤ k) (l : List Dm) (s : List Sl) (hs : s.length ≤ 24) (hap : ∀ i j, i < s.length → j < s.length → (sl s i).1 = (sl s j).1 → i = j) (e e' : Int) (u : Nat) (m : List Sl) (hm : m.length ≤ 24) (hne : ∀ x ∈ m, x.1 ≠ (dm l u).1) (hb : Below m s) : ∀ n i : Nat, i ≤ m.length → m.length - i < n →
    skywaykeep3_SlotImproves.l1 k l (s, e) (u : Int) (m, e') n i = some true := by
  intro n
  induction n with
  | zero => intro i _ h; omega
  | succ n ih =>
    intro i hi hn
    rw [skywaykeep3_SlotImproves.l1_succ]
    unfold skywaykeep3_SlotImproves.l1b
    dsimp only
    by_cases hlt : i < m.length
    · rw [decide_eq_true (p := (i : Int) < ((m.length : Nat) : Int)) (by omega), decide_eq_true (p := 0 ≤ (i : Int)) (by omega)]
      simp only [Bool.and_self, cond_true]
      have hmem : sl m i ∈ m := getD_mem _ hlt
      obtain ⟨w, hw, h1, h2⟩ := hb _ hmem
      obtain ⟨y, hy, ey⟩ := List.mem_iff_getElem.1 hw
      have ew : sl s y = w := by unfold sl; rw [getD_get _ hy, ey]
      have := improves_in k l s hs hap e e' u m i hlt hm (hne _ hmem) y hy (by rw [ew, h1]) (by rw [ew]; exact h2) (fun x => skywaykeep3_SlotImproves.l1 k l (s, e) (u : Int) (m, e') n x) k 0 (by omega) (by omega)
      rw [show ((0 : Nat) : Int) = 0 from rfl] at this
      exact this.trans (ih (i + 1) (by omega) (by omega))
    · rw [decide_eq_false (p := (i : Int) < ((m.length : Nat) : Int)) (by omega)]
      rfl

theorem SlotImproves_plain (k : Nat) (hk : 300 ≤ k) (hr : slot_Name.F k rwy = some true) (hf : skywaykeep3_slotFact.F k = some true) (l : List Dm) (c : Cps) (p : Int) : skywaykeep3_SlotImproves.F k l c p = some true := by
  unfold skywaykeep3_SlotImproves.F
  rw [hf]
  simp only [Option.bind_some, Bool.not_true, cond_false]
  rw [show (⟨#[82, 87, 89]⟩ : ByteArray) = rwy from rfl]
  rcases assign_went k hk hr l c with ⟨e, he, h⟩ | ⟨S, s, hw, h⟩
  · rw [h]
    simp only [Option.bind_some]
    rw [cond_pos (c := e != 0) (by simpa using he)]
    rfl
  rw [h]
  simp only [Option.bind_some]
  rw [cond_neg (c := (0 : Int) != 0) (by rfl)]
  have hl := hw.len
  simp only [Option.bind_some]
  by_cases hz : l.length = 0
  · rw [cond_pos (c := ((l.length : Nat) : Int) == 0) (by simp [hz]), show s.length = 0 by omega]
    rfl
  rw [cond_neg (c := ((l.length : Nat) : Int) == 0) (beq_false_of_ne (by omega))]
  obtain ⟨u, hu, u0, u1⟩ := pick_ok k p ((l.length : Nat) : Int) (by omega) (by omega)
  obtain ⟨u, rfl⟩ : ∃ n : Nat, u = n := ⟨u.toNat, by omega⟩
  rw [hu]
  simp only [Option.bind_some]
  rw [cond_pos (inIdx u0 u1)]
  simp only [getD_nat, dm_eq]
  have hul : u < l.length := by omega
  have hap := dm_apart hw.dm.apart
  -- the others
  have hmem : dm l u ∈ S := hw.srt.1.mem_iff.2 (getD_mem _ hul)
  obtain ⟨A, B, hAB⟩ := List.append_of_mem hmem
  have hsub : (l.take u ++ l.drop (u + 1)).Sublist l := by
    conv => rhs; rw [← List.take_append_drop u l, drop_cons hul ((ByteArray.empty, 0) : Dm)]
    exact List.Sublist.append_left (List.sublist_cons_self _ _) _
  have hlen2 : (l.take u ++ l.drop (u + 1)).length = l.length - 1 := by simp; omega
  have hdm2 : DmOk k (l.take u ++ l.drop (u + 1)) := ⟨by omega, fun d hd => hw.dm.each d (hsub.subset hd), hw.dm.apart.sublist hsub⟩
  have hp1 : S.Perm (dm l u :: (A ++ B)) := by rw [hAB]; exact List.perm_middle
  have hp2 : l.Perm (dm l u :: (l.take u ++ l.drop (u + 1))) := by
    have e : l = l.take u ++ (dm l u :: l.drop (u + 1)) := by
      conv => lhs; rw [← List.take_append_drop u l, drop_cons hul ((ByteArray.empty, 0) : Dm), dm_eq]
    conv => lhs; rw [e]
    exact List.perm_middle
  have hsrt2 : Srt (l.take u ++ l.drop (u + 1)) (A ++ B) := by
    refine ⟨(hp1.symm.trans (hw.srt.1.trans hp2)).cons_inv, ?_⟩
    have := hw.srt.2
    rw [hAB] at this
    exact this.sublist (List.Sublist.append_left (List.sublist_cons_self _ _) _)
  have hasg := hw.asg
  rw [hAB] at hasg
  obtain ⟨m, g1, g2, g3⟩ := asg_without rwy (dm l u) B hw.caps.from hw.caps.cap hasg
  have hml : m.length = l.length - 1 := by
    have e1 : m.length = (A ++ B).length := by simpa using congrArg List.length g3
    have e2 := hsrt2.1.length_eq
    omega
  have hAs : slot_Assign.F k rwy (l.take u ++ l.drop (u + 1)) c = some (m, 0) := by
    rcases assign_eq k hk rwy hr (l.take u ++ l.drop (u + 1)) c with ⟨_, _, _, hn⟩ | ⟨_, _, h⟩
    · exact absurd ⟨hdm2, hw.caps⟩ hn
    · rw [h _ hsrt2, g1]
  have hRel : slot_Release.F k rwy (dm l u).1 l c = some (m, 0) := by
    unfold slot_Release.F
    rw [h]
    simp only [Option.bind_some]
    have := release_loop k l hl.2.2 hap u hul k 0 (by omega) (by omega)
    rw [show ((0 : Nat) : Int) = 0 from rfl] at this
    rw [cond_neg (c := (0 : Int) != 0) (by rfl), this]
    simp only [Option.bind_some]
    rw [cond_neg (c := decide ((u : Int) < 0)) (decide_eq_false (by omega))]
    unfold slices_Clone_api_SlotDemand.F
    rw [cond_pos (Nat.ble_eq_true_of_le (by omega)), List.nil_append]
    simp only [Option.bind_some]
    rw [show w64 ((u : Int) + 1) = ((u + 1 : Nat) : Int) from w64_id (by omega) (by omega), delete_dm k l hl.2.2 u hul]
    simp only [Option.bind_some]
    rw [hAs]
    rfl
  rw [hRel]
  simp only [Option.bind_some]
  rw [cond_neg (c := (0 : Int) != 0) (by rfl), w64_id (n := ((l.length : Nat) : Int) - 1) (by omega) (by omega)]
  simp only [Option.bind_some]
  rw [cond_neg (c := ((m.length : Nat) : Int) != ((l.length : Nat) : Int) - 1) (by simp; omega)]
  refine improves_out k (by omega) l s (by omega) (went_call hw) 0 0 u m (by omega) (fun x hx e => ?_) g2 k 0 (by omega) (by omega)
  have hx1 : x.1 ∈ (A ++ B).map (·.1) := by rw [← g3]; exact List.mem_map.2 ⟨x, hx, rfl⟩
  obtain ⟨d, hd, ed⟩ := List.mem_map.1 hx1
  have hAp := hw.apart
  rw [hAB] at hAp
  obtain ⟨_, hp4, hp5⟩ := List.pairwise_append.1 hAp
  rcases List.mem_append.1 hd with hd | hd
  · exact hp5 d hd _ (List.mem_cons_self ..) (by rw [ed, e])
  · exact (List.pairwise_cons.1 hp4).1 d hd (by rw [ed, e])

end Go.Proofs.Ytdfopdlmdminbaa.RT
