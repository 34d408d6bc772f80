/- What is proved here: what the checks of package runway come to: movements, directions, what is open, gaps, pairs that are too close. They ask nothing. -/
import Derived.Test.YtjppjbgpeiaobaaRuT
import Derived.Test.YtjppjbgpeiaobaaPlA
import Derived.Test.YtjppjbgpeiaobaaWakT
namespace Go.Proofs.Ytjppjbgpeiaobaa.RT
open Go Go.R

abbrev Mm := Int × Int × Bool × Int
abbrev Sp := Int × Int
def mm (l : List Mm) (j : Nat) : Mm := l.getD j (0, (0, (false, 0)))
def sp (l : List Sp) (j : Nat) : Sp := l.getD j (0, 0)
theorem mm_eq (l : List Mm) (j : Nat) : l.getD j (0, (0, (false, 0))) = mm l j := rfl
theorem sp_eq (l : List Sp) (j : Nat) : l.getD j (0, 0) = sp l j := rfl
theorem mm_mem {l : List Mm} {j : Nat} (h : j < l.length) : mm l j ∈ l := by unfold mm; simp [List.getD, h]
theorem mm_of {l : List Mm} {m : Mm} (h : m ∈ l) : ∃ j, j < l.length ∧ mm l j = m := by
  obtain ⟨j, hj, e⟩ := List.mem_iff_getElem.1 h
  exact ⟨j, hj, by unfold mm; simp [List.getD, hj, e]⟩

theorem getD_mem {α : Type} {l : List α} {j : Nat} (d : α) (h : j < l.length) : l.getD j d ∈ l := by simp [List.getD, h]

/-! ### Movements -/

structure MvOk (m : Mm) : Prop where
  time : 0 ≤ m.1 ∧ m.1 ≤ 200000
  wake : cls m.2.1
  fin : 0 ≤ m.2.2.2 ∧ m.2.2.2 ≤ 1

def ChkL : Int → List Mm → Prop
  | _, [] => True
  | p, m :: r => MvOk m ∧ p ≤ m.1 ∧ ChkL m.1 r

theorem chkL_iff (l : List Mm) : ∀ p, ChkL p l ↔ (∀ m ∈ l, MvOk m ∧ p ≤ m.1) ∧ l.Pairwise fun a b => a.1 ≤ b.1 := by
  induction l with
  | nil => intro p; simp [ChkL]
  | cons m r ih =>
    intro p
    simp only [ChkL, ih, List.pairwise_cons, List.mem_cons, forall_eq_or_imp]
    constructor
    · rintro ⟨h1, h2, h3, h4⟩
      exact ⟨⟨⟨h1, h2⟩, fun x hx => ⟨(h3 x hx).1, by have := (h3 x hx).2; omega⟩⟩, fun x hx => (h3 x hx).2, h4⟩
    · rintro ⟨⟨⟨h1, h2⟩, h3⟩, h4, h5⟩
      exact ⟨h1, h2, fun x hx => ⟨(h3 x hx).1, h4 x hx⟩, h5⟩

structure ChkOk (l : List Mm) : Prop where
  len : l.length ≤ 24
  mv : ∀ m ∈ l, MvOk m
  ord : l.Pairwise fun a b => a.1 ≤ b.1

theorem chkOk_iff {l : List Mm} (hl : l.length ≤ 24) : ChkL 0 l ↔ ChkOk l := by
  rw [chkL_iff]
  exact ⟨fun h => ⟨hl, fun m hm => (h.1 m hm).1, h.2⟩, fun h => ⟨fun m hm => ⟨h.mv m hm, (h.mv m hm).time.1⟩, h.ord⟩⟩

theorem rcheck_loop (k : Nat) (l : List Mm) (hl : l.length ≤ 24) : ∀ n i : Nat, i ≤ l.length → l.length - i < n →
    ∃ e, runway_Check.l0 k l n i = some e ∧ (e = 0 ↔ ChkL (if i = 0 then 0 else (mm l (i - 1)).1) (l.drop i)) := by
  intro n
  induction n with
  | zero => intro i _ h; omega
  | succ n ih =>
    intro i hi hn
    rw [runway_Check.l0_succ]
    unfold runway_Check.l0b
    by_cases hlt : i < l.length
    · have hd := drop_cons hlt ((0, (0, (false, 0))) : Mm)
      rw [mm_eq] at hd
      rw [decide_eq_true (p := (i : Int) < ((l.length : Nat) : Int)) (by omega), decide_eq_true (p := 0 ≤ (i : Int)) (by omega)]
      simp only [Bool.and_self, cond_true, getD_nat, mm_eq]
      rw [hd]
      simp only [ChkL]
      by_cases h1 : (mm l i).1 < 0
      · rw [decide_eq_true h1]
        exact ⟨12, rfl, ⟨fun h => absurd h (by decide), fun h => by have := h.1.time.1; omega⟩⟩
      rw [decide_eq_false h1]
      by_cases h2 : (mm l i).1 > 200000
      · rw [decide_eq_true h2]
        exact ⟨12, rfl, ⟨fun h => absurd h (by decide), fun h => by have := h.1.time.2; omega⟩⟩
      rw [decide_eq_false h2]
      simp only [cond_false]
      have hX : (bif decide ((i : Int) > 0) then bif decide (0 ≤ w64 ((i : Int) - 1)) && decide (w64 ((i : Int) - 1) < ((l.length : Nat) : Int)) then some (Sum.inl (decide ((mm l i).1 < (mm l (w64 ((i : Int) - 1)).toNat).1))) else none else some (Sum.inl false) : Option (Bool ⊕ Int)) = some (Sum.inl (decide ((mm l i).1 < if i = 0 then 0 else (mm l (i - 1)).1))) := by
        by_cases hz : i = 0
        · subst hz
          rw [if_pos rfl, decide_eq_false h1]
          rfl
        · rw [if_neg hz, decide_eq_true (p := (i : Int) > 0) (by omega), w64_id (n := (i : Int) - 1) (by omega) (by omega), inIdx (n := l.length) (by omega) (by omega), show ((i : Int) - 1).toNat = i - 1 by omega]
          rfl
      rw [hX]
      simp only [Option.bind_some]
      by_cases h3 : (mm l i).1 < if i = 0 then 0 else (mm l (i - 1)).1
      · rw [decide_eq_true h3]
        exact ⟨12, rfl, ⟨fun h => absurd h (by decide), fun h => by have := h.2.1; omega⟩⟩
      rw [decide_eq_false h3]
      simp only [cond_false]
      by_cases h4 : cls (mm l i).2.1
      · rw [class_pos h4]
        simp only [Option.bind_some]
        rw [cond_neg (c := (0 : Int) != 0) (by rfl)]
        by_cases h5 : (mm l i).2.2.2 < 0
        · rw [decide_eq_true h5]
          exact ⟨1, rfl, ⟨fun h => absurd h (by decide), fun h => by have := h.1.fin.1; omega⟩⟩
        rw [decide_eq_false h5]
        by_cases h6 : (mm l i).2.2.2 > 1
        · rw [decide_eq_true h6]
          exact ⟨1, rfl, ⟨fun h => absurd h (by decide), fun h => by have := h.1.fin.2; omega⟩⟩
        rw [decide_eq_false h6]
        simp only [cond_false, Option.bind_some]
        rw [show w64 ((i : Int) + 1) = ((i + 1 : Nat) : Int) from w64_id (by omega) (by omega)]
        obtain ⟨e, he, hi2⟩ := ih (i + 1) (by omega) (by omega)
        refine ⟨e, he, hi2.trans ?_⟩
        rw [if_neg (by omega), Nat.add_sub_cancel]
        exact ⟨fun h => ⟨⟨⟨by omega, by omega⟩, h4, ⟨by omega, by omega⟩⟩, by omega, h⟩, fun h => h.2.2⟩
      · rw [class_neg h4]
        exact ⟨1, rfl, ⟨fun h => absurd h (by decide), fun h => absurd h.1.wake h4⟩⟩
    · rw [decide_eq_false (p := (i : Int) < ((l.length : Nat) : Int)) (by omega), List.drop_eq_nil_of_le (by omega)]
      exact ⟨0, rfl, by simp [ChkL]⟩

theorem rcheck_eq (k : Nat) (hk : 100 ≤ k) (l : List Mm) : ∃ e, runway_Check.F k l = some e ∧ (e = 0 ↔ ChkOk l) := by
  unfold runway_Check.F
  by_cases hl : l.length ≤ 24
  · rw [cond_neg (decide_eq_false (by omega))]
    obtain ⟨e, he, h⟩ := rcheck_loop k l hl k 0 (by omega) (by omega)
    exact ⟨e, he, h.trans (chkOk_iff hl)⟩
  · rw [cond_pos (decide_eq_true (by omega))]
    exact ⟨2, rfl, ⟨fun h => absurd h (by decide), fun h => absurd h.len hl⟩⟩

/-! ### Directions -/

def SpL : Int → Int → List Sp → Prop
  | _, _, [] => True
  | f, e, s :: r => (0 ≤ s.2 ∧ s.2 ≤ 1) ∧ (0 ≤ s.1 ∧ s.1 ≤ 200000) ∧ f + 360 ≤ s.1 ∧ s.2 ≠ e ∧ SpL s.1 s.2 r

structure SpOk (l : List Sp) : Prop where
  ne : l ≠ []
  len : l.length ≤ 24
  all : SpL (-360) (-1) l

theorem rspans_loop (k : Nat) (l : List Sp) (hl : l.length ≤ 24) : ∀ n i : Nat, i ≤ l.length → l.length - i < n → (0 < i → 0 ≤ (sp l (i - 1)).1 ∧ (sp l (i - 1)).1 ≤ 200000) →
    ∃ e, runway_Spans.l0 k l n i = some e ∧ (e = 0 ↔ SpL (if i = 0 then -360 else (sp l (i - 1)).1) (if i = 0 then -1 else (sp l (i - 1)).2) (l.drop i)) := by
  intro n
  induction n with
  | zero => intro i _ h; omega
  | succ n ih =>
    intro i hi hn hp
    rw [runway_Spans.l0_succ]
    unfold runway_Spans.l0b
    by_cases hlt : i < l.length
    · have hd := drop_cons hlt ((0, 0) : Sp)
      rw [sp_eq] at hd
      rw [decide_eq_true (p := (i : Int) < ((l.length : Nat) : Int)) (by omega), decide_eq_true (p := 0 ≤ (i : Int)) (by omega)]
      simp only [Bool.and_self, cond_true, getD_nat, sp_eq]
      rw [hd]
      simp only [SpL]
      by_cases h5 : (sp l i).2 < 0
      · rw [decide_eq_true h5]
        exact ⟨1, rfl, ⟨fun h => absurd h (by decide), fun h => by have := h.1.1; omega⟩⟩
      rw [decide_eq_false h5]
      by_cases h6 : (sp l i).2 > 1
      · rw [decide_eq_true h6]
        exact ⟨1, rfl, ⟨fun h => absurd h (by decide), fun h => by have := h.1.2; omega⟩⟩
      rw [decide_eq_false h6]
      simp only [cond_false, Option.bind_some]
      by_cases h1 : (sp l i).1 < 0
      · rw [decide_eq_true h1]
        exact ⟨12, rfl, ⟨fun h => absurd h (by decide), fun h => by have := h.2.1.1; omega⟩⟩
      rw [decide_eq_false h1]
      by_cases h2 : (sp l i).1 > 200000
      · rw [decide_eq_true h2]
        exact ⟨12, rfl, ⟨fun h => absurd h (by decide), fun h => by have := h.2.1.2; omega⟩⟩
      rw [decide_eq_false h2]
      simp only [cond_false]
      have hX : (bif decide ((i : Int) > 0) then bif decide (0 ≤ w64 ((i : Int) - 1)) && decide (w64 ((i : Int) - 1) < ((l.length : Nat) : Int)) then some (Sum.inl (decide ((sp l i).1 < w64 ((sp l (w64 ((i : Int) - 1)).toNat).1 + 360)))) else none else some (Sum.inl false) : Option (Bool ⊕ Int)) = some (Sum.inl (decide ((sp l i).1 < (if i = 0 then -360 else (sp l (i - 1)).1) + 360))) := by
        by_cases hz : i = 0
        · subst hz
          rw [if_pos rfl, decide_eq_false (p := (sp l 0).1 < -360 + 360) (by omega)]
          rfl
        · rw [if_neg hz, decide_eq_true (p := (i : Int) > 0) (by omega), w64_id (n := (i : Int) - 1) (by omega) (by omega), inIdx (n := l.length) (by omega) (by omega), show ((i : Int) - 1).toNat = i - 1 by omega]
          have := hp (by omega)
          rw [w64_id (by omega) (by omega)]
          rfl
      have hY : (bif decide ((i : Int) > 0) then bif decide (0 ≤ w64 ((i : Int) - 1)) && decide (w64 ((i : Int) - 1) < ((l.length : Nat) : Int)) then some (Sum.inl ((sp l i).2 == (sp l (w64 ((i : Int) - 1)).toNat).2)) else none else some (Sum.inl false) : Option (Bool ⊕ Int)) = some (Sum.inl ((sp l i).2 == if i = 0 then -1 else (sp l (i - 1)).2)) := by
        by_cases hz : i = 0
        · subst hz
          rw [if_pos rfl, show ((sp l 0).2 == -1) = false from beq_false_of_ne (by omega)]
          rfl
        · rw [if_neg hz, decide_eq_true (p := (i : Int) > 0) (by omega), w64_id (n := (i : Int) - 1) (by omega) (by omega), inIdx (n := l.length) (by omega) (by omega), show ((i : Int) - 1).toNat = i - 1 by omega]
          rfl
      rw [hX, hY]
      simp only [Option.bind_some]
      by_cases h3 : (sp l i).1 < (if i = 0 then -360 else (sp l (i - 1)).1) + 360
      · rw [decide_eq_true h3]
        exact ⟨12, rfl, ⟨fun h => absurd h (by decide), fun h => by have := h.2.2.1; omega⟩⟩
      rw [decide_eq_false h3]
      simp only [cond_false]
      by_cases h4 : (sp l i).2 = if i = 0 then -1 else (sp l (i - 1)).2
      · rw [beq_iff_eq.2 h4]
        exact ⟨11, rfl, ⟨fun h => absurd h (by decide), fun h => absurd h4 h.2.2.2.1⟩⟩
      · rw [beq_false_of_ne h4]
        simp only [cond_false]
        rw [show w64 ((i : Int) + 1) = ((i + 1 : Nat) : Int) from w64_id (by omega) (by omega)]
        obtain ⟨e, he, hi2⟩ := ih (i + 1) (by omega) (by omega) (fun _ => by rw [Nat.add_sub_cancel]; omega)
        refine ⟨e, he, hi2.trans ?_⟩
        rw [if_neg (by omega), if_neg (by omega), Nat.add_sub_cancel]
        exact ⟨fun h => ⟨⟨by omega, by omega⟩, ⟨by omega, by omega⟩, by omega, h4, h⟩, fun h => h.2.2.2.2⟩
    · rw [decide_eq_false (p := (i : Int) < ((l.length : Nat) : Int)) (by omega), List.drop_eq_nil_of_le (by omega)]
      exact ⟨0, rfl, by simp [SpL]⟩

theorem rspans_eq (k : Nat) (hk : 100 ≤ k) (l : List Sp) : ∃ e, runway_Spans.F k l = some e ∧ (e = 0 ↔ SpOk l) := by
  unfold runway_Spans.F
  by_cases hl : l.length ≤ 24
  · rw [cond_neg (decide_eq_false (by omega))]
    by_cases hz : l = []
    · subst hz
      exact ⟨8, rfl, ⟨fun h => absurd h (by decide), fun h => absurd rfl h.ne⟩⟩
    · have : l.length ≠ 0 := fun e => hz (List.length_eq_zero_iff.1 e)
      rw [cond_neg (beq_false_of_ne (by omega))]
      obtain ⟨e, he, h⟩ := rspans_loop k l hl k 0 (by omega) (by omega) (by omega)
      exact ⟨e, he, h.trans ⟨fun h => ⟨hz, hl, h⟩, fun h => h.all⟩⟩
  · rw [cond_pos (decide_eq_true (by omega))]
    exact ⟨2, rfl, ⟨fun h => absurd h (by decide), fun h => absurd h.len hl⟩⟩

/-! ### What is open -/

def openL (t : Int) : List Sp → Int → Int × Int
  | [], e => (e, -1)
  | s :: r, e => if s.1 - 180 < t ∧ t < s.1 + 180 then (0, s.1 + 180) else openL t r (if s.1 ≤ t then s.2 else e)

def opn (l : List Sp) (t : Int) : Int × Int := match l with
  | [] => (0, 0)
  | s :: r => if t < s.1 then (0, s.1) else openL t r s.2

def Bnd (l : List Sp) : Prop := ∀ s ∈ l, 0 ≤ s.1 ∧ s.1 ≤ 200000 ∧ 0 ≤ s.2 ∧ s.2 ≤ 1

theorem spL_bnd : ∀ (l : List Sp) (f e : Int), SpL f e l → Bnd l
  | [], _, _, _ => fun s hs => by cases hs
  | s :: r, f, e, h => fun x hx => by
    rcases List.mem_cons.1 hx with rfl | hx
    · exact ⟨h.2.1.1, h.2.1.2, h.1.1, h.1.2⟩
    · exact spL_bnd r _ _ h.2.2.2.2 x hx

theorem opened_loop (k : Nat) (l : List Sp) (hl : l.length ≤ 24) (hb : Bnd l) (t : Int) : ∀ (n i : Nat) (e : Int), i ≤ (l.drop 1).length → (l.drop 1).length - i < n →
    runway_opened.l0 k l t n (e, i) = some (openL t ((l.drop 1).drop i) e) := by
  intro n
  induction n with
  | zero => intro i _ _ h; omega
  | succ n ih =>
    intro i e hi hn
    rw [runway_opened.l0_succ]
    unfold runway_opened.l0b
    dsimp only
    have hl1 : (l.drop 1).length ≤ 24 := by rw [List.length_drop]; omega
    by_cases hlt : i < (l.drop 1).length
    · have hd := drop_cons hlt ((0, 0) : Sp)
      have hm : (l.drop 1).getD i (0, 0) ∈ l := List.mem_of_mem_drop (i := 1) (getD_mem _ hlt)
      have hbb := hb _ hm
      rw [decide_eq_true (p := (i : Int) < (((l.drop 1).length : Nat) : Int)) (by omega), decide_eq_true (p := 0 ≤ (i : Int)) (by omega)]
      simp only [Bool.and_self, cond_true, getD_nat]
      rw [hd]
      generalize (l.drop 1).getD i (0, 0) = s at *
      rw [w64_id (n := s.1 - 180) (by omega) (by omega), w64_id (n := s.1 + 180) (by omega) (by omega), show w64 ((i : Int) + 1) = ((i + 1 : Nat) : Int) from w64_id (by omega) (by omega)]
      simp only [openL]
      by_cases h1 : t > s.1 - 180
      · rw [decide_eq_true h1]
        simp only [cond_true, Option.bind_some]
        by_cases h2 : t < s.1 + 180
        · rw [decide_eq_true h2, if_pos ⟨h1, h2⟩]
          rfl
        · rw [decide_eq_false h2, if_neg (fun h => h2 h.2)]
          simp only [cond_false]
          by_cases h3 : s.1 ≤ t
          · rw [decide_eq_true (p := t ≥ s.1) h3, if_pos h3]
            exact ih (i + 1) s.2 (by omega) (by omega)
          · rw [decide_eq_false (p := t ≥ s.1) h3, if_neg h3]
            exact ih (i + 1) e (by omega) (by omega)
      · rw [decide_eq_false h1, if_neg (fun h => h1 h.1)]
        simp only [cond_false, Option.bind_some]
        by_cases h3 : s.1 ≤ t
        · rw [decide_eq_true (p := t ≥ s.1) h3, if_pos h3]
          exact ih (i + 1) s.2 (by omega) (by omega)
        · rw [decide_eq_false (p := t ≥ s.1) h3, if_neg h3]
          exact ih (i + 1) e (by omega) (by omega)
    · rw [decide_eq_false (p := (i : Int) < (((l.drop 1).length : Nat) : Int)) (by omega), List.drop_eq_nil_of_le (show (l.drop 1).length ≤ i by omega)]
      rfl

theorem opened_eq (k : Nat) (hk : 100 ≤ k) (l : List Sp) (h : SpOk l) (t : Int) : runway_opened.F k l t = some (opn l t) := by
  unfold runway_opened.F
  have hlen := h.len
  obtain ⟨s, r, rfl⟩ : ∃ s r, l = s :: r := List.exists_cons_of_ne_nil h.ne
  have h0 : (decide (0 ≤ 0) && decide ((0 : Int) < (((s :: r).length : Nat) : Int))) = true := by simp
  have h1 : (decide (0 ≤ (1 : Int)) && decide ((1 : Int) ≤ (((s :: r).length : Nat) : Int))) = true := by simp; omega
  simp only [h0, h1, cond_true]
  have e : (s :: r).getD 0 (0, 0) = s := rfl
  rw [e]
  have := opened_loop k (s :: r) hlen (spL_bnd _ _ _ h.all) t k 0 s.2 (by omega) (by simp at hlen ⊢; omega)
  by_cases hlt : t < s.1
  · rw [cond_pos (decide_eq_true hlt)]
    simp [opn, hlt]
  · rw [cond_neg (decide_eq_false hlt)]
    simp only [opn, if_neg hlt]
    exact this

/-! ### Gaps -/

def gapv (t : Tab) (a b : Mm) : Int := if a.2.2.1 = b.2.2.1 then tab t a.2.1 b.2.1 else 60

theorem rgap_eq (k : Nat) (t : Tab) (a b : Mm) (ha : cls a.2.1) (hb : cls b.2.1) : runway_gap.F k t a b = some (gapv t a b) := by
  unfold runway_gap.F gapv
  by_cases h : a.2.2.1 = b.2.2.1
  · rw [cond_pos (by simpa using h), if_pos h, cond_pos (inIdx ha.1 (by have := ha.2; omega)), cond_pos (inIdx hb.1 (by have := hb.2; omega)), cond_pos (tab_in ha hb)]
    rfl
  · rw [cond_neg (by simpa using h), if_neg h]

theorem gapv_bnd {t : Tab} (ht : TabOk t) {a b : Mm} (ha : cls a.2.1) (hb : cls b.2.1) : 30 ≤ gapv t a b ∧ gapv t a b ≤ 600 := by
  unfold gapv
  split
  · exact ht.least _ _ ha.1 ha.2 hb.1 hb.2
  · omega

def Far (t : Tab) (a b : Mm) : Prop := gapv t a b ≤ b.1 - a.1

theorem wrong_in (k : Nat) (l : List Mm) (h : ChkOk l) (t : Tab) (x : Nat) (hx : x < l.length) (self : Int → Option (Int × Int)) : ∀ n i : Nat, i ≤ l.length → l.length - i < n →
    (∃ j : Int, runway_wrong.l0 k l t x self n i = some ((x : Int), j) ∧ ¬ ∀ b ∈ l.drop i, Far t (mm l x) b) ∨
    (runway_wrong.l0 k l t x self n i = self ((x + 1 : Nat) : Int) ∧ ∀ b ∈ l.drop i, Far t (mm l x) b) := by
  intro n
  induction n with
  | zero => intro i _ h; omega
  | succ n ih =>
    intro i hi hn
    have hlen := h.len
    rw [runway_wrong.l0_succ]
    unfold runway_wrong.l0b
    by_cases hlt : i < l.length
    · have hd := drop_cons hlt ((0, (0, (false, 0))) : Mm)
      rw [mm_eq] at hd
      rw [decide_eq_true (p := (i : Int) < ((l.length : Nat) : Int)) (by omega), decide_eq_true (p := 0 ≤ (i : Int)) (by omega)]
      simp only [Bool.and_self, cond_true, getD_nat, mm_eq]
      have ha := h.mv _ (mm_mem hx)
      have hb := h.mv _ (mm_mem hlt)
      rw [rgap_eq k t _ _ ha.wake hb.wake]
      simp only [Option.bind_some]
      have ht1 := ha.time
      have ht2 := hb.time
      rw [w64_id (n := (mm l i).1 - (mm l x).1) (by omega) (by omega), show w64 ((i : Int) + 1) = ((i + 1 : Nat) : Int) from w64_id (by omega) (by omega), hd]
      by_cases hf : Far t (mm l x) (mm l i)
      · rw [decide_eq_false (by unfold Far at hf; exact Int.not_lt.2 hf)]
        simp only [cond_false]
        rcases ih (i + 1) (by omega) (by omega) with ⟨j, h1, h2⟩ | ⟨h1, h2⟩
        · exact .inl ⟨j, h1, fun hh => h2 fun b hb => hh b (List.mem_cons_of_mem _ hb)⟩
        · refine .inr ⟨h1, fun b hb => ?_⟩
          rcases List.mem_cons.1 hb with rfl | hb
          · exact hf
          · exact h2 b hb
      · rw [decide_eq_true (by unfold Far at hf; exact Int.not_le.1 hf)]
        exact .inl ⟨i, rfl, fun hh => hf (hh _ (by simp))⟩
    · rw [decide_eq_false (p := (i : Int) < ((l.length : Nat) : Int)) (by omega), List.drop_eq_nil_of_le (by omega)]
      refine .inr ⟨?_, fun b hb => by cases hb⟩
      rw [cond_false, show w64 ((x : Int) + 1) = ((x + 1 : Nat) : Int) from w64_id (by omega) (by omega)]

theorem wrong_loop (k : Nat) (hk : 100 ≤ k) (l : List Mm) (h : ChkOk l) (t : Tab) : ∀ n i : Nat, i ≤ l.length → l.length - i < n →
    ∃ r, runway_wrong.l1 k l t n i = some r ∧ (r.1 < 0 ↔ (l.drop i).Pairwise (Far t)) := by
  intro n
  induction n with
  | zero => intro i _ h; omega
  | succ n ih =>
    intro i hi hn
    have hlen := h.len
    rw [runway_wrong.l1_succ]
    unfold runway_wrong.l1b
    by_cases hlt : i < l.length
    · have hd := drop_cons hlt ((0, (0, (false, 0))) : Mm)
      rw [mm_eq] at hd
      rw [decide_eq_true (p := (i : Int) < ((l.length : Nat) : Int)) (by omega), decide_eq_true (p := 0 ≤ (i : Int)) (by omega)]
      simp only [Bool.and_self, cond_true]
      rw [show w64 ((i : Int) + 1) = ((i + 1 : Nat) : Int) from w64_id (by omega) (by omega), hd, List.pairwise_cons]
      rcases wrong_in k l h t i hlt (fun x => runway_wrong.l1 k l t n x) k (i + 1) (by omega) (by omega) with ⟨j, h1, h2⟩ | ⟨h1, h2⟩
      · exact ⟨_, h1, ⟨fun hh => by simp only at hh; omega, fun hh => absurd hh.1 h2⟩⟩
      · obtain ⟨r, hr, hr2⟩ := ih (i + 1) (by omega) (by omega)
        exact ⟨r, h1.trans hr, hr2.trans ⟨fun hh => ⟨h2, hh⟩, fun hh => hh.2⟩⟩
    · rw [decide_eq_false (p := (i : Int) < ((l.length : Nat) : Int)) (by omega), List.drop_eq_nil_of_le (by omega)]
      exact ⟨(-1, -1), rfl, by simp⟩

theorem wrong_eq (k : Nat) (hk : 100 ≤ k) (l : List Mm) (h : ChkOk l) (t : Tab) : ∃ r, runway_wrong.F k l t = some r ∧ (r.1 < 0 ↔ l.Pairwise (Far t)) :=
  wrong_loop k hk l h t k 0 (by omega) (by have := h.len; omega)

/-! ### The whole plan -/

theorem wcheck_k (k : Nat) (hk : 100 ≤ k) (t : Tab) : ∃ e, wake_Check.F k t = some e ∧ (e = 0 → TabOk t) := by
  obtain ⟨m, rfl⟩ : ∃ m, k = m + 5 := ⟨k - 5, by omega⟩
  rcases wcheck_cases m t with ⟨h1, h2⟩ | ⟨e, he, h⟩
  · exact ⟨0, h1, fun _ => h2⟩
  · exact ⟨e, h, fun z => absurd z he⟩

theorem all_eq (k : Nat) (hk : 100 ≤ k) (l : List Mm) (s : List Sp) (t : Tab) : ∃ e, runway_all.F k l s t = some e ∧ (e = 0 ↔ ChkOk l ∧ SpOk s ∧ wake_Check.F k t = some 0) := by
  unfold runway_all.F
  obtain ⟨e1, h1, g1⟩ := rcheck_eq k hk l
  obtain ⟨e2, h2, g2⟩ := rspans_eq k hk s
  obtain ⟨e3, h3, _⟩ := wcheck_k k hk t
  rw [h1, h2, h3]
  simp only [Option.bind_some]
  by_cases z1 : e1 = 0
  · subst z1
    rw [cond_neg (c := (0 : Int) != 0) (by rfl)]
    by_cases z2 : e2 = 0
    · subst z2
      rw [cond_neg (c := (0 : Int) != 0) (by rfl)]
      exact ⟨e3, rfl, ⟨fun h => ⟨g1.1 rfl, g2.1 rfl, by rw [h]⟩, fun h => Option.some.inj h.2.2⟩⟩
    · rw [cond_pos (by simpa using z2)]
      exact ⟨e2, rfl, ⟨fun h => absurd h z2, fun h => absurd (g2.2 h.2.1) z2⟩⟩
  · rw [cond_pos (by simpa using z1)]
    exact ⟨e1, rfl, ⟨fun h => absurd h z1, fun h => absurd (g1.2 h.1) z1⟩⟩

theorem safe_loop (k : Nat) (hk : 100 ≤ k) (l : List Mm) (h : ChkOk l) (s : List Sp) (hs : SpOk s) : ∀ n i : Nat, i ≤ l.length → l.length - i < n →
    (runway_Safe.l0 k l s n i = some (Sum.inl ()) ∧ ∀ m ∈ l.drop i, opn s m.1 = (m.2.2.2, -1)) ∨ (∃ r : Int × Int × Int, runway_Safe.l0 k l s n i = some (Sum.inr r) ∧ r.2.2 = 14 ∧ ¬ ∀ m ∈ l.drop i, opn s m.1 = (m.2.2.2, -1)) := by
  intro n
  induction n with
  | zero => intro i _ h; omega
  | succ n ih =>
    intro i hi hn
    have hlen := h.len
    rw [runway_Safe.l0_succ]
    unfold runway_Safe.l0b
    by_cases hlt : i < l.length
    · have hd := drop_cons hlt ((0, (0, (false, 0))) : Mm)
      rw [mm_eq] at hd
      rw [decide_eq_true (p := (i : Int) < ((l.length : Nat) : Int)) (by omega), decide_eq_true (p := 0 ≤ (i : Int)) (by omega)]
      simp only [Bool.and_self, cond_true, getD_nat, mm_eq]
      rw [opened_eq k hk s hs, hd]
      simp only [Option.bind_some]
      by_cases h1 : (opn s (mm l i).1).2 ≥ 0
      · rw [decide_eq_true h1]
        refine .inr ⟨_, rfl, rfl, fun hh => ?_⟩
        have := hh _ (List.mem_cons_self ..)
        rw [this] at h1
        simp at h1
      rw [decide_eq_false h1]
      simp only [cond_false, Option.bind_some]
      by_cases h2 : (opn s (mm l i).1).1 = (mm l i).2.2.2
      · rw [cond_neg (by simpa using h2), show w64 ((i : Int) + 1) = ((i + 1 : Nat) : Int) from w64_id (by omega) (by omega)]
        have hw : (opn s (mm l i).1).2 = -1 := by
          have : ∀ (r : List Sp) (e t : Int), Bnd r → (openL t r e).2 = -1 ∨ 0 ≤ (openL t r e).2 := by
            intro r
            induction r with
            | nil => intro e t _; exact .inl rfl
            | cons a r ihr =>
              intro e t hb
              simp only [openL]
              split
              · have := hb a (by simp); exact .inr (by simp only; omega)
              · exact ihr _ _ fun x hx => hb x (List.mem_cons_of_mem _ hx)
          obtain ⟨a, r, rfl⟩ := List.exists_cons_of_ne_nil hs.ne
          have hb := spL_bnd _ _ _ hs.all
          simp only [opn] at h1 ⊢
          split at h1
          · have := hb a (by simp); simp only at h1; omega
          · rename_i hc
            rw [if_neg hc]
            rcases this r a.2 (mm l i).1 (fun x hx => hb x (List.mem_cons_of_mem _ hx)) with h | h
            · exact h
            · exact absurd h h1
        have hop : opn s (mm l i).1 = ((mm l i).2.2.2, -1) := Prod.ext h2 hw
        rcases ih (i + 1) (by omega) (by omega) with ⟨g1, g2⟩ | ⟨r, g1, g2, g3⟩
        · refine .inl ⟨g1, fun m hm => ?_⟩
          rcases List.mem_cons.1 hm with rfl | hm
          · exact hop
          · exact g2 m hm
        · exact .inr ⟨r, g1, g2, fun hh => g3 fun m hm => hh m (List.mem_cons_of_mem _ hm)⟩
      · rw [cond_pos (by simpa using h2)]
        refine .inr ⟨_, rfl, rfl, fun hh => ?_⟩
        have := hh _ (List.mem_cons_self ..)
        rw [this] at h2
        exact h2 rfl
    · rw [decide_eq_false (p := (i : Int) < ((l.length : Nat) : Int)) (by omega), List.drop_eq_nil_of_le (by omega)]
      exact .inl ⟨rfl, fun m hm => by cases hm⟩

structure Plan (k : Nat) (l : List Mm) (s : List Sp) (t : Tab) : Prop where
  chk : ChkOk l
  spans : SpOk s
  table : wake_Check.F k t = some 0
  tab : TabOk t
  opens : ∀ m ∈ l, opn s m.1 = (m.2.2.2, -1)
  far : l.Pairwise (Far t)

theorem safe_eq (k : Nat) (hk : 100 ≤ k) (l : List Mm) (s : List Sp) (t : Tab) : ∃ r, runway_Safe.F k l s t = some r ∧ (r.2.2 = 0 ↔ Plan k l s t) := by
  unfold runway_Safe.F
  obtain ⟨e, he, hz⟩ := all_eq k hk l s t
  rw [he]
  simp only [Option.bind_some]
  by_cases z : e = 0
  · subst z
    obtain ⟨hc, hs, ht⟩ := hz.1 rfl
    have htab : TabOk t := by
      obtain ⟨e, h1, h2⟩ := wcheck_k k hk t
      rw [ht] at h1
      exact h2 (Option.some.inj h1).symm
    rw [cond_neg (c := (0 : Int) != 0) (by rfl)]
    rcases safe_loop k hk l hc s hs k 0 (by omega) (by have := hc.len; omega) with ⟨h1, h2⟩ | ⟨r, h1, h2, h3⟩
    · rw [show ((0 : Nat) : Int) = 0 from rfl] at h1
      rw [h1]
      simp only [Option.bind_some]
      obtain ⟨r, hr, hw⟩ := wrong_eq k hk l hc t
      rw [hr]
      simp only [Option.bind_some]
      by_cases hn : r.1 < 0
      · rw [cond_neg (decide_eq_false (by omega))]
        exact ⟨_, rfl, ⟨fun _ => ⟨hc, hs, ht, htab, h2, hw.1 hn⟩, fun _ => rfl⟩⟩
      · rw [cond_pos (decide_eq_true (by omega))]
        exact ⟨_, rfl, ⟨fun h => absurd (show (15 : Int) = 0 from h) (by decide), fun h => absurd (hw.2 h.far) hn⟩⟩
    · rw [show ((0 : Nat) : Int) = 0 from rfl] at h1
      rw [h1]
      refine ⟨r, rfl, ⟨fun h => by omega, fun h => absurd h.opens h3⟩⟩
  · rw [cond_pos (by simpa using z)]
    exact ⟨_, rfl, ⟨fun h => absurd h z, fun h => absurd (hz.2 ⟨h.chk, h.spans, h.table⟩) z⟩⟩

end Go.Proofs.Ytjppjbgpeiaobaa.RT
