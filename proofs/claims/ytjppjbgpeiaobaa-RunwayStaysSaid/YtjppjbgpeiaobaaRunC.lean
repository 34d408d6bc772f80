/- What is proved here: what an insertion of departures comes to. It asks nothing. -/
import Derived.Test.YtjppjbgpeiaobaaRuT
import Derived.Test.YtjppjbgpeiaobaaPlA
import Derived.Test.YtjppjbgpeiaobaaWakT
import Derived.Test.YtjppjbgpeiaobaaRunA
namespace Go.Proofs.Ytjppjbgpeiaobaa.RT
open Go Go.R

abbrev Rd := Int × Int
def dep (d : Rd) (a e : Int) : Mm := (a, (d.2, (true, e)))

theorem gapv_dep (t : Tab) (m : Mm) (d : Rd) (a e a' e' : Int) : gapv t (dep d a e) m = gapv t (dep d a' e') m ∧ gapv t m (dep d a e) = gapv t m (dep d a' e') := ⟨rfl, rfl⟩

def Clash' (t : Tab) (m : Mm) (d : Rd) (a : Int) : Prop := (a < m.1 ∧ m.1 - a < gapv t (dep d a 0) m) ∨ (m.1 ≤ a ∧ a - m.1 < gapv t m (dep d a 0))
instance (t : Tab) (m : Mm) (d : Rd) (a : Int) : Decidable (Clash' t m d a) := inferInstanceAs (Decidable (_ ∨ _))

theorem later_eq (k : Nat) (t : Tab) (ht : TabOk t) (m : Mm) (hm : MvOk m) (d : Rd) (hd : cls d.2) (a : Int) (h0 : 0 ≤ a) (h1 : a ≤ 201000) :
    runway_later.F k m t d a = some (if Clash' t m d a then m.1 + gapv t m (dep d a 0) else a) := by
  have g1 := rgap_eq k t (dep d a 0) m hd hm.wake
  have g2 := rgap_eq k t m (dep d a 0) hm.wake hd
  have b2 := gapv_bnd ht (a := m) (b := dep d a 0) hm.wake hd
  have ht := hm.time
  unfold runway_later.F
  rw [show ((a, (d.2, (true, 0))) : Mm) = dep d a 0 from rfl, g1, g2, w64_id (n := m.1 - a) (by omega) (by omega), w64_id (n := a - m.1) (by omega) (by omega)]
  simp only [Option.bind_some]
  rw [w64_id (n := m.1 + gapv t m (dep d a 0)) (by omega) (by omega)]
  by_cases c1 : a < m.1
  · rw [decide_eq_true c1, decide_eq_false (p := a ≥ m.1) (by omega)]
    simp only [cond_true, cond_false]
    by_cases c2 : m.1 - a < gapv t (dep d a 0) m
    · rw [decide_eq_true c2, if_pos (show Clash' t m d a from .inl ⟨c1, c2⟩)]
      rfl
    · rw [decide_eq_false c2, if_neg (show ¬ Clash' t m d a from fun h => by unfold Clash' at h; omega)]
      rfl
  · rw [decide_eq_false c1, decide_eq_true (p := a ≥ m.1) (by omega)]
    simp only [cond_true, cond_false]
    by_cases c2 : a - m.1 < gapv t m (dep d a 0)
    · rw [decide_eq_true c2, if_pos (show Clash' t m d a from .inr ⟨by omega, c2⟩)]
      rfl
    · rw [decide_eq_false c2, if_neg (show ¬ Clash' t m d a from fun h => by unfold Clash' at h; omega)]
      rfl

theorem later_up {t : Tab} (ht : TabOk t) {m : Mm} (hm : MvOk m) {d : Rd} (hd : cls d.2) {a : Int} (h : Clash' t m d a) : a < m.1 + gapv t m (dep d a 0) ∧ m.1 + gapv t m (dep d a 0) ≤ 200600 := by
  have b2 := gapv_bnd ht (a := m) (b := dep d a 0) hm.wake hd
  have := hm.time
  rcases h with ⟨h1, h2⟩ | ⟨h1, h2⟩ <;> omega

theorem earliest_in (k : Nat) (l : List Mm) (hc : ChkOk l) (t : Tab) (ht : TabOk t) (d : Rd) (hd : cls d.2) (self : Int × Bool → Option Int) : ∀ (n i : Nat) (a : Int) (mv : Bool), i ≤ l.length → l.length - i < n → 0 ≤ a → a ≤ 201000 →
    ∃ a' mv', runway_earliest.l0 k l t d self n (a, mv, i) = self (a', mv') ∧ a ≤ a' ∧ a' ≤ 201000 ∧ (mv' = true → mv = true ∨ a < a') ∧ (mv' = false → mv = false ∧ a' = a ∧ ∀ m ∈ l.drop i, ¬ Clash' t m d a) := by
  intro n
  induction n with
  | zero => intro i _ _ _ h; omega
  | succ n ih =>
    intro i a mv hi hn h0 h1
    have hlen := hc.len
    rw [runway_earliest.l0_succ]
    unfold runway_earliest.l0b
    dsimp only
    by_cases hlt : i < l.length
    · have hdr := drop_cons hlt ((0, (0, (false, 0))) : Mm)
      rw [mm_eq] at hdr
      have hmv := hc.mv _ (mm_mem hlt)
      rw [decide_eq_true (p := (i : Int) < ((l.length : Nat) : Int)) (by omega), decide_eq_true (p := 0 ≤ (i : Int)) (by omega)]
      simp only [Bool.and_self, cond_true, getD_nat, mm_eq]
      rw [show ((mm l i).1, ((mm l i).2.1, (mm l i).2.2)) = mm l i from rfl, later_eq k t ht _ hmv d hd a h0 h1, show w64 ((i : Int) + 1) = ((i + 1 : Nat) : Int) from w64_id (by omega) (by omega), hdr]
      simp only [Option.bind_some]
      by_cases hcl : Clash' t (mm l i) d a
      · obtain ⟨u1, u2⟩ := later_up ht hmv hd hcl
        rw [if_pos hcl, decide_eq_true (p := _ > a) u1]
        obtain ⟨a', mv', e1, e2, e3, e4, e5⟩ := ih (i + 1) _ true (by omega) (by omega) (show (0 : Int) ≤ (mm l i).1 + gapv t (mm l i) (dep d a 0) by omega) (by omega)
        exact ⟨a', mv', e1, by omega, e3, fun _ => .inr (by omega), fun hf => by have := (e5 hf).1; cases this⟩
      · rw [if_neg hcl, decide_eq_false (p := a > a) (by omega)]
        obtain ⟨a', mv', e1, e2, e3, e4, e5⟩ := ih (i + 1) a mv (by omega) (by omega) h0 h1
        refine ⟨a', mv', e1, e2, e3, e4, fun hf => ?_⟩
        obtain ⟨f1, f2, f3⟩ := e5 hf
        refine ⟨f1, f2, fun m hm => ?_⟩
        rcases List.mem_cons.1 hm with rfl | hm
        · exact hcl
        · exact f3 m hm
    · rw [decide_eq_false (p := (i : Int) < ((l.length : Nat) : Int)) (by omega), List.drop_eq_nil_of_le (by omega)]
      exact ⟨a, mv, rfl, by omega, h1, fun h => .inl h, fun h => ⟨h, rfl, fun m hm => by cases hm⟩⟩

theorem openL_wait (t : Int) : ∀ (r : List Sp) (e : Int), Bnd r → 0 ≤ e → e ≤ 1 → ((openL t r e).2 = -1 ∨ t < (openL t r e).2 ∧ (openL t r e).2 ≤ 200180) ∧ 0 ≤ (openL t r e).1 ∧ (openL t r e).1 ≤ 1
  | [], e, _, h0, h1 => by exact ⟨.inl rfl, h0, h1⟩
  | s :: r, e, hb, h0, h1 => by
    have hs := hb s (by simp)
    simp only [openL]
    split
    · refine ⟨.inr ⟨by simp only; omega, by simp only; omega⟩, by simp, by simp⟩
    · split
      · exact openL_wait t r s.2 (fun x hx => hb x (List.mem_cons_of_mem _ hx)) hs.2.2.1 hs.2.2.2
      · exact openL_wait t r e (fun x hx => hb x (List.mem_cons_of_mem _ hx)) h0 h1

theorem opn_wait {l : List Sp} (h : SpOk l) (t : Int) : ((opn l t).2 = -1 ∨ t < (opn l t).2 ∧ (opn l t).2 ≤ 200180) ∧ 0 ≤ (opn l t).1 ∧ (opn l t).1 ≤ 1 := by
  obtain ⟨a, r, rfl⟩ := List.exists_cons_of_ne_nil h.ne
  have hb := spL_bnd _ _ _ h.all
  have ha := hb a (by simp)
  simp only [opn]
  split
  · exact ⟨.inr ⟨by simp only; omega, by simp only; omega⟩, by simp, by simp⟩
  · exact openL_wait t r a.2 (fun x hx => hb x (List.mem_cons_of_mem _ hx)) ha.2.2.1 ha.2.2.2

def Fits (l : List Mm) (s : List Sp) (t : Tab) (d : Rd) (a : Int) : Prop := (opn s a).2 = -1 ∧ ∀ m ∈ l, ¬ Clash' t m d a

theorem earliest_out (k : Nat) (hk : 100 ≤ k) (l : List Mm) (s : List Sp) (hs : SpOk s) (hc : ChkOk l) (t : Tab) (ht : TabOk t) (d : Rd) (hd : cls d.2) : ∀ (n : Nat) (a : Int) (mv : Bool), 0 ≤ a → a ≤ 201000 → (mv = false → Fits l s t d a) → 2 * (201000 - a).toNat + (if mv = true then 1 else 0) < n →
    ∃ a', runway_earliest.l1 k l s t d n (a, mv) = some a' ∧ a ≤ a' ∧ a' ≤ 201000 ∧ Fits l s t d a' := by
  intro n
  induction n with
  | zero => intro a mv _ _ _ h; omega
  | succ n ih =>
    intro a mv h0 h1 hf hn
    have hlen := hc.len
    rw [runway_earliest.l1_succ]
    unfold runway_earliest.l1b
    dsimp only
    cases mv with
    | false => exact ⟨a, rfl, by omega, h1, hf rfl⟩
    | true =>
      rw [opened_eq k hk s hs]
      simp only [cond_true, Option.bind_some]
      simp only [if_true] at hn
      obtain ⟨hw, _⟩ := opn_wait hs a
      by_cases hw2 : (opn s a).2 > a
      · rw [decide_eq_true hw2]
        simp only [cond_true, Option.bind_some]
        obtain ⟨a', mv', e1, e2, e3, e4, e5⟩ := earliest_in k l hc t ht d hd (fun x => runway_earliest.l1 k l s t d n x) k 0 (opn s a).2 true (by omega) (by omega) (by omega) (by omega)
        cases mv' with
        | false => have := (e5 rfl).1; cases this
        | true =>
          obtain ⟨b, g1, g2, g3, g4⟩ := ih a' true (by omega) e3 (fun h => by cases h) (by simp only [if_true]; omega)
          exact ⟨b, e1.trans g1, by omega, g3, g4⟩
      · rw [decide_eq_false hw2]
        simp only [cond_false, Option.bind_some]
        obtain ⟨a', mv', e1, e2, e3, e4, e5⟩ := earliest_in k l hc t ht d hd (fun x => runway_earliest.l1 k l s t d n x) k 0 a false (by omega) (by omega) h0 h1
        cases mv' with
        | false =>
          obtain ⟨_, f2, f3⟩ := e5 rfl
          subst f2
          obtain ⟨b, g1, g2, g3, g4⟩ := ih a' false h0 h1 (fun _ => ⟨by omega, fun m hm => f3 m (by simpa using hm)⟩) (by simp only [Bool.false_eq_true, if_false]; omega)
          exact ⟨b, e1.trans g1, by omega, g3, g4⟩
        | true =>
          have : a < a' := by
            rcases e4 rfl with h | h
            · cases h
            · exact h
          obtain ⟨b, g1, g2, g3, g4⟩ := ih a' true (by omega) e3 (fun h => by cases h) (by simp only [if_true]; omega)
          exact ⟨b, e1.trans g1, by omega, g3, g4⟩

theorem earliest_eq (k : Nat) (hk : 500000 ≤ k) (l : List Mm) (s : List Sp) (hs : SpOk s) (hc : ChkOk l) (t : Tab) (ht : TabOk t) (d : Rd) (hd : cls d.2) (h0 : 0 ≤ d.1) (h1 : d.1 ≤ 200000) :
    ∃ a, runway_earliest.F k l s t d = some a ∧ d.1 ≤ a ∧ a ≤ 201000 ∧ Fits l s t d a :=
  earliest_out k (by omega) l s hs hc t ht d hd k d.1 true h0 (by omega) (fun h => by cases h) (by simp only [if_true]; omega)

/-! ### One insertion -/

theorem place_loop (k : Nat) (l : List Mm) (hl : l.length ≤ 24) (hs : l.Pairwise fun a b => a.1 ≤ b.1) (x : Int) (a : Int) : ∀ n i : Nat, i ≤ l.length → l.length - i < n → (∀ m ∈ l.take i, m.1 < a) →
    ∃ j : Nat, runway_Insert.l0 k (x, l) a n i = some (Sum.inl (j : Int)) ∧ j ≤ l.length ∧ (∀ m ∈ l.take j, m.1 < a) ∧ ∀ m ∈ l.drop j, a ≤ m.1 := by
  intro n
  induction n with
  | zero => intro i _ h; omega
  | succ n ih =>
    intro i hi hn hp
    rw [runway_Insert.l0_succ]
    unfold runway_Insert.l0b
    dsimp only
    by_cases hlt : i < l.length
    · have hd := drop_cons hlt ((0, (0, (false, 0))) : Mm)
      rw [mm_eq] at hd
      rw [decide_eq_true (p := (i : Int) < ((l.length : Nat) : Int)) (by omega), decide_eq_true (p := 0 ≤ (i : Int)) (by omega)]
      simp only [Bool.and_self, cond_true, getD_nat, mm_eq, Option.bind_some]
      by_cases h : (mm l i).1 < a
      · rw [decide_eq_true h, show w64 ((i : Int) + 1) = ((i + 1 : Nat) : Int) from w64_id (by omega) (by omega)]
        refine ih (i + 1) (by omega) (by omega) fun m hm => ?_
        have e : l.take (i + 1) = l.take i ++ [mm l i] := by
          rw [List.take_add_one]
          unfold mm
          simp [List.getD, hlt]
        rw [e] at hm
        rcases List.mem_append.1 hm with hm | hm
        · exact hp m hm
        · rw [List.mem_singleton.1 hm]; exact h
      · rw [decide_eq_false h]
        refine ⟨i, rfl, hi, hp, fun m hm => ?_⟩
        have hsd : (l.drop i).Pairwise fun a b => a.1 ≤ b.1 := hs.drop
        rw [hd] at hm hsd
        rcases List.mem_cons.1 hm with rfl | hm
        · omega
        · have := (List.pairwise_cons.1 hsd).1 m hm
          omega
    · rw [decide_eq_false (p := (i : Int) < ((l.length : Nat) : Int)) (by omega)]
      refine ⟨i, rfl, hi, hp, fun m hm => ?_⟩
      rw [List.drop_eq_nil_of_le (by omega)] at hm
      cases hm

theorem ins_plan {k : Nat} {A B : List Mm} {s : List Sp} {t : Tab} (h : Plan k (A ++ B) s t) (hl : (A ++ B).length < 24) {d : Rd} (hd : cls d.2) {a : Int} (h0 : 0 ≤ a) (h1 : a ≤ 200000) (hA : ∀ m ∈ A, m.1 < a) (hB : ∀ m ∈ B, a ≤ m.1) (hf : Fits (A ++ B) s t d a) : Plan k (A ++ [dep d a (opn s a).1] ++ B) s t := by
  obtain ⟨_, he⟩ := opn_wait h.spans a
  have hmem : ∀ m ∈ A ++ [dep d a (opn s a).1] ++ B, m = dep d a (opn s a).1 ∨ m ∈ A ++ B := fun m hm => by
    simp only [List.mem_append, List.mem_singleton] at hm ⊢
    rcases hm with (hm | hm) | hm
    · exact .inr (.inl hm)
    · exact .inl hm
    · exact .inr (.inr hm)
  have hall := h.chk.mv
  obtain ⟨o1, o2, o3⟩ := List.pairwise_append.1 h.chk.ord
  obtain ⟨f1, f2, f3⟩ := List.pairwise_append.1 h.far
  refine ⟨⟨by simp at hl ⊢; omega, fun m hm => ?_, ?_⟩, h.spans, h.table, h.tab, fun m hm => ?_, ?_⟩
  · rcases hmem m hm with rfl | hm
    · exact ⟨⟨h0, h1⟩, hd, he⟩
    · exact hall m hm
  · rw [List.append_assoc]
    refine List.pairwise_append.2 ⟨o1, ?_, fun x hx y hy => ?_⟩
    · rw [List.singleton_append]
      exact List.pairwise_cons.2 ⟨fun y hy => hB y hy, o2⟩
    · rcases List.mem_append.1 hy with hy | hy
      · rw [List.mem_singleton.1 hy]
        have := hA x hx
        show x.1 ≤ a
        omega
      · exact o3 x hx y hy
  · rcases hmem m hm with rfl | hm
    · exact Prod.ext rfl hf.1
    · exact h.opens m hm
  · rw [List.append_assoc]
    refine List.pairwise_append.2 ⟨f1, ?_, fun x hx y hy => ?_⟩
    · rw [List.singleton_append]
      refine List.pairwise_cons.2 ⟨fun y hy => ?_, f2⟩
      have hc := hf.2 y (List.mem_append_right _ hy)
      have hb := hB y hy
      have hy' := hall y (List.mem_append_right _ hy)
      have hg := gapv_bnd h.tab (a := y) (b := dep d a 0) hy'.wake hd
      unfold Clash' at hc
      show gapv t (dep d a 0) y ≤ y.1 - a
      have e1 : ¬ (a < y.1 ∧ y.1 - a < gapv t (dep d a 0) y) := fun z => hc (.inl z)
      have e2 : ¬ (y.1 ≤ a ∧ a - y.1 < gapv t y (dep d a 0)) := fun z => hc (.inr z)
      omega
    · rcases List.mem_append.1 hy with hy | hy
      · rw [List.mem_singleton.1 hy]
        have hc := hf.2 x (List.mem_append_left _ hx)
        have hb := hA x hx
        have e2 : ¬ (x.1 ≤ a ∧ a - x.1 < gapv t x (dep d a 0)) := fun z => hc (.inr z)
        show gapv t x (dep d a 0) ≤ a - x.1
        omega
      · exact f3 x hx y hy

def rd (l : List Rd) (j : Nat) : Rd := l.getD j (0, 0)

/-- One departure is put in. -/
structure Put (k : Nat) (s : List Sp) (t : Tab) (l : List Mm) (d : Rd) (l' : List Mm) : Prop where
  plan : Plan k l' s t
  len : l'.length = l.length + 1
  perm : ∃ x : Mm, x.2.2.1 = true ∧ l'.Perm (x :: l)
  step : ∀ (ds : List Rd) (i : Nat) (self : Int × List Mm → Option (List Mm × Int)), ds.length ≤ 24 → i < ds.length → rd ds i = d → runway_Insert.l1b k s t ds self ((i : Int), l) = self (((i + 1 : Nat) : Int), l')

def Bad (k : Nat) (s : List Sp) (t : Tab) (l : List Mm) (d : Rd) : Prop :=
  ∃ e : Int, e ≠ 0 ∧ ∀ (ds : List Rd) (i : Nat) (self : Int × List Mm → Option (List Mm × Int)), ds.length ≤ 24 → i < ds.length → rd ds i = d → runway_Insert.l1b k s t ds self ((i : Int), l) = some ([], e)

theorem put_cases (k : Nat) (hk : 500000 ≤ k) (s : List Sp) (t : Tab) (l : List Mm) (h : Plan k l s t) (hl : l.length < 24) (d : Rd) : (∃ l', Put k s t l d l') ∨ Bad k s t l d := by
  have start : ∀ (ds : List Rd) (i : Nat) (self : Int × List Mm → Option (List Mm × Int)), ds.length ≤ 24 → i < ds.length → rd ds i = d → runway_Insert.l1b k s t ds self ((i : Int), l) =
      (bif (decide (d.1 < 0)) then some true else some (decide (d.1 > 200000))).bind fun b5 => bif b5 then some ([], 12) else (wake_Class.F k d.2).bind fun r6 => bif (r6 != 0) then some ([], r6) else (runway_earliest.F k l s t d).bind fun r7 => bif (decide (r7 > 200000)) then some ([], 8) else (runway_opened.F k s r7).bind fun r8 => (runway_Insert.l0 k ((i : Int), l) r7 k 0).bind fun y => match y with | Sum.inl x12 => (slices_Insert_api_RunwayMove.F k l x12 [dep d r7 r8.1]).bind fun r14 => self (((i + 1 : Nat) : Int), r14) | Sum.inr y13 => some y13 := fun ds i self h24 hi hd => by
    unfold runway_Insert.l1b
    dsimp only
    rw [decide_eq_true (p := (i : Int) < ((ds.length : Nat) : Int)) (by omega), decide_eq_true (p := 0 ≤ (i : Int)) (by omega)]
    simp only [Bool.and_self, cond_true, getD_nat]
    rw [show ds.getD i (0, 0) = d from hd, show w64 ((i : Int) + 1) = ((i + 1 : Nat) : Int) from w64_id (by omega) (by omega)]
    rfl
  by_cases h1 : d.1 < 0
  · refine .inr ⟨12, by decide, fun ds i self h24 hi hd => ?_⟩
    rw [start ds i self h24 hi hd, decide_eq_true h1]
    rfl
  by_cases h2 : d.1 > 200000
  · refine .inr ⟨12, by decide, fun ds i self h24 hi hd => ?_⟩
    rw [start ds i self h24 hi hd, decide_eq_false h1, decide_eq_true h2]
    rfl
  by_cases h3 : ¬ cls d.2
  · refine .inr ⟨1, by decide, fun ds i self h24 hi hd => ?_⟩
    rw [start ds i self h24 hi hd, decide_eq_false h1, decide_eq_false h2, class_neg h3]
    rfl
  have h3 : cls d.2 := Decidable.not_not.1 h3
  obtain ⟨a, ha, ha0, ha1, hf⟩ := earliest_eq k hk l s h.spans h.chk t h.tab d h3 (by omega) (by omega)
  by_cases h4 : a > 200000
  · refine .inr ⟨8, by decide, fun ds i self h24 hi hd => ?_⟩
    rw [start ds i self h24 hi hd, decide_eq_false h1, decide_eq_false h2, class_pos h3, ha]
    simp only [cond_false, Option.bind_some]
    rw [cond_neg (c := (0 : Int) != 0) (by rfl), decide_eq_true h4]
    rfl
  have hpl : ∀ x : Int, ∃ j : Nat, runway_Insert.l0 k (x, l) a k 0 = some (Sum.inl (j : Int)) ∧ j ≤ l.length ∧ (∀ m ∈ l.take j, m.1 < a) ∧ ∀ m ∈ l.drop j, a ≤ m.1 := fun x =>
    place_loop k l (by omega) h.chk.ord x a k 0 (by omega) (by omega) (fun m hm => by simp at hm)
  obtain ⟨j, _, hj, hA, hB⟩ := hpl 0
  have hsplit : l.take j ++ l.drop j = l := List.take_append_drop j l
  have hplan : Plan k (l.take j ++ [dep d a (opn s a).1] ++ l.drop j) s t := by
    refine ins_plan (by rw [hsplit]; exact h) (by rw [hsplit]; exact hl) h3 (by omega) (by omega) hA hB (by rw [hsplit]; exact hf)
  refine .inl ⟨l.take j ++ [dep d a (opn s a).1] ++ l.drop j, hplan, by simp; omega, ⟨dep d a (opn s a).1, rfl, ?_⟩, fun ds i self h24 hi hd => ?_⟩
  · rw [List.append_assoc, List.singleton_append]
    refine List.perm_middle.trans (List.Perm.cons _ ?_)
    rw [hsplit]
  · rw [start ds i self h24 hi hd, decide_eq_false h1, decide_eq_false h2, class_pos h3, ha]
    simp only [cond_false, Option.bind_some]
    rw [cond_neg (c := (0 : Int) != 0) (by rfl), decide_eq_false h4, opened_eq k (by omega) s h.spans]
    simp only [cond_false, Option.bind_some]
    obtain ⟨j', hj1, hj2, hA', hB'⟩ := hpl i
    have : j' = j := by
      rcases Nat.lt_trichotomy j' j with hlt | heq | hlt
      · have hj' : j' < l.length := by omega
        have m1 : mm l j' ∈ l.drop j' := by rw [drop_cons hj' ((0, (0, (false, 0))) : Mm), mm_eq]; simp
        have m2 : mm l j' ∈ l.take j := by
          refine List.mem_iff_getElem.2 ⟨j', by simp; omega, ?_⟩
          unfold mm
          simp [List.getD, hj']
        have := hB' _ m1
        have := hA _ m2
        omega
      · exact heq
      · have hj' : j < l.length := by omega
        have m1 : mm l j ∈ l.drop j := by rw [drop_cons hj' ((0, (0, (false, 0))) : Mm), mm_eq]; simp
        have m2 : mm l j ∈ l.take j' := by
          refine List.mem_iff_getElem.2 ⟨j, by simp; omega, ?_⟩
          unfold mm
          simp [List.getD, hj']
        have := hB _ m1
        have := hA' _ m2
        omega
    subst this
    rw [hj1]
    simp only [Option.bind_some]
    unfold slices_Insert_api_RunwayMove.F insF
    rw [decide_eq_true (p := 0 ≤ (j' : Int)) (by omega), decide_eq_true (p := (j' : Int) ≤ (l.length : Int)) (by omega), Nat.ble_eq_true_of_le (n := 1) (by simp), Nat.ble_eq_true_of_le (show (l.length + [dep d a (opn s a).1].length) * 32 ≤ 140737488355328 by simp; omega)]
    simp only [Bool.and_self, cond_true, Option.bind_some, Int.toNat_natCast]

/-! ### Several insertions -/

inductive Chain (k : Nat) (s : List Sp) (t : Tab) : List Mm → List Rd → List Mm → Prop
  | nil (l : List Mm) : Chain k s t l [] l
  | cons {l l' out : List Mm} {d : Rd} {ds : List Rd} (h : Put k s t l d l') (c : Chain k s t l' ds out) : Chain k s t l (d :: ds) out

theorem Chain.facts {k : Nat} {s : List Sp} {t : Tab} {l : List Mm} {ds : List Rd} {out : List Mm} (c : Chain k s t l ds out) (h : Plan k l s t) : Plan k out s t ∧ out.length = l.length + ds.length ∧ ∃ D : List Mm, (∀ x ∈ D, x.2.2.1 = true) ∧ out.Perm (D ++ l) := by
  induction c with
  | nil l => exact ⟨h, by simp, [], by simp, List.Perm.refl _⟩
  | cons hp _ ih =>
    obtain ⟨h1, h2, D, h3, h4⟩ := ih hp.plan
    obtain ⟨x, hx, hxp⟩ := hp.perm
    refine ⟨h1, by rw [h2, hp.len]; simp; omega, D ++ [x], fun y hy => ?_, ?_⟩
    · rcases List.mem_append.1 hy with hy | hy
      · exact h3 y hy
      · rw [List.mem_singleton.1 hy]; exact hx
    · rw [List.append_assoc, List.singleton_append]
      exact h4.trans (List.Perm.append_left _ hxp)

theorem insert_loop (k : Nat) (hk : 500000 ≤ k) (s : List Sp) (t : Tab) (ds : List Rd) (hd : ds.length ≤ 24) : ∀ (n i : Nat) (l : List Mm), i ≤ ds.length → ds.length - i < n → Plan k l s t → l.length + (ds.length - i) ≤ 24 →
    (∃ e, e ≠ 0 ∧ runway_Insert.l1 k s t ds n ((i : Int), l) = some ([], e)) ∨ ∃ out, runway_Insert.l1 k s t ds n ((i : Int), l) = some (out, 0) ∧ Chain k s t l (ds.drop i) out := by
  intro n
  induction n with
  | zero => intro i _ _ h; omega
  | succ n ih =>
    intro i l hi hn h hl
    rw [runway_Insert.l1_succ]
    by_cases hlt : i < ds.length
    · have hdr := drop_cons hlt ((0, 0) : Rd)
      rw [hdr]
      rcases put_cases k hk s t l h (by omega) (rd ds i) with ⟨l', hp⟩ | ⟨e, he, hb⟩
      · rw [hp.step ds i _ hd hlt rfl]
        rcases ih (i + 1) l' (by omega) (by omega) hp.plan (by rw [hp.len]; omega) with ⟨e, he, h1⟩ | ⟨out, h1, h2⟩
        · exact .inl ⟨e, he, h1⟩
        · exact .inr ⟨out, h1, .cons hp h2⟩
      · exact .inl ⟨e, he, hb ds i _ hd hlt rfl⟩
    · unfold runway_Insert.l1b
      dsimp only
      rw [decide_eq_false (p := (i : Int) < ((ds.length : Nat) : Int)) (by omega), List.drop_eq_nil_of_le (by omega)]
      exact .inr ⟨l, rfl, .nil l⟩

theorem chain_loop (k : Nat) (s : List Sp) (t : Tab) (ds : List Rd) (hd : ds.length ≤ 24) : ∀ (n i : Nat) (l out : List Mm), i ≤ ds.length → ds.length - i < n → Chain k s t l (ds.drop i) out → runway_Insert.l1 k s t ds n ((i : Int), l) = some (out, 0) := by
  intro n
  induction n with
  | zero => intro i _ _ _ h; omega
  | succ n ih =>
    intro i l out hi hn c
    rw [runway_Insert.l1_succ]
    by_cases hlt : i < ds.length
    · have hdr := drop_cons hlt ((0, 0) : Rd)
      rw [hdr] at c
      cases c with
      | cons hp c =>
        rw [hp.step ds i _ hd hlt rfl]
        exact ih (i + 1) _ out (by omega) (by omega) c
    · rw [List.drop_eq_nil_of_le (by omega)] at c
      cases c
      unfold runway_Insert.l1b
      dsimp only
      rw [decide_eq_false (p := (i : Int) < ((ds.length : Nat) : Int)) (by omega)]
      rfl

theorem clone_mm (k : Nat) (l : List Mm) (h : l.length ≤ 24) : slices_Clone_api_RunwayMove.F k l = some l := by
  unfold slices_Clone_api_RunwayMove.F
  rw [cond_pos (Nat.ble_eq_true_of_le (by omega)), List.nil_append]

attribute [local irreducible] runway_Safe.F

theorem insert_cases (k : Nat) (hk : 500000 ≤ k) (l : List Mm) (s : List Sp) (t : Tab) (ds : List Rd) (hfit : ds.length ≤ 9000000000000000000) : (∃ e, e ≠ 0 ∧ runway_Insert.F k l s t ds = some ([], e)) ∨
    ∃ out, runway_Insert.F k l s t ds = some (out, 0) ∧ Plan k l s t ∧ l.length + ds.length ≤ 24 ∧ Chain k s t l ds out := by
  unfold runway_Insert.F
  obtain ⟨r, hr, hz⟩ := safe_eq k (by omega) l s t
  rw [hr]
  simp only [Option.bind_some]
  by_cases h1 : r.2.2 ≠ 0
  · rw [cond_pos (c := r.2.2 != 0) (by simpa using h1)]
    exact .inl ⟨_, h1, rfl⟩
  have h1 : r.2.2 = 0 := Decidable.not_not.1 h1
  have hp := hz.1 h1
  have hlen := hp.chk.len
  rw [cond_neg (c := r.2.2 != 0) (by simpa using h1), w64_id (by omega) (by omega)]
  by_cases h2 : l.length + ds.length ≤ 24
  · rw [cond_neg (decide_eq_false (by omega)), clone_mm k l hlen]
    simp only [Option.bind_some]
    rcases insert_loop k hk s t ds (by omega) k 0 l (by omega) (by omega) hp (by omega) with ⟨e, he, h⟩ | ⟨out, h, c⟩
    · exact .inl ⟨e, he, h⟩
    · exact .inr ⟨out, h, hp, h2, c⟩
  · rw [cond_pos (decide_eq_true (by omega))]
    exact .inl ⟨2, by decide, rfl⟩

theorem insert_chain (k : Nat) (hk : 500000 ≤ k) (l : List Mm) (s : List Sp) (t : Tab) (ds : List Rd) (out : List Mm) (hp : Plan k l s t) (h2 : l.length + ds.length ≤ 24) (c : Chain k s t l ds out) : runway_Insert.F k l s t ds = some (out, 0) := by
  unfold runway_Insert.F
  obtain ⟨r, hr, hz⟩ := safe_eq k (by omega) l s t
  rw [hr]
  simp only [Option.bind_some]
  rw [cond_neg (c := r.2.2 != 0) (by simpa using hz.2 hp), w64_id (by omega) (by omega), cond_neg (decide_eq_false (by omega)), clone_mm k l (by omega)]
  simp only [Option.bind_some]
  exact chain_loop k s t ds (by omega) k 0 l out (by omega) (by omega) c

end Go.Proofs.Ytjppjbgpeiaobaa.RT
