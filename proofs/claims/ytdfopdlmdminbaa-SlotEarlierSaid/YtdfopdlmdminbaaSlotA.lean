/- What is proved here: what the check and the assignment of slots come to. They ask nothing. -/
import Derived.Test.YtdfopdlmdminbaaSlT
import Derived.Test.YtdfopdlmdminbaaPlA
import Derived.Test.YtdfopdlmdminbaaStrA
import Derived.Test.YtdfopdlmdminbaaStrB
import Derived.Test.YtdfopdlmdminbaaNameA
import Derived.Test.YtdfopdlmdminbaaCmpA
import Derived.Test.YtdfopdlmdminbaaFlowT
namespace Go.Proofs.Ytdfopdlmdminbaa.RT
open Go Go.R

attribute [local irreducible] chart_Name.F

theorem name_total (k : Nat) (hk : 10 ≤ k) (s : ByteArray) : ∃ b, slot_Name.F k s = some b := by
  obtain ⟨b, hb⟩ := cname_total k hk s
  refine ⟨b, ?_⟩
  unfold slot_Name.F owner_Name.F sector_Name.F
  rw [hb]
  rfl

attribute [local irreducible] slot_Name.F

theorem ba_inj {a b : ByteArray} (h : a.toList = b.toList) : a = b := by
  rw [ByteArray.toList_eq, ByteArray.toList_eq] at h
  exact ByteArray.ext (Array.toList_inj.1 h)
theorem ba_dec (a b : ByteArray) : (a.toList == b.toList) = decide (a = b) := by
  by_cases h : a = b
  · subst h; simp
  · rw [decide_eq_false h]
    simpa using fun e => h (ba_inj e)

abbrev Dm := ByteArray × Int
abbrev Sl := ByteArray × ByteArray × Int
def dm (l : List Dm) (j : Nat) : Dm := l.getD j (ByteArray.empty, 0)
def sl (l : List Sl) (j : Nat) : Sl := l.getD j (ByteArray.empty, (ByteArray.empty, 0))
theorem dm_eq (l : List Dm) (j : Nat) : l.getD j (ByteArray.empty, 0) = dm l j := rfl
theorem sl_eq (l : List Sl) (j : Nat) : l.getD j (ByteArray.empty, (ByteArray.empty, 0)) = sl l j := rfl
theorem getD_mem {α : Type} {l : List α} {j : Nat} (d : α) (h : j < l.length) : l.getD j d ∈ l := by simp [List.getD, h]
theorem getD_get {α : Type} {l : List α} {j : Nat} (d : α) (h : j < l.length) : l.getD j d = l[j] := by simp [List.getD, h]

/-! ### The check -/

theorem scheck_in (k : Nat) (l : List Dm) (hl : l.length ≤ 24) (x : Nat) (hx : x < l.length) (self : Int → Option Int) : ∀ n i : Nat, i ≤ x → x - i < n →
    (slot_Check.l0 k l x self n i = some 7 ∧ ¬ ∀ j, i ≤ j → j < x → (dm l j).1 ≠ (dm l x).1) ∨ (slot_Check.l0 k l x self n i = self ((x + 1 : Nat) : Int) ∧ ∀ j, i ≤ j → j < x → (dm l j).1 ≠ (dm l x).1) := by
  intro n
  induction n with
  | zero => intro i _ h; omega
  | succ n ih =>
    intro i hi hm
    rw [slot_Check.l0_succ]
    unfold slot_Check.l0b
    have hlen : (l.take (x : Int).toNat).length = x := by simp; omega
    rw [hlen]
    by_cases hlt : i < x
    · rw [decide_eq_true (p := (i : Int) < ((x : Nat) : Int)) (by omega), decide_eq_true (p := 0 ≤ (i : Int)) (by omega), show w64 ((i : Int) + 1) = ((i + 1 : Nat) : Int) from w64_id (by omega) (by omega)]
      simp only [Bool.and_self, cond_true]
      have e1 : (l.take (x : Int).toNat).getD (i : Int).toNat (ByteArray.empty, 0) = dm l i := by
        rw [Int.toNat_natCast, Int.toNat_natCast, List.getD_eq_getElem?_getD, List.getElem?_take, if_pos hlt, ← List.getD_eq_getElem?_getD]; rfl
      have e2 : l.getD (x : Int).toNat (ByteArray.empty, 0) = dm l x := by rw [getD_nat]; rfl
      rw [e1, e2, ba_dec]
      by_cases hc : (dm l i).1 = (dm l x).1
      · rw [cond_pos (decide_eq_true hc)]
        exact .inl ⟨rfl, fun h => h i (by omega) hlt hc⟩
      · rw [cond_neg (decide_eq_false hc)]
        rcases ih (i + 1) (by omega) (by omega) with ⟨h1, h2⟩ | ⟨h1, h2⟩
        · exact .inl ⟨h1, fun h => h2 fun j hj => h j (by omega)⟩
        · refine .inr ⟨h1, fun j hj hj' => ?_⟩
          by_cases e : j = i
          · subst e; exact hc
          · exact h2 j (by omega) hj'
    · rw [decide_eq_false (p := (i : Int) < ((x : Nat) : Int)) (by omega), show w64 ((x : Int) + 1) = ((x + 1 : Nat) : Int) from w64_id (by omega) (by omega)]
      exact .inr ⟨rfl, fun j hj hj' => by omega⟩

structure DmIn (k : Nat) (d : Dm) : Prop where
  name : slot_Name.F k d.1 = some true
  time : 0 ≤ d.2 ∧ d.2 ≤ 200000

theorem scheck_out (k : Nat) (hk : 100 ≤ k) (l : List Dm) (hl : l.length ≤ 24) : ∀ n i : Nat, i ≤ l.length → l.length - i < n →
    ∃ e, slot_Check.l1 k l n i = some e ∧ (e = 0 ↔ ∀ x, i ≤ x → x < l.length → DmIn k (dm l x) ∧ ∀ j, j < x → (dm l j).1 ≠ (dm l x).1) := by
  intro n
  induction n with
  | zero => intro i _ h; omega
  | succ n ih =>
    intro i hi hn
    rw [slot_Check.l1_succ]
    unfold slot_Check.l1b
    by_cases hlt : i < l.length
    · rw [decide_eq_true (p := (i : Int) < ((l.length : Nat) : Int)) (by omega), decide_eq_true (p := 0 ≤ (i : Int)) (by omega)]
      simp only [Bool.and_self, cond_true, getD_nat, dm_eq]
      obtain ⟨b, hb⟩ := name_total k (by omega) (dm l i).1
      rw [hb]
      simp only [Option.bind_some]
      cases b with
      | false => exact ⟨3, rfl, ⟨fun h => absurd h (by decide), fun h => by have := (h i (by omega) hlt).1.name; rw [hb] at this; cases this⟩⟩
      | true =>
        simp only [Bool.not_true, cond_false]
        by_cases c1 : (dm l i).2 < 0
        · rw [decide_eq_true c1]
          exact ⟨12, rfl, ⟨fun h => absurd h (by decide), fun h => by have := (h i (by omega) hlt).1.time.1; omega⟩⟩
        rw [decide_eq_false c1]
        by_cases c2 : (dm l i).2 > 200000
        · rw [decide_eq_true c2]
          exact ⟨12, rfl, ⟨fun h => absurd h (by decide), fun h => by have := (h i (by omega) hlt).1.time.2; omega⟩⟩
        rw [decide_eq_false c2, decide_eq_true (p := (i : Int) ≤ ((l.length : Nat) : Int)) (by omega)]
        simp only [cond_false, Option.bind_some]
        rcases scheck_in k l hl i hlt (fun x => slot_Check.l1 k l n x) k 0 (by omega) (by omega) with ⟨g, g2⟩ | ⟨g, g2⟩
        · rw [show ((0 : Nat) : Int) = 0 from rfl] at g
          rw [g]
          exact ⟨7, rfl, ⟨fun h => absurd h (by decide), fun h => absurd (fun j _ hj => (h i (by omega) hlt).2 j hj) g2⟩⟩
        · rw [show ((0 : Nat) : Int) = 0 from rfl] at g
          rw [g]
          obtain ⟨e, h1, h2⟩ := ih (i + 1) (by omega) (by omega)
          refine ⟨e, h1, h2.trans ⟨fun h x hx hx' => ?_, fun h x hx => h x (by omega)⟩⟩
          by_cases q : x = i
          · subst q; exact ⟨⟨hb, by omega, by omega⟩, fun j hj => g2 j (by omega) hj⟩
          · exact h x (by omega) hx'
    · rw [decide_eq_false (p := (i : Int) < ((l.length : Nat) : Int)) (by omega)]
      exact ⟨0, rfl, ⟨fun _ x hx hx' => by omega, fun _ => rfl⟩⟩

structure DmOk (k : Nat) (l : List Dm) : Prop where
  len : l.length ≤ 24
  each : ∀ d ∈ l, DmIn k d
  apart : l.Pairwise fun a b => a.1 ≠ b.1

theorem scheck_eq (k : Nat) (hk : 100 ≤ k) (l : List Dm) : ∃ e, slot_Check.F k l = some e ∧ (e = 0 ↔ DmOk k l) := by
  unfold slot_Check.F
  by_cases hl : l.length ≤ 24
  · rw [cond_neg (decide_eq_false (by omega))]
    obtain ⟨e, h1, h2⟩ := scheck_out k hk l hl k 0 (by omega) (by omega)
    refine ⟨e, h1, h2.trans ⟨fun h => ⟨hl, fun d hd => ?_, ?_⟩, fun h x _ hx => ⟨h.each _ (getD_mem _ hx), fun j hj => ?_⟩⟩⟩
    · obtain ⟨j, hj, e⟩ := List.mem_iff_getElem.1 hd
      have := (h j (by omega) hj).1
      unfold dm at this
      rwa [getD_get _ hj, e] at this
    · rw [List.pairwise_iff_getElem]
      intro i j hi hj hij
      have := (h j (by omega) hj).2 i hij
      unfold dm at this
      rwa [getD_get _ hj, getD_get _ hi] at this
    · have := List.pairwise_iff_getElem.1 h.apart j x (by omega) hx hj
      unfold dm
      rwa [getD_get _ hx, getD_get _ (show j < l.length by omega)]
  · rw [cond_pos (decide_eq_true (by omega))]
    exact ⟨2, rfl, ⟨fun h => absurd h (by decide), fun h => absurd h.len hl⟩⟩

/-! ### The assignment -/

/-- The first place with room from a time on. -/
def tk (t : Int) : Cps → Option (Int × Cps)
  | [] => none
  | x :: r => if 0 < x.2 ∧ t < x.1.2 then some (mx t x.1.1, (x.1, x.2 - 1) :: r) else (tk t r).map fun p => (p.1, x :: p.2)

def asg (place : ByteArray) : Cps → List Dm → Option (List Sl)
  | _, [] => some []
  | c, d :: r => (tk d.2 c).bind fun p => (asg place p.2 r).map fun s => (d.1, (place, p.1)) :: s

def Cap (c : Cps) : Prop := ∀ x ∈ c, 0 ≤ x.1.1 ∧ x.1.1 ≤ 200000 ∧ 0 ≤ x.2 ∧ x.2 ≤ 24

theorem tk_cap {t : Int} : ∀ {c : Cps} {a : Int} {c' : Cps}, Cap c → tk t c = some (a, c') → Cap c' ∧ c'.length = c.length ∧ t ≤ a ∧ (a = t ∨ a ≤ 200000)
  | [], a, c', _, h => by simp [tk] at h
  | x :: r, a, c', hc, h => by
    have hx := hc x (by simp)
    simp only [tk] at h
    split at h
    · rename_i hh
      simp only [Option.some.injEq, Prod.mk.injEq] at h
      obtain ⟨rfl, rfl⟩ := h
      refine ⟨fun y hy => ?_, by simp, ?_, ?_⟩
      · rcases List.mem_cons.1 hy with rfl | hy
        · exact ⟨hx.1, hx.2.1, by simp only; omega, by simp only; omega⟩
        · exact hc y (List.mem_cons_of_mem _ hy)
      · unfold mx; split <;> omega
      · unfold mx; split <;> omega
    · cases hr : tk t r with
      | none => rw [hr] at h; cases h
      | some p =>
        obtain ⟨b, r'⟩ := p
        rw [hr] at h
        simp only [Option.map_some, Option.some.injEq, Prod.mk.injEq] at h
        obtain ⟨rfl, rfl⟩ := h
        obtain ⟨h1, h2, h3, h4⟩ := tk_cap (fun y hy => hc y (List.mem_cons_of_mem _ hy)) hr
        refine ⟨fun y hy => ?_, by simp [h2], h3, h4⟩
        rcases List.mem_cons.1 hy with rfl | hy
        · exact hx
        · exact h1 y hy

theorem assign_in (k : Nat) (place : ByteArray) (S : List Dm) (hS : S.length ≤ 24) (i : Nat) (hi : i < S.length) (out : List Sl) (ho : out.length ≤ 24) (c : Cps) (hl : c.length ≤ 256) (hc : Cap c) (ht : 0 ≤ (dm S i).2) (self : (Int × List Sl × Cps) → Option (List Sl × Int)) : ∀ n j : Nat, j ≤ c.length → c.length - j < n →
    slot_Assign.l0 k place S ((i : Int), out, c) self n j = match tk (dm S i).2 (c.drop j) with | none => some ([], 18) | some p => self (((i + 1 : Nat) : Int), out ++ [((dm S i).1, (place, p.1))], c.take j ++ p.2) := by
  intro n
  induction n with
  | zero => intro j _ h; omega
  | succ n ih =>
    intro j hj hn
    rw [slot_Assign.l0_succ]
    unfold slot_Assign.l0b
    dsimp only
    by_cases hlt : j < c.length
    · have hd := drop_cons hlt (((0, 0), 0) : (Int × Int) × Int)
      rw [decide_eq_true (p := (j : Int) < ((c.length : Nat) : Int)) (by omega), decide_eq_true (p := 0 ≤ (j : Int)) (by omega)]
      simp only [Bool.and_self, cond_true, getD_nat, dm_eq, ent_eq]
      have hx := hc _ (getD_mem ((0, 0), 0) hlt)
      rw [ent_eq] at hd hx
      rw [hd]
      simp only [tk]
      have hset : c.set j ((ent c j).1, (ent c j).2 - 1) = c.take j ++ ((ent c j).1, (ent c j).2 - 1) :: c.drop (j + 1) := by
        rw [List.set_eq_take_append_cons_drop, if_pos hlt]
      have hno : (match (tk (dm S i).2 (c.drop (j + 1))).map fun p => (p.1, ent c j :: p.2) with | none => some ([], 18) | some p => self (((i + 1 : Nat) : Int), out ++ [((dm S i).1, (place, p.1))], c.take j ++ p.2)) = slot_Assign.l0 k place S ((i : Int), out, c) self n ((j + 1 : Nat) : Int) := by
        rw [ih (j + 1) (by omega) (by omega)]
        have htk : c.take (j + 1) = c.take j ++ [ent c j] := by
          rw [List.take_add_one]
          unfold ent
          simp [List.getD, hlt]
        cases tk (dm S i).2 (c.drop (j + 1)) with
        | none => rfl
        | some p => simp only [Option.map_some, htk, List.append_assoc, List.singleton_append]
      by_cases h1 : (ent c j).2 > 0
      · rw [decide_eq_true h1]
        simp only [cond_true, Option.bind_some]
        by_cases h2 : (ent c j).1.2 > (dm S i).2
        · rw [decide_eq_true h2, if_pos ⟨h1, h2⟩]
          have hm : ¬ mx (dm S i).2 (ent c j).1.1 < 0 := by unfold mx; split <;> omega
          simp only [cond_true]
          rw [decide_eq_false hm, Nat.ble_eq_true_of_le (show (out.length + 1) * 40 ≤ 140737488355328 by omega), w64_id (n := (ent c j).2 - 1) (by omega) (by omega), show w64 ((i : Int) + 1) = ((i + 1 : Nat) : Int) from w64_id (by omega) (by omega), Int.toNat_natCast, hset]
          rfl
        · rw [decide_eq_false h2, if_neg (fun h => h2 h.2), show w64 ((j : Int) + 1) = ((j + 1 : Nat) : Int) from w64_id (by omega) (by omega)]
          exact hno.symm
      · rw [decide_eq_false h1, if_neg (fun h => h1 h.1), show w64 ((j : Int) + 1) = ((j + 1 : Nat) : Int) from w64_id (by omega) (by omega)]
        exact hno.symm
    · rw [decide_eq_false (p := (j : Int) < ((c.length : Nat) : Int)) (by omega), List.drop_eq_nil_of_le (by omega)]
      rfl

theorem assign_out (k : Nat) (hk : 300 ≤ k) (place : ByteArray) (S : List Dm) (hS : S.length ≤ 24) (ht : ∀ d ∈ S, 0 ≤ d.2) : ∀ (n i : Nat) (out : List Sl) (c : Cps), i ≤ S.length → S.length - i < n → out.length = i → c.length ≤ 256 → Cap c →
    slot_Assign.l1 k place S n ((i : Int), out, c) = some (match asg place c (S.drop i) with | none => ([], 18) | some s => (out ++ s, 0)) := by
  intro n
  induction n with
  | zero => intro i _ _ _ h; omega
  | succ n ih =>
    intro i out c hi hn ho hl hc
    rw [slot_Assign.l1_succ]
    unfold slot_Assign.l1b
    dsimp only
    by_cases hlt : i < S.length
    · have hd := drop_cons hlt ((ByteArray.empty, 0) : Dm)
      rw [dm_eq] at hd
      rw [decide_eq_true (p := (i : Int) < ((S.length : Nat) : Int)) (by omega), decide_eq_true (p := 0 ≤ (i : Int)) (by omega)]
      simp only [Bool.and_self, cond_true]
      have := assign_in k place S hS i hlt out (by omega) c hl hc (ht _ (getD_mem _ hlt)) (fun x => slot_Assign.l1 k place S n x) k 0 (by omega) (by omega)
      rw [show ((0 : Nat) : Int) = 0 from rfl] at this
      rw [this, hd]
      simp only [asg, List.drop_zero, List.take_zero, List.nil_append]
      cases hk2 : tk (dm S i).2 c with
      | none => rfl
      | some p =>
        obtain ⟨a, c'⟩ := p
        obtain ⟨t1, t2, _⟩ := tk_cap hc hk2
        simp only [Option.bind_some]
        rw [ih (i + 1) _ c' (by omega) (by omega) (by simp [ho]) (by omega) t1]
        cases asg place c' (S.drop (i + 1)) with
        | none => rfl
        | some s => simp
    · rw [decide_eq_false (p := (i : Int) < ((S.length : Nat) : Int)) (by omega), List.drop_eq_nil_of_le (by omega)]
      simp [asg]

/-- The order of demands. -/
def dcmp (a b : Dm) : Int := iscmp a.2 a.1 b.2 b.1
theorem dcmp_ok : CmpOk dcmp := iscmp_ok (fun d : Dm => d.2) (fun d : Dm => d.1)
theorem dcmp_eq (m : Nat) (a b : Dm) : slot_before.F (m + 5) a b = some (dcmp a b) := by
  unfold slot_before.F
  rw [cmpi_eq, cmps_eq]
  simp only [Option.bind_some]
  rw [or2_eq]
  rfl

def Srt (l S : List Dm) : Prop := S.Perm l ∧ S.Pairwise fun a b => dcmp a b < 0

theorem srt_by (k : Nat) (hk : 300 ≤ k) {l S : List Dm} (hl : l.length ≤ 24) (ha : l.Pairwise fun a b => a.1 ≠ b.1) (h : Srt l S) : sortO (fun a b => slot_before.F k a b) l = some S := by
  obtain ⟨m, rfl⟩ : ∃ m, k = m + 5 := ⟨k - 5, by omega⟩
  exact sortO_eq ⟨by omega, dcmp, dcmp_ok, fun x _ y _ => dcmp_eq m x y, ha.imp fun {a b} h e => h (ba_inj (iscmp_zero e)), h.1, h.2⟩

theorem srt_exists (k : Nat) (hk : 300 ≤ k) {l : List Dm} (hl : l.length ≤ 24) (ha : l.Pairwise fun a b => a.1 ≠ b.1) : ∃ S, Srt l S := by
  obtain ⟨m, rfl⟩ : ∃ m, k = m + 5 := ⟨k - 5, by omega⟩
  obtain ⟨S, h⟩ := sorted_exists (cmp := fun a b => slot_before.F (m + 5) a b) dcmp_ok (show l.length < 4611686018427387904 by omega) (fun x _ y _ => dcmp_eq m x y) (ha.imp fun {a b} h e => h (ba_inj (iscmp_zero e)))
  obtain ⟨_, cf, _, h2, _, h4, h5⟩ := h
  refine ⟨S, h4, h5.imp_of_mem fun {a b} ha hb hab => ?_⟩
  have : slot_before.F (m + 5) a b = some (cf a b) := h2 a (h4.mem_iff.1 ha) b (h4.mem_iff.1 hb)
  rw [dcmp_eq] at this
  rw [Option.some.inj this]
  exact hab

def rwy : ByteArray := ⟨#[82, 87, 89]⟩
attribute [local semireducible] slot_Name.F chart_Name.F in
theorem rwy_ok (m : Nat) : slot_Name.F (m + 40) rwy = some true := by kernel_rfl

attribute [local irreducible] slot_Check.F flow_Check.F slot_before.F

theorem CpOk.cap {c : Cps} (h : CpOk c) : Cap c := fun x hx => by
  obtain ⟨j, hj, e⟩ := List.mem_iff_getElem.1 hx
  obtain ⟨h1, h2, h3, h4, h5, _⟩ := h.2 j hj
  unfold ent at h1 h2 h3 h4 h5
  rw [getD_get _ hj, e] at h1 h2 h3 h4 h5
  exact ⟨h1, by omega, h4, h5⟩

theorem assign_eq (k : Nat) (hk : 300 ≤ k) (place : ByteArray) (hp : slot_Name.F k place = some true) (l : List Dm) (c : Cps) :
    (∃ e, e ≠ 0 ∧ slot_Assign.F k place l c = some ([], e) ∧ ¬ (DmOk k l ∧ CpOk c)) ∨ (DmOk k l ∧ CpOk c ∧ ∀ S, Srt l S → slot_Assign.F k place l c = some (match asg place c S with | none => ([], 18) | some s => (s, 0))) := by
  unfold slot_Assign.F
  rw [hp]
  simp only [Option.bind_some, Bool.not_true, cond_false]
  obtain ⟨e1, h1, g1⟩ := scheck_eq k (by omega) l
  rw [h1]
  simp only [Option.bind_some]
  by_cases z1 : e1 ≠ 0
  · rw [cond_pos (c := e1 != 0) (by simpa using z1)]
    exact .inl ⟨e1, z1, rfl, fun h => z1 (g1.2 h.1)⟩
  replace z1 := Decidable.not_not.1 z1
  subst z1
  have hd := g1.1 rfl
  have hlen := hd.len
  rw [cond_neg (c := (0 : Int) != 0) (by rfl)]
  rcases fcheck_cases k hk c with ⟨h2, hc⟩ | ⟨⟨e, he, h2⟩, hc⟩
  · have hcl := hc.1
    rw [h2]
    simp only [Option.bind_some]
    rw [cond_neg (c := (0 : Int) != 0) (by rfl)]
    unfold slices_Clone_api_FlowCap.F slices_Clone_api_SlotDemand.F
    rw [cond_pos (Nat.ble_eq_true_of_le (by omega)), cond_pos (Nat.ble_eq_true_of_le (by omega)), List.nil_append, List.nil_append]
    simp only [Option.bind_some]
    refine .inr ⟨hd, hc, fun S hS => ?_⟩
    rw [srt_by k hk hlen hd.apart hS]
    simp only [Option.bind_some]
    have hSl : S.length ≤ 24 := by rw [hS.1.length_eq]; exact hlen
    have := assign_out k hk place S hSl (fun d hd' => (hd.each d (hS.1.mem_iff.1 hd')).time.1) k 0 [] c (by omega) (by omega) rfl hcl hc.cap
    rw [show ((0 : Nat) : Int) = 0 from rfl] at this
    rw [this, List.drop_zero]
    cases asg place c S <;> rfl
  · rw [h2]
    simp only [Option.bind_some]
    rw [cond_pos (c := e != 0) (by simpa using he)]
    exact .inl ⟨e, he, rfl, fun h => hc h.2⟩

end Go.Proofs.Ytdfopdlmdminbaa.RT
