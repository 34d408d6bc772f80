/- What is proved here: the law LoadAdds. It asks nothing. -/
import Derived.Test.YtckcomagdjebpaaLdT
import Derived.Test.YtckcomagdjebpaaLoadA
namespace Go.Proofs.Ytckcomagdjebpaa.RT
open Go Go.R

attribute [local irreducible] load_Count.F

abbrev Cr := (List Int) × Int × Int

theorem adds_l0 (k : Nat) (r2 r3 r6 : Cr) (hf : r6.1.length ≤ 12) (h2 : r2.1.length = r6.1.length) (h3 : r3.1.length = r6.1.length) (he : ∀ j, j < r6.1.length → w64 (gi r2.1 j + gi r3.1 j) = gi r6.1 j) : ∀ n i : Nat, i ≤ r6.1.length → r6.1.length - i < n → skywaykeep3_LoadAdds.l0 k r2 r3 r6 n i = some true := by
  intro n
  induction n with
  | zero => intro i _ h; omega
  | succ n ih =>
    intro i hi hn
    rw [skywaykeep3_LoadAdds.l0_succ]
    unfold skywaykeep3_LoadAdds.l0b
    by_cases hlt : i < r6.1.length
    · rw [cond_pos (decide_eq_true (by omega)), cond_pos (inIdx (by omega) (by omega)), cond_pos (inIdx (by omega) (by omega)), cond_pos (inIdx (by omega) (by omega)), getD_nat, getD_nat, getD_nat, gi_eq, gi_eq, gi_eq, he i hlt, cond_neg (by simp), show w64 ((i : Int) + 1) = ((i + 1 : Nat) : Int) from w64_id (by omega) (by omega)]
      exact ih (i + 1) (by omega) (by omega)
    · rw [cond_neg (decide_eq_false (by omega))]

theorem adds_l0_1 (k : Nat) (r2 r3 r6 : Cr) (hf : r6.1.length ≤ 12) (h2 : r2.1.length = r6.1.length) (h3 : r3.1.length = r6.1.length) (he : ∀ j, j < r6.1.length → w64 (gi r2.1 j + gi r3.1 j) = gi r6.1 j) : ∀ n i : Nat, i ≤ r6.1.length → r6.1.length - i < n → skywaykeep3_LoadAdds.l0_1 k r2 r3 r6 n i = some true := by
  intro n
  induction n with
  | zero => intro i _ h; omega
  | succ n ih =>
    intro i hi hn
    rw [skywaykeep3_LoadAdds.l0_1_succ]
    unfold skywaykeep3_LoadAdds.l0_1b
    by_cases hlt : i < r6.1.length
    · rw [cond_pos (decide_eq_true (by omega)), cond_pos (inIdx (by omega) (by omega)), cond_pos (inIdx (by omega) (by omega)), cond_pos (inIdx (by omega) (by omega)), getD_nat, getD_nat, getD_nat, gi_eq, gi_eq, gi_eq, he i hlt, cond_neg (by simp), show w64 ((i : Int) + 1) = ((i + 1 : Nat) : Int) from w64_id (by omega) (by omega)]
      exact ih (i + 1) (by omega) (by omega)
    · rw [cond_neg (decide_eq_false (by omega))]

/-- What is said of the three counts. -/
def addsRest (L : Cr → Option Bool) (l : List Se) (r2 r3 r6 : Cr) : Option Bool :=
  (bif (r2.2.2 != 0) then some true else some (r3.2.2 != 0)).bind fun b7 => (bif b7 then some true else some (r6.2.2 != 0)).bind fun b8 => bif b8 then some true else (bif ((w64 (r2.2.1 + r3.2.1)) != r6.2.1) then some true else some (((r2.1.length : Nat) : Int) != ((l.length : Nat) : Int))).bind fun b9 => (bif b9 then some true else some (((r3.1.length : Nat) : Int) != ((l.length : Nat) : Int))).bind fun b10 => (bif b10 then some true else some (((r6.1.length : Nat) : Int) != ((l.length : Nat) : Int))).bind fun b11 => bif b11 then some false else L r6

theorem adds_rest (k : Nat) (hk : 2000 ≤ k) (l : List Se) (a b : List (List Nd)) (t : Int) {r2 r3 : Cr} (h2 : load_Count.F k l a t = some r2) (h3 : load_Count.F k l b t = some r3) (L : Cr → Option Bool) (hL : ∀ r6 : Cr, r6.1.length ≤ 12 → r2.1.length = r6.1.length → r3.1.length = r6.1.length → (∀ j, j < r6.1.length → w64 (gi r2.1 j + gi r3.1 j) = gi r6.1 j) → L r6 = some true) :
    (load_Count.F k l (a ++ b) t).bind (fun r6 => addsRest L l r2 r3 r6) = some true := by
  rcases Count_cases k hk l (a ++ b) t with ⟨e, he, h⟩ | ⟨h, r, m, hr, hl, h1, hm⟩
  · rw [h]
    simp only [Option.bind_some, addsRest]
    cases r2.2.2 != 0 with
    | true => rfl
    | false =>
      cases r3.2.2 != 0 with
      | true => rfl
      | false =>
        simp only [cond_false, Option.bind_some]
        rw [show (e != 0) = true by simpa using he]
        rfl
  · rw [hr]
    simp only [Option.bind_some, addsRest]
    rcases Count_cases k hk l a t with ⟨e, he, g⟩ | ⟨ha, ra, ma, g, gl, g1, gm⟩
    · rw [g] at h2
      cases h2
      simp only
      rw [cond_pos (c := e != 0) (by simpa using he)]
      rfl
    rcases Count_cases k hk l b t with ⟨e, he, q⟩ | ⟨hb, rb, mb, q, ql, q1, qm⟩
    · rw [g] at h2
      rw [q] at h3
      cases h2
      cases h3
      simp only
      rw [cond_neg (c := (0 : Int) != 0) (by rfl), show (e != 0) = true by simpa using he]
      rfl
    · rw [g] at h2
      rw [q] at h3
      cases h2
      cases h3
      have hcn : ∀ j, cn k l t (a ++ b) j = cn k l t a j + cn k l t b j := fun j => by unfold cn; rw [List.countP_append]
      have ba := fun j => Nat.le_trans (cn_le k l t a j) ha.few
      have bb := fun j => Nat.le_trans (cn_le k l t b j) hb.few
      have hll := h.sec.len
      simp only
      rw [cond_neg (c := (0 : Int) != 0) (by rfl), show ((0 : Int) != 0) = false from rfl]
      simp only [Option.bind_some, cond_false]
      have b1 := ba l.length
      have b2 := bb l.length
      rw [w64_id (n := ma + mb) (by omega) (by omega), cond_neg (c := ma + mb != m) (by rw [hm, gm, qm, hcn]; simp), show (((ra.length : Nat) : Int) != ((l.length : Nat) : Int)) = false by simp [gl], show (((rb.length : Nat) : Int) != ((l.length : Nat) : Int)) = false by simp [ql], show (((r.length : Nat) : Int) != ((l.length : Nat) : Int)) = false by simp [hl]]
      simp only [Option.bind_some, cond_false]
      refine hL _ (by simp only; omega) (by simp only; omega) (by simp only; omega) fun j hj => ?_
      simp only at hj ⊢
      have b3 := ba j
      have b4 := bb j
      rw [g1 j (by omega), q1 j (by omega), h1 j (by omega), hcn, w64_id (by omega) (by omega)]
      omega

theorem LoadAdds_plain (k : Nat) (hk : 2000 ≤ k) (hf : skywaykeep3_loadFact.F k = some true) (l : List Se) (a b : List (List Nd)) (ha : a.length * 24 ≤ 140737488351232) (hb : b.length * 24 ≤ 140737488351232) (t : Int) : skywaykeep3_LoadAdds.F k l a b t = some true := by
  obtain ⟨r2, h2⟩ : ∃ r, load_Count.F k l a t = some r := by rcases Count_cases k hk l a t with ⟨e, _, h⟩ | ⟨_, r, m, h, _⟩ <;> exact ⟨_, h⟩
  obtain ⟨r3, h3⟩ : ∃ r, load_Count.F k l b t = some r := by rcases Count_cases k hk l b t with ⟨e, _, h⟩ | ⟨_, r, m, h, _⟩ <;> exact ⟨_, h⟩
  have g0 := adds_rest k hk l a b t h2 h3 (fun r6 => skywaykeep3_LoadAdds.l0 k r2 r3 r6 k 0) fun r6 c1 c2 c3 c4 => by
    have := adds_l0 k r2 r3 r6 c1 c2 c3 c4 k 0 (by omega) (by omega)
    exact this
  have g1 := adds_rest k hk l a b t h2 h3 (fun r6 => skywaykeep3_LoadAdds.l0_1 k r2 r3 r6 k 0) fun r6 c1 c2 c3 c4 => by
    have := adds_l0_1 k r2 r3 r6 c1 c2 c3 c4 k 0 (by omega) (by omega)
    exact this
  unfold skywaykeep3_LoadAdds.F
  rw [hf]
  simp only [Option.bind_some, Bool.not_true, cond_false]
  rw [h2, h3]
  simp only [Option.bind_some]
  have e0 : ([a, b] : List (List (List Nd))).getD 0 [] = a := rfl
  have e1 : ([a, b] : List (List (List Nd))).getD 1 [] = b := rfl
  have c0 : (decide ((0 : Nat) ≤ 0) && decide ((0 : Int) < (([a, b] : List (List (List Nd))).length : Nat))) = true := rfl
  have c1 : (decide ((0 : Nat) ≤ 1) && decide ((1 : Int) < (([a, b] : List (List (List Nd))).length : Nat))) = true := rfl
  have w1 : w64 ((0 : Int) + ((a.length : Nat) : Int)) = ((a.length : Nat) : Int) := by rw [w64_id (by omega) (by omega)]; omega
  have w2 : w64 (((a.length : Nat) : Int) + ((b.length : Nat) : Int)) = ((a.length + b.length : Nat) : Int) := by rw [w64_id (by omega) (by omega)]; omega
  have w3 : w64 (((a.length + b.length : Nat) : Int) - 0) = ((a.length + b.length : Nat) : Int) := by rw [w64_id (by omega) (by omega)]; omega
  rw [e0, e1, c0, c1, w1, w2]
  simp only [cond_true]
  rw [cond_neg (decide_eq_false (by omega)), cond_neg (decide_eq_false (by omega))]
  simp only [Option.bind_some]
  rw [w3, cond_neg (decide_eq_false (by omega))]
  by_cases hn : a.length + b.length = 0
  · have ea : a = [] := List.eq_nil_of_length_eq_zero (by omega)
    have eb : b = [] := List.eq_nil_of_length_eq_zero (by omega)
    rw [cond_neg (c := decide (((a.length + b.length : Nat) : Int) > 0)) (decide_eq_false (by omega)), cond_pos (Nat.ble_eq_true_of_le (by omega)), cond_pos (Nat.ble_eq_true_of_le (by omega))]
    exact g1
  · rw [cond_pos (c := decide (((a.length + b.length : Nat) : Int) > 0)) (decide_eq_true (by omega)), cond_pos (by rfl), cond_pos (by rw [decide_eq_true (p := 1 ≤ ((a.length + b.length : Nat) : Int)) (by omega), decide_eq_true (by omega)]; rfl), Int.toNat_natCast,
      cond_pos (by rw [decide_eq_true (p := (0 : Int) ≤ 0) (by omega), decide_eq_true (by omega)]; rfl), cond_pos (Nat.ble_eq_true_of_le (by rw [List.length_replicate]; omega)), cond_pos (Nat.ble_eq_true_of_le (by simp))]
    have e2 : ((List.replicate (a.length + b.length) ([] : List Nd)).take 0 ++ a ++ (List.replicate (a.length + b.length) ([] : List Nd)).drop (0 + a.length)).take (0 + a.length) = a := by simp
    have e3 : (((List.replicate (a.length + b.length) ([] : List Nd)).take 0 ++ a ++ (List.replicate (a.length + b.length) ([] : List Nd)).drop (0 + a.length)).take (0 + a.length) ++ b ++ ((List.replicate (a.length + b.length) ([] : List Nd)).take 0 ++ a ++ (List.replicate (a.length + b.length) ([] : List Nd)).drop (0 + a.length)).drop ((0 + a.length) + b.length)).take ((0 + a.length) + b.length) = a ++ b := by
      rw [e2, List.take_append_of_le_length (by simp), List.take_of_length_le (by simp)]
    rw [e3]
    exact g0

attribute [local irreducible] skywaykeep3_LoadAdds.F
theorem ladd_cal (k : Nat) (x : DatPs (skywaykeep3_LoadAdds.C 0).ats) : (skywaykeep3_LoadAdds.C k).F x = skywaykeep3_LoadAdds.F k x.1 x.2.1 x.2.2.1 x.2.2.2 := rfl
theorem LoadAdds_law (x : DatPs (skywaykeep3_LoadAdds.C 0).ats) (h : FitPs (skywaykeep3_LoadAdds.C 0).ats x) : ∃ k, (skywaykeep3_LoadAdds.C k).F x = some true :=
  ⟨300000 + 1000, (ladd_cal _ x).trans (LoadAdds_plain (300000 + 1000) (by omega) (loadfact 300000) x.1 x.2.1 x.2.2.1 h.2.1.1 h.2.2.1.1 x.2.2.2)⟩

end Go.Proofs.Ytckcomagdjebpaa.RT
