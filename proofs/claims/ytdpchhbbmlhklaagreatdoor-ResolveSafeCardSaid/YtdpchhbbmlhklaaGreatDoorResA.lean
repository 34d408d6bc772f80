/- What is proved here: what the comparison of two flights comes to. They ask nothing. -/
import Derived.Test.YtdpchhbbmlhklaaGreatDoorRsT
import Derived.Test.YtdpchhbbmlhklaaGreatDoorDistA
namespace Go.Proofs.YtdpchhbbmlhklaaGreatDoor.RT
open Go Go.R

attribute [local irreducible] tube_Check.F tube_at.F plane_Check.F tube_Point.F plane_Distance.F

/-! ### Separation -/

theorem mx_comm (x y : Int) : mx x y = mx y x := by unfold mx; split <;> split <;> omega
theorem mx_ge (x y : Int) : x ≤ mx x y ∧ y ≤ mx x y ∧ (mx x y = x ∨ mx x y = y) := by unfold mx; split <;> omega
theorem mn_le (x y : Int) : mn x y ≤ x ∧ mn x y ≤ y ∧ (mn x y = x ∨ mn x y = y) := by unfold mn; split <;> omega

theorem sep_eq (k : Nat) {a b : Nd} (ha : NdOk a) (hb : NdOk b) (s : Int × Int) : ∃ r, probe_separated.F k a b s = some r ∧ probe_separated.F k b a s = some r := by
  obtain ⟨lo, hi, hd, l0, l1, l2, _⟩ := dist_eq k ha.pt hb.pt
  have hd' : plane_Distance.F k b.1.2.1 a.1.2.1 = some (lo, hi) := by rw [dist_comm k hb.pt ha.pt]; exact hd
  unfold probe_separated.F probe_surplus.F
  rw [hd, hd']
  simp only [Option.bind_some]
  have a1 := ha.height; have a2 := ha.radius; have a3 := ha.band
  have b1 := hb.height; have b2 := hb.radius; have b3 := hb.band
  rw [w64_id (n := a.1.2.2 - b.1.2.2) (by omega) (by omega), w64_id (n := b.1.2.2 - a.1.2.2) (by omega) (by omega), mx_comm (b.1.2.2 - a.1.2.2)]
  have hm := mx_ge (a.1.2.2 - b.1.2.2) (b.1.2.2 - a.1.2.2)
  generalize mx (a.1.2.2 - b.1.2.2) (b.1.2.2 - a.1.2.2) = m at hm ⊢
  rw [w64_id (n := m - a.2.2) (by omega) (by omega), w64_id (n := m - a.2.2 - b.2.2) (by omega) (by omega), w64_id (n := m - b.2.2) (by omega) (by omega), w64_id (n := m - b.2.2 - a.2.2) (by omega) (by omega)]
  rw [w64_id (n := lo - a.2.1) (by omega) (by omega), w64_id (n := lo - a.2.1 - b.2.1) (by omega) (by omega), w64_id (n := lo - b.2.1) (by omega) (by omega), w64_id (n := lo - b.2.1 - a.2.1) (by omega) (by omega)]
  rw [show m - b.2.2 - a.2.2 = m - a.2.2 - b.2.2 by omega, show lo - b.2.1 - a.2.1 = lo - a.2.1 - b.2.1 by omega]
  cases decide (m - a.2.2 - b.2.2 ≥ s.2) with
  | true => exact ⟨true, rfl, rfl⟩
  | false => exact ⟨_, rfl, rfl⟩

attribute [local irreducible] probe_separated.F

/-- Are two flights separated at a time? -/
noncomputable def sp (k : Nat) (s : Int × Int) (x y : List Nd) (t : Int) : Bool := (probe_separated.F k (pt k x t) (pt k y t) s).getD true

theorem pt_ok (k : Nat) (hk : 100 ≤ k) {l : List Nd} (h : TubeOk l) {t : Int} (h0 : tm l 0 ≤ t) (h1 : t ≤ tl l) : NdOk (pt k l t) := by
  obtain ⟨q, hq, he⟩ := (at_cases k hk h t).2.2 (by unfold hs; rw [decide_eq_true h0, decide_eq_true h1]; rfl)
  rw [he]; exact seg_ok h hq h1

theorem sp_eq (k : Nat) (hk : 100 ≤ k) (s : Int × Int) {x y : List Nd} (hx : TubeOk x) (hy : TubeOk y) {t : Int} (h0 : tm x 0 ≤ t) (h1 : tm y 0 ≤ t) (h2 : t ≤ tl x) (h3 : t ≤ tl y) : probe_separated.F k (pt k x t) (pt k y t) s = some (sp k s x y t) ∧ sp k s x y t = sp k s y x t := by
  obtain ⟨r, e1, e2⟩ := sep_eq k (pt_ok k hk hx h0 h2) (pt_ok k hk hy h1 h3) s
  unfold sp
  rw [e1, e2]
  exact ⟨rfl, rfl⟩

/-- Two flights are never near. -/
def Fr (k : Nat) (s : Int × Int) (x y : List Nd) : Prop := ∀ t, tm x 0 ≤ t → tm y 0 ≤ t → t ≤ tl x → t ≤ tl y → sp k s x y t = true

theorem Fr.comm {k : Nat} (hk : 100 ≤ k) {s : Int × Int} {x y : List Nd} (hx : TubeOk x) (hy : TubeOk y) (h : Fr k s x y) : Fr k s y x := fun t h0 h1 h2 h3 => by
  rw [← (sp_eq k hk s hx hy h1 h0 h3 h2).2]
  exact h t h1 h0 h3 h2

/-! ### The spans of a pair -/

abbrev Spn := Int × Int
def fs (x : List Spn) : List Int := x.map fun o => o.1

theorem fs_set (x : List Spn) (i : Nat) (h : i < x.length) (z : Int) : fs (x.set i ((x.getD i (0, 0)).1, z)) = fs x := by
  unfold fs
  rw [List.map_set]
  have e : (x.getD i (0, 0)).1 = (x.map fun o => o.1)[i]'(by simpa using h) := by simp [List.getD, h]
  dsimp only
  rw [e, List.set_getElem_self]

theorem pair_loop (k : Nat) (hk : 100 ≤ k) (s : Int × Int) {x y : List Nd} (hx : TubeOk x) (hy : TubeOk y) (r1 : Int × Int) (e1 : r1.2 ≤ tl x) (e2 : r1.2 ≤ tl y) : ∀ (n : Nat) (t : Int) (out : List Spn), tm x 0 ≤ t → tm y 0 ≤ t → (r1.2 + 1 - t).toNat < n → out.length + (r1.2 + 1 - t).toNat ≤ 100000 → (∀ o ∈ fs out, o < t) → (fs out).Pairwise (· < ·) →
    ∃ r, probe_pair.l0 k x y s r1 n (t, out) = some r ∧ r.length ≤ out.length + (r1.2 + 1 - t).toNat ∧ (fs r).Pairwise (· < ·) ∧ (r = [] ↔ out = [] ∧ ∀ u, t ≤ u → u ≤ r1.2 → sp k s x y u = true) := by
  intro n
  have bx0 := hx.tmb (j := 0) hx.pos
  have bx1 := hx.tmb (j := x.length - 1) (by have := hx.pos; omega)
  change 0 ≤ tl x ∧ tl x ≤ 200000 at bx1
  induction n with
  | zero => intro t _ _ _ h h'; omega
  | succ n ih =>
    intro t out h0 h1 hn hl ho hp
    rw [probe_pair.l0_succ]
    unfold probe_pair.l0b
    dsimp only
    by_cases hc : t ≤ r1.2
    · rw [decide_eq_true hc, cond_true, point_eq k hk hx, point_eq k hk hy]
      simp only [Option.bind_some]
      obtain ⟨g1, _⟩ := sp_eq k hk s hx hy h0 h1 (show t ≤ tl x by omega) (show t ≤ tl y by omega)
      rw [g1]
      simp only [Option.bind_some]
      rw [w64_id (n := t + 1) (by omega) (by omega)]
      have hto : (r1.2 + 1 - t).toNat = (r1.2 + 1 - (t + 1)).toNat + 1 := by omega
      cases hsp : sp k s x y t with
      | true =>
        rw [cond_true]
        obtain ⟨r, q1, q2, q3, q4⟩ := ih (t + 1) out (by omega) (by omega) (by omega) (by omega) (fun o h => by have := ho o h; omega) hp
        refine ⟨r, q1, by omega, q3, q4.trans ⟨fun h => ⟨h.1, fun u u0 u1 => ?_⟩, fun h => ⟨h.1, fun u u0 u1 => h.2 u (by omega) u1⟩⟩⟩
        by_cases e : u = t
        · rw [e]; exact hsp
        · exact h.2 u (by omega) u1
      | false =>
        rw [cond_false]
        have no : ∀ {r : List Spn} {o : List Spn}, o ≠ [] → (r = [] ↔ o = [] ∧ ∀ u, t + 1 ≤ u → u ≤ r1.2 → sp k s x y u = true) → (r = [] ↔ out = [] ∧ ∀ u, t ≤ u → u ≤ r1.2 → sp k s x y u = true) := fun {r o} ho' hi => by
          constructor
          · intro h; exact absurd (hi.1 h).1 ho'
          · intro h
            have := h.2 t (Int.le_refl _) hc
            rw [hsp] at this
            cases this
        have app : ∃ r, probe_pair.l0 k x y s r1 n (t + 1, out ++ [(t, t + 1)]) = some r ∧ r.length ≤ out.length + (r1.2 + 1 - t).toNat ∧ (fs r).Pairwise (· < ·) ∧ (r = [] ↔ out = [] ∧ ∀ u, t ≤ u → u ≤ r1.2 → sp k s x y u = true) := by
          obtain ⟨r, q1, q2, q3, q4⟩ := ih (t + 1) (out ++ [(t, t + 1)]) (by omega) (by omega) (by omega) (by rw [List.length_append, List.length_singleton]; omega) (fun o h => by
            unfold fs at h
            rw [List.map_append, List.mem_append] at h
            rcases h with h | h
            · have := ho o h; omega
            · simp at h; omega) (by
            unfold fs
            rw [List.map_append, List.pairwise_append]
            refine ⟨hp, by simp, fun a ha b hb => ?_⟩
            simp at hb
            have := ho a ha
            omega)
          rw [List.length_append, List.length_singleton] at q2
          exact ⟨r, q1, by omega, q3, no (by simp) q4⟩
        rw [cond_pos (c := Nat.ble ((out.length + 1) * 16) 140737488355328) (Nat.ble_eq_true_of_le (by omega))]
        by_cases hz : 0 < out.length
        · rw [decide_eq_true (p := ((out.length : Nat) : Int) > 0) (by omega), show w64 (((out.length : Nat) : Int) - 1) = ((out.length - 1 : Nat) : Int) by rw [w64_id (by omega) (by omega)]; omega, inIdx (n := out.length) (by omega) (by omega)]
          simp only [cond_true, Option.bind_some]
          by_cases hb : (out.getD (((out.length - 1 : Nat) : Int)).toNat (0, 0)).2 = t
          · rw [cond_pos (c := (out.getD (((out.length - 1 : Nat) : Int)).toNat (0, 0)).2 == t) (beq_iff_eq.2 hb), Int.toNat_natCast]
            have hf := fs_set out (out.length - 1) (by omega) (w64 ((out.getD (out.length - 1) (0, 0)).2 + 1))
            obtain ⟨r, q1, q2, q3, q4⟩ := ih (t + 1) (out.set (out.length - 1) ((out.getD (out.length - 1) (0, 0)).1, w64 ((out.getD (out.length - 1) (0, 0)).2 + 1))) (by omega) (by omega) (by omega) (by rw [List.length_set]; omega) (fun o h => by rw [hf] at h; have := ho o h; omega) (by rw [hf]; exact hp)
            rw [List.length_set] at q2
            refine ⟨r, q1, by omega, q3, no (fun e => ?_) q4⟩
            have := congrArg List.length e
            rw [List.length_set, List.length_nil] at this
            omega
          · rw [cond_neg (c := (out.getD (((out.length - 1 : Nat) : Int)).toNat (0, 0)).2 == t) (beq_false_of_ne hb)]
            exact app
        · rw [decide_eq_false (p := ((out.length : Nat) : Int) > 0) (by omega)]
          exact app
    · rw [decide_eq_false hc, cond_false]
      exact ⟨out, rfl, by omega, hp, ⟨fun h => ⟨h, fun u u0 u1 => by omega⟩, fun h => h.1⟩⟩

theorem pair_eq (k : Nat) (hk : 1000 ≤ k) (s : Int × Int) {x y : List Nd} (hx : TubeOk x) (hy : TubeOk y) (hsp : tl x - tm x 0 ≤ 300) : ∃ r, probe_pair.F k x y s = some r ∧ r.length ≤ 400 ∧ (fs r).Pairwise (· < ·) ∧ (r = [] ↔ Fr k s x y) := by
  have px := hx.pos
  have py := hy.pos
  unfold probe_pair.F probe_common.F
  rw [last_ix px hx.len, last_ix py hy.len]
  rw [cond_pos (c := decide ((0 : Nat) ≤ 0) && decide ((0 : Int) < ((x.length : Nat) : Int))) (by simp; omega), cond_pos (c := decide ((0 : Nat) ≤ 0) && decide ((0 : Int) < ((y.length : Nat) : Int))) (by simp; omega), inIdx (n := x.length) (by omega) (by omega), inIdx (n := y.length) (by omega) (by omega)]
  simp only [cond_true, Option.bind_some, Int.toNat_natCast]
  change ∃ r, probe_pair.l0 k x y s (mx (tm x 0) (tm y 0), mn (tl x) (tl y)) k (mx (tm x 0) (tm y 0), []) = some r ∧ _
  have h1 := mx_ge (tm x 0) (tm y 0)
  have h2 := mn_le (tl x) (tl y)
  generalize mx (tm x 0) (tm y 0) = a at h1 ⊢
  generalize mn (tl x) (tl y) = b at h2 ⊢
  obtain ⟨r, q1, q2, q3, q4⟩ := pair_loop k (by omega) s hx hy (a, b) (show b ≤ tl x by omega) (show b ≤ tl y by omega) k a [] (by omega) (by omega) (by show (b + 1 - a).toNat < k; omega) (by show 0 + (b + 1 - a).toNat ≤ 100000; omega) (fun o h => by cases h) List.Pairwise.nil
  refine ⟨r, q1, by change r.length ≤ 0 + (b + 1 - a).toNat at q2; omega, q3, q4.trans ⟨fun h t t0 t1 t2 t3 => h.2 t (by omega) (by show t ≤ b; omega), fun h => ⟨rfl, fun u u0 u1 => h u (by omega) (by omega) (by change u ≤ b at u1; omega) (by change u ≤ b at u1; omega)⟩⟩⟩

attribute [local irreducible] probe_pair.F

end Go.Proofs.YtdpchhbbmlhklaaGreatDoor.RT
