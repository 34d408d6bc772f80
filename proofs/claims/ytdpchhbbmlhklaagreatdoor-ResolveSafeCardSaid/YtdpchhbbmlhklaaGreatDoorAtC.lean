/- What is proved here: the angle of a vector is always found. It asks nothing. -/
import Derived.Test.YtdpchhbbmlhklaaGreatDoorRsT
import Derived.Test.YtdpchhbbmlhklaaGreatDoorAtB
import Derived.Test.YtdpchhbbmlhklaaGreatDoorSinA
namespace Go.Proofs.YtdpchhbbmlhklaaGreatDoor.RT
open Go Go.R

attribute [local irreducible] math_Atan2.F math_Floor.F math_Sin.F math_Round.F

/-- The sine of an angle. -/
def sv (q : Nat) : Int := (((sinT (q / 64)).getD (q % 64) 0 : Nat) : Int) - 20000
def sS (h : Int) : Int := sv (h % 4096).toNat

theorem normA (k : Nat) (a : Int) : angle_Norm.F k a = some (a % 4096) := by
  have key : ∀ x : BitVec 64, (x &&& BitVec.ofInt 64 4095).toNat = x.toNat % 4096 := fun x => by
    rw [BitVec.toNat_and, show (BitVec.ofInt 64 4095).toNat = 2 ^ 12 - 1 from rfl, Nat.and_two_pow_sub_one_eq_mod]
  have hb := key (BitVec.ofInt 64 a)
  have ha : (BitVec.ofInt 64 a).toNat % 4096 = (a % 4096).toNat := by
    rw [BitVec.toNat_ofInt]
    omega
  show some (w64 (((BitVec.ofInt 64 a &&& BitVec.ofInt 64 4095).toNat : Nat) : Int)) = _
  rw [w64_id (by omega) (by omega), hb, ha]
  congr 1
  omega

theorem sinA_eq (k : Nat) (h : Int) : angle_Sin.F k h = some (sS h) ∧ -16384 ≤ sS h ∧ sS h ≤ 16384 := by
  have hq : (h % 4096).toNat < 4096 := by omega
  obtain ⟨v, hv, v0, v1⟩ := sin_tab k (h % 4096).toNat hq
  have e : angle_Sin.F k h = angle_Sin.F k ((h % 4096).toNat : Int) := by
    unfold angle_Sin.F
    rw [normA, normA]
    have : ((h % 4096).toNat : Int) % 4096 = h % 4096 := by omega
    rw [this]
  have e2 : sS h = (v : Int) - 20000 := by
    obtain ⟨h1, h2, h3⟩ := sinT_ok ((h % 4096).toNat / 64) (by omega)
    have hi : (h % 4096).toNat % 64 < (sinT ((h % 4096).toNat / 64)).length := by rw [h2]; omega
    have h4 := sinChk_at k (sinT ((h % 4096).toNat / 64)) ((h % 4096).toNat / 64 * 64) (by
      rw [List.all_eq_true] at h3 ⊢
      intro x hx
      have := h3 x hx
      simp only [Bool.and_eq_true] at this
      have := Nat.le_of_ble_eq_true this.1
      exact blt_true (by omega)) h1 ((h % 4096).toNat % 64) _ (List.getElem?_eq_getElem hi)
    rw [show (h % 4096).toNat / 64 * 64 + (h % 4096).toNat % 64 = (h % 4096).toNat by omega, hv] at h4
    injection h4 with h4
    rw [h4]
    unfold sS sv
    rw [List.getD_eq_getElem?_getD, List.getElem?_eq_getElem hi]
    rfl
  rw [e, hv, e2]
  exact ⟨rfl, by omega, by omega⟩

def oppB (q : Nat) : Bool := (sv (q + 2048) + sv q == 0)
theorem opp_all : (List.range 2048).all oppB = true := by kernel_rfl
theorem sS_opp (h : Int) : sS (h + 2048) = -sS h := by
  have key : ∀ q : Nat, q < 2048 → sv (q + 2048) = -sv q := fun q hq => by
    have := (List.all_eq_true.1 opp_all) q (List.mem_range.2 hq)
    have := eq_of_beq this
    omega
  unfold sS
  by_cases c : (h % 4096).toNat < 2048
  · rw [show ((h + 2048) % 4096).toNat = (h % 4096).toNat + 2048 by omega, key _ c]
  · have := key ((h + 2048) % 4096).toNat (by omega)
    rw [show ((h + 2048) % 4096).toNat + 2048 = (h % 4096).toNat by omega] at this
    omega

theorem sS_0 (h : Int) (e : h % 4096 = 0) : sS h = 0 ∧ sS (h + 1024) = 16384 := by
  unfold sS
  rw [e, show ((h + 1024) % 4096).toNat = 1024 by omega]
  exact ⟨by kernel_rfl, by kernel_rfl⟩
theorem sS_1 (h : Int) (e : h % 4096 = 1024) : sS h = 16384 ∧ sS (h + 1024) = 0 := by
  unfold sS
  rw [e, show ((h + 1024) % 4096).toNat = 2048 by omega]
  exact ⟨by kernel_rfl, by kernel_rfl⟩

attribute [local irreducible] angle_Sin.F angle_Norm.F

/-- How far a vector is clockwise from an angle. -/
def aft (h : Int) (v : Int × Int) : Int := sS (h + 1024) * v.1 - sS h * v.2

theorem mul_nb {a b : Int} {A B : Int} (h1 : -A ≤ a) (h2 : a ≤ A) (h3 : -B ≤ b) (h4 : b ≤ B) : -(A * B) ≤ a * b ∧ a * b ≤ A * B := by
  have p1 := Int.mul_nonneg (show 0 ≤ A - a by omega) (show 0 ≤ B - b by omega)
  have p2 := Int.mul_nonneg (show 0 ≤ A + a by omega) (show 0 ≤ B + b by omega)
  have p3 := Int.mul_nonneg (show 0 ≤ A - a by omega) (show 0 ≤ B + b by omega)
  have p4 := Int.mul_nonneg (show 0 ≤ A + a by omega) (show 0 ≤ B - b by omega)
  constructor <;> grind

theorem sS_w (h : Int) : sS (w64 h) = sS h := by
  unfold sS
  have : w64 h % 4096 = h % 4096 := by rw [w64, IntKind.wrap_i64]; omega
  rw [this]

structure Vec (v : Int × Int) : Prop where
  x : v.1.natAbs ≤ 2000000
  y : v.2.natAbs ≤ 2000000
  nz : ¬ (v.1 = 0 ∧ v.2 = 0)

theorem after_eq (k : Nat) {v : Int × Int} (hv : Vec v) (h : Int) : angle_after.F k h v = some (aft h v) ∧ -100000000000 ≤ aft h v ∧ aft h v ≤ 100000000000 := by
  unfold angle_after.F angle_Cos.F
  obtain ⟨e1, a1, b1⟩ := sinA_eq k (w64 (h + 1024))
  obtain ⟨e2, a2, b2⟩ := sinA_eq k h
  rw [e1, e2]
  simp only [Option.bind_some]
  rw [sS_w] at a1 b1 ⊢
  have hx := hv.x
  have hy := hv.y
  have m1 := mul_nb a1 b1 (show -2000000 ≤ v.1 by omega) (by omega)
  have m2 := mul_nb a2 b2 (show -2000000 ≤ v.2 by omega) (by omega)
  unfold aft
  generalize sS (h + 1024) * v.1 = p at m1 ⊢
  generalize sS h * v.2 = q at m2 ⊢
  rw [w64_id (n := p) (by omega) (by omega), w64_id (n := q) (by omega) (by omega), w64_id (by omega) (by omega)]
  exact ⟨rfl, by omega, by omega⟩

theorem aft_opp (h : Int) (v : Int × Int) : aft (h + 2048) v = -aft h v := by
  unfold aft
  rw [sS_opp h, show h + 2048 + 1024 = h + 1024 + 2048 by omega, sS_opp (h + 1024), Int.neg_mul, Int.neg_mul]
  omega

attribute [local irreducible] angle_after.F

theorem of_l0 (k : Nat) {v : Int × Int} (hv : Vec v) (h0 : Int) (hb : h0.natAbs ≤ 2 ^ 61) : ∀ (n : Nat) (j : Nat), j ≤ 2048 → 2048 - j < n → (∀ i : Nat, i < j → aft (h0 - i) v < 0) → ∃ j' : Nat, j' ≤ 2048 ∧ angle_Of.l0 k v n (h0 - j) = some (.inl (h0 - j')) ∧ 0 ≤ aft (h0 - j') v := by
  intro n
  induction n with
  | zero => intro j _ h; omega
  | succ n ih =>
    intro j hj hn hi
    rw [angle_Of.l0_succ]
    unfold angle_Of.l0b
    rw [(after_eq k hv _).1]
    simp only [Option.bind_some]
    by_cases c : aft (h0 - j) v < 0
    · rw [decide_eq_true c]
      simp only [cond_true]
      have hlt : j < 2048 := by
        rcases Nat.lt_or_ge j 2048 with g | g
        · exact g
        · exfalso
          obtain rfl : j = 2048 := by omega
          have h1 := aft_opp (h0 - (2048 : Nat)) v
          rw [show h0 - ((2048 : Nat) : Int) + 2048 = h0 - ((0 : Nat) : Int) by omega] at h1
          have := hi 0 (by omega)
          omega
      rw [w64_id (by omega) (by omega), show h0 - (j : Int) - 1 = h0 - ((j + 1 : Nat) : Int) by omega]
      refine ih (j + 1) hlt (by omega) fun i h => ?_
      by_cases e : i = j
      · subst e; exact c
      · exact hi i (by omega)
    · rw [decide_eq_false c]
      exact ⟨j, hj, rfl, by omega⟩

theorem aft_zero {v : Int × Int} (hv : Vec v) (h : Int) : ∃ i : Nat, i < 4096 ∧ aft (h + i) v < 0 := by
  -- all others would be 0, and the vector too
  rcases Classical.em (∃ i : Nat, i < 4096 ∧ aft (h + i) v < 0) with g | g
  · exact g
  exfalso
  have all : ∀ i : Nat, i < 4096 → 0 ≤ aft (h + i) v := fun i hi => by
    rcases Int.lt_or_le (aft (h + i) v) 0 with q | q
    · exact absurd ⟨i, hi, q⟩ g
    · exact q
  have per : ∀ x : Int, aft (x + 4096) v = aft x v := fun x => by
    have := aft_opp (x + 2048) v
    rw [aft_opp x, show x + 2048 + 2048 = x + 4096 by omega] at this
    omega
  have z : ∀ i : Nat, i < 2048 → aft (h + i) v = 0 ∧ aft (h + i + 2048) v = 0 := fun i hi => by
    have a := all i (by omega)
    have b := all (i + 2048) (by omega)
    rw [show h + ((i + 2048 : Nat) : Int) = h + i + 2048 by omega] at b
    have c := aft_opp (h + i) v
    omega
  have at_ : ∀ r : Int, 0 ≤ r → r < 4096 → ∃ x : Int, x % 4096 = r ∧ aft x v = 0 := fun r h0 h1 => by
    obtain ⟨i, hi⟩ : ∃ i : Nat, i < 4096 ∧ (h + i) % 4096 = r := ⟨((r - h) % 4096).toNat, by omega, by omega⟩
    by_cases c : i < 2048
    · exact ⟨_, hi.2, (z i c).1⟩
    · refine ⟨_, hi.2, ?_⟩
      have := (z (i - 2048) (by omega)).2
      rwa [show h + ((i - 2048 : Nat) : Int) + 2048 = h + i by omega] at this
  obtain ⟨x, x1, x2⟩ := at_ 0 (by omega) (by omega)
  obtain ⟨y, y1, y2⟩ := at_ 1024 (by omega) (by omega)
  unfold aft at x2 y2
  rw [(sS_0 x x1).1, (sS_0 x x1).2] at x2
  rw [(sS_1 y y1).1, (sS_1 y y1).2] at y2
  exact hv.nz ⟨by omega, by omega⟩

theorem of_l1 (k : Nat) {v : Int × Int} (hv : Vec v) (h0 : Int) (hb : h0.natAbs ≤ 2 ^ 61) : ∀ (n : Nat) (j : Nat), j ≤ 4096 → 4096 - j < n → (∀ i : Nat, i < j → 0 ≤ aft (h0 + 1 + i) v) → ∃ j' : Nat, j' ≤ 4096 ∧ angle_Of.l1 k v n (h0 + j) = some (.inl (h0 + j')) := by
  intro n
  induction n with
  | zero => intro j _ h; omega
  | succ n ih =>
    intro j hj hn hi
    rw [angle_Of.l1_succ]
    unfold angle_Of.l1b
    rw [w64_id (n := h0 + j + 1) (by omega) (by omega), (after_eq k hv _).1]
    simp only [Option.bind_some]
    by_cases c : aft (h0 + j + 1) v ≥ 0
    · rw [decide_eq_true c]
      simp only [cond_true]
      have hlt : j < 4096 := by
        rcases Nat.lt_or_ge j 4096 with g | g
        · exact g
        · exfalso
          obtain ⟨i, h1, h2⟩ := aft_zero hv (h0 + 1)
          have := hi i (by omega)
          omega
      rw [show h0 + (j : Int) + 1 = h0 + ((j + 1 : Nat) : Int) by omega]
      refine ih (j + 1) hlt (by omega) fun i h => ?_
      by_cases e : i = j
      · subst e; rw [show h0 + 1 + (i : Int) = h0 + i + 1 by omega]; exact c
      · exact hi i (by omega)
    · rw [decide_eq_false c]
      exact ⟨j, hj, rfl⟩

/-- THE ANGLE OF A VECTOR. -/
theorem of_eq (k : Nat) (hk : 5000 ≤ k) (v : Int × Int) : ∃ h e, angle_Of.F k v = some (h, e) ∧ 0 ≤ h ∧ h < 4096 := by
  unfold angle_Of.F
  by_cases c1 : v.1 < -2000000
  · rw [decide_eq_true c1]; exact ⟨_, _, rfl, by omega, by omega⟩
  by_cases c2 : v.1 > 2000000
  · rw [decide_eq_false c1, decide_eq_true c2]; exact ⟨_, _, rfl, by omega, by omega⟩
  by_cases c3 : v.2 < -2000000
  · rw [decide_eq_false c1, decide_eq_false c2, decide_eq_true c3]; exact ⟨_, _, rfl, by omega, by omega⟩
  by_cases c4 : v.2 > 2000000
  · rw [decide_eq_false c1, decide_eq_false c2, decide_eq_false c3, decide_eq_true c4]; exact ⟨_, _, rfl, by omega, by omega⟩
  rw [decide_eq_false c1, decide_eq_false c2, decide_eq_false c3, decide_eq_false c4]
  simp only [cond_false, Option.bind_some]
  by_cases c5 : v.1 = 0 ∧ v.2 = 0
  · rw [c5.1, c5.2]; exact ⟨_, _, rfl, by omega, by omega⟩
  have hv : Vec v := ⟨by omega, by omega, c5⟩
  have hc : (bif (v.1 == 0) then some (v.2 == 0) else some false) = some false := by
    by_cases e : v.1 = 0
    · rw [cond_pos (c := v.1 == 0) (by rw [e]; rfl), beq_false_of_ne (fun e2 => c5 ⟨e, e2⟩)]
    · rw [cond_neg (c := v.1 == 0) (beq_false_of_ne e)]
  rw [hc]
  simp only [cond_false, Option.bind_some]
  obtain ⟨r5, w6, w7, r8, i, e5, e6, e7, e8, e9, hi⟩ := of_float k hv.x hv.y
  obtain ⟨j, hj, l0, _⟩ := of_l0 k hv i (by omega) k 0 (by omega) (by omega) (fun i h => by omega)
  rw [show i - ((0 : Nat) : Int) = i by omega] at l0
  obtain ⟨j', hj', l1⟩ := of_l1 k hv (i - j) (by omega) k 0 (by omega) (by omega) (fun i h => by omega)
  rw [show i - (j : Int) + ((0 : Nat) : Int) = i - j by omega] at l1
  generalize i - (j : Int) + (j' : Int) = h at l1
  have fin : ∃ q e, ((angle_after.F k h v).bind fun r20 => (angle_after.F k (w64 (h + 1)) v).bind fun r21 => bif (decide (r20 > (w64 (0 - r21)))) then (angle_Norm.F k (w64 (h + 1))).bind fun r22 => some (r22, (0 : Int)) else (angle_Norm.F k h).bind fun r23 => some (r23, 0)) = some (q, e) ∧ 0 ≤ q ∧ q < 4096 := by
    rw [(after_eq k hv _).1, (after_eq k hv _).1]
    simp only [Option.bind_some]
    rw [normA, normA]
    cases decide (aft h v > w64 (0 - aft (w64 (h + 1)) v))
    · exact ⟨_, _, rfl, by omega, by omega⟩
    · exact ⟨_, _, rfl, by omega, by omega⟩
  obtain ⟨q, e, hq, q0, q1⟩ := fin
  refine ⟨q, e, ?_, q0, q1⟩
  refine bd e5 (bd e6 (bd e7 (bd e8 (bd e9 (bd l0 ?_)))))
  dsimp only
  exact bd l1 hq
end Go.Proofs.YtdpchhbbmlhklaaGreatDoor.RT
