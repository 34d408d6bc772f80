/- What is proved here: the root of a whole number by way of a float64, and the walk of num.Root; a tool for the claim's proof. It asks nothing. -/
import Derived.Test.YtdpchhbbmlhklaaGreatDoorChecked
import GoSem.Core.Float
import Derived.Tactics
import Derived.Tactics2
import Derived.StillTactics
import Derived.Laws.Externs
import Derived.RegionTactic
import Derived.LoopTactic
/- The root of a whole number by way of a float64. -/
namespace Go.R

open Ieee

theorem rootFrom_ok (n : Nat) : ∀ (todo root : Nat), root * root ≤ n → n < (root + 2 ^ todo) * (root + 2 ^ todo) →
    Datum.rootFrom n todo root * Datum.rootFrom n todo root ≤ n ∧ n < (Datum.rootFrom n todo root + 1) * (Datum.rootFrom n todo root + 1)
  | 0, root, h, h' => by unfold Datum.rootFrom; simpa using ⟨h, h'⟩
  | todo + 1, root, h, h' => by
    unfold Datum.rootFrom
    have e : 1 <<< todo = 2 ^ todo := by rw [Nat.shiftLeft_eq, Nat.one_mul]
    dsimp only
    rw [e]
    by_cases c : (root + 2 ^ todo) * (root + 2 ^ todo) ≤ n
    · rw [if_pos c]
      refine rootFrom_ok n todo _ c ?_
      have : root + 2 ^ todo + 2 ^ todo = root + 2 ^ (todo + 1) := by rw [Nat.pow_succ]; omega
      rw [this]; exact h'
    · rw [if_neg c]
      exact rootFrom_ok n todo root h (by omega)

theorem isq_ok (n : Nat) : Datum.rootFrom n (n.log2 / 2 + 1) 0 * Datum.rootFrom n (n.log2 / 2 + 1) 0 ≤ n ∧ n < (Datum.rootFrom n (n.log2 / 2 + 1) 0 + 1) * (Datum.rootFrom n (n.log2 / 2 + 1) 0 + 1) := by
  refine rootFrom_ok n _ 0 (by simp) ?_
  rw [Nat.zero_add, ← Nat.pow_add]
  have h1 : n < 2 ^ (n.log2 + 1) := Nat.lt_log2_self
  exact Nat.lt_of_lt_of_le h1 (Nat.pow_le_pow_right (by omega) (by omega))

theorem log2_of {n k : Nat} (h1 : 2 ^ k ≤ n) (h2 : n < 2 ^ (k + 1)) : n.log2 = k := by
  have h0 : n ≠ 0 := by have := Nat.two_pow_pos k; omega
  have a := (Nat.le_log2 h0).2 h1
  have b := (Nat.log2_lt h0).2 h2
  omega

/-- A kept number of 53 digits, read behind its word. -/
theorem read_of {r k : Nat} (hr : 1 ≤ r) (hr' : r ≤ 2045) (h0 : 2 ^ 52 ≤ k) (h1 : k < 2 ^ 53) : double.read ((r - 1) * 2 ^ 52 + k) = .number false k (-1074 + ((r - 1 : Nat) : Int)) := by
  have hs : double.signWeight = 2 ^ 63 := by rfl
  have hb : double.binade = 2 ^ 52 := by rfl
  have hi : double.infRung = 2047 * 2 ^ 52 := by rfl
  have hl : double.leastPlace = -1074 := by rfl
  unfold Format.read
  rw [hs, hb, hi, hl]
  have e1 : ((r - 1) * 2 ^ 52 + k) / 2 ^ 63 = 0 := by omega
  have e2 : ((r - 1) * 2 ^ 52 + k) % 2 ^ 63 = (r - 1) * 2 ^ 52 + k := by omega
  have e3 : ((r - 1) * 2 ^ 52 + k) % 2 ^ 52 = k - 2 ^ 52 := by omega
  have e4 : ((r - 1) * 2 ^ 52 + k) / 2 ^ 52 = r := by omega
  dsimp only
  rw [e1, e2, e3, e4, if_neg (by omega), if_pos (by omega), show 2 ^ 52 + (k - 2 ^ 52) = k by omega]
  rfl

theorem int_word {n : Nat} (h0 : 1 ≤ n) (h1 : n < 2 ^ 46) : ∃ L k, L ≤ 45 ∧ double.nearest false n 0 = (L + 1022) * 2 ^ 52 + k ∧ 2 ^ 52 ≤ k ∧ k < 2 ^ 53 := by
  have hn0 : n ≠ 0 := by omega
  have a1 : 2 ^ n.log2 ≤ n := Nat.log2_self_le hn0
  have a2 : n < 2 ^ (n.log2 + 1) := Nat.lt_log2_self
  have a3 : n.log2 < 46 := (Nat.log2_lt hn0).2 h1
  refine ⟨n.log2, n * 2 ^ (52 - n.log2), by omega, ?_, ?_, ?_⟩
  · have hs : double.signWeight = 2 ^ 63 := by rfl
    have hb : double.binade = 2 ^ 52 := by rfl
    have hi : double.infRung = 2047 * 2 ^ 52 := by rfl
    have hl : double.leastPlace = -1074 := by rfl
    have hf : double.fractionBits = 52 := by rfl
    have b2 : n * 2 ^ (52 - n.log2) < 2 ^ 53 := by
      have := Nat.mul_lt_mul_of_pos_right a2 (Nat.two_pow_pos (52 - n.log2))
      rwa [← Nat.pow_add, show n.log2 + 1 + (52 - n.log2) = 53 by omega] at this
    unfold Format.nearest Format.word
    rw [if_neg hn0, hl, hf, hb, hi]
    dsimp only
    have e1 : max ((0 : Int) + (n.log2 : Int) - ((52 : Nat) : Int)) (-1074) = (n.log2 : Int) - 52 := by omega
    rw [e1]
    rw [show ((0 : Int) - ((n.log2 : Int) - 52)).toNat = 52 - n.log2 by omega, show ((n.log2 : Int) - 52 - 0).toNat = 0 by omega, show ((n.log2 : Int) - 52 - -1074).toNat = n.log2 + 1022 by omega]
    have e2 : Toward.even.cut false (n <<< (52 - n.log2)) 0 = n * 2 ^ (52 - n.log2) := by
      unfold Toward.cut
      rw [show 1 <<< min 0 ((n <<< (52 - n.log2)).log2 + 2) = 1 by rw [Nat.zero_min]; rfl, Nat.shiftLeft_eq]
      simp [Nat.mod_one]
    rw [e2]
    simp only [Bool.false_eq_true, if_false]
    clear e2 e1 a1 a2 hs hb hi hl hf
    generalize n * 2 ^ (52 - n.log2) = K at b2 ⊢
    generalize n.log2 = q at a3 ⊢
    exact Nat.min_eq_left (by omega)
  · have := Nat.mul_le_mul_right (2 ^ (52 - n.log2)) a1
    rwa [← Nat.pow_add, show n.log2 + (52 - n.log2) = 52 by omega] at this
  · have := Nat.mul_lt_mul_of_pos_right a2 (Nat.two_pow_pos (52 - n.log2))
    rwa [← Nat.pow_add, show n.log2 + 1 + (52 - n.log2) = 53 by omega] at this

/-- The square root of a whole number's word, made whole, is at least 1 and not great. -/
theorem root_in {n : Nat} (h0 : 1 ≤ n) (h1 : n < 2 ^ 46) : ∃ s r, double.sqrt (double.nearest false n 0) = some s ∧ (double.read s).toInt .zero = some r ∧ 1 ≤ r ∧ r ≤ 9007199254740992 := by
  obtain ⟨L, k, hL, hw, k0, k1⟩ := int_word h0 h1
  have hrd := read_of (r := L + 1023) (k := k) (by omega) (by omega) k0 k1
  rw [show L + 1023 - 1 = L + 1022 by omega] at hrd
  have hf : double.fractionBits = 52 := by rfl
  have hb : double.binade = 2 ^ 52 := by rfl
  have hi : double.infRung = 2047 * 2 ^ 52 := by rfl
  have hl : double.leastPlace = -1074 := by rfl
  unfold Format.sqrt
  rw [hw, hrd, hf]
  have hk2 : k.log2 = 52 := log2_of k0 (by omega)
  unfold Datum.root
  dsimp only
  rw [if_neg (by omega), hk2]
  simp only [Bool.false_eq_true, if_false, Option.map_some]
  -- the place is made even
  obtain ⟨mo, hmo, hmo2, heven⟩ : ∃ mo : Nat, 2 * (52 + 2) - 52 + ((-1074 + ((L + 1022 : Nat) : Int) - ((2 * (52 + 2) - 52 : Nat) : Int)) % 2).toNat = mo ∧ (mo = 56 ∨ mo = 57) ∧ (-1074 + ((L + 1022 : Nat) : Int) - (mo : Int)) % 2 = 0 := ⟨_, rfl, by omega, by omega⟩
  rw [hmo]
  rw [Nat.shiftLeft_eq]
  have n0 : 2 ^ 108 ≤ k * 2 ^ mo := by rcases hmo2 with rfl | rfl <;> omega
  have n1 : k * 2 ^ mo < 2 ^ 110 := by rcases hmo2 with rfl | rfl <;> omega
  obtain ⟨q1, q2⟩ := isq_ok (k * 2 ^ mo)
  generalize Datum.rootFrom (k * 2 ^ mo) ((k * 2 ^ mo).log2 / 2 + 1) 0 = w at q1 q2 ⊢
  have w0 : 2 ^ 54 ≤ w := by
    rcases Nat.lt_or_ge w (2 ^ 54) with g | g
    · have : (w + 1) * (w + 1) ≤ 2 ^ 54 * 2 ^ 54 := Nat.mul_le_mul (by omega) (by omega)
      omega
    · exact g
  have w1 : w < 2 ^ 55 := by
    rcases Nat.lt_or_ge w (2 ^ 55) with g | g
    · exact g
    · have : 2 ^ 55 * 2 ^ 55 ≤ w * w := Nat.mul_le_mul g g
      omega
  obtain ⟨M, hM, M0, M1⟩ : ∃ M, 2 * w + (w * w != k * 2 ^ mo).toNat = M ∧ 2 ^ 55 ≤ M ∧ M < 2 ^ 56 := ⟨_, rfl, by omega, by have := Bool.toNat_le (w * w != k * 2 ^ mo); omega⟩
  rw [hM]
  obtain ⟨p, hp, p0, p1⟩ : ∃ p : Int, (-1074 + ((L + 1022 : Nat) : Int) - (mo : Int)) / 2 - 1 = p ∧ -55 ≤ p ∧ p ≤ -32 := ⟨_, rfl, by omega, by omega⟩
  rw [hp]
  have hM2 : M.log2 = 55 := log2_of M0 (by omega)
  -- its word
  have hwd : ∃ kk, double.nearest false M p = (p + 3 + 1074).toNat * 2 ^ 52 + kk ∧ 2 ^ 52 ≤ kk ∧ kk ≤ 2 ^ 53 := by
    unfold Format.nearest Format.word
    rw [if_neg (by omega), hl, hf, hb, hi, hM2]
    dsimp only
    rw [show max (p + ((55 : Nat) : Int) - ((52 : Nat) : Int)) (-1074) = p + 3 by omega, show (p - (p + 3)).toNat = 0 by omega, show (p + 3 - p).toNat = 3 by omega, show (p + 3 - -1074) = p + 3 + 1074 by omega, Nat.shiftLeft_zero]
    unfold Toward.cut
    rw [hM2, show 1 <<< min 3 (55 + 2) = 8 by rfl]
    dsimp only
    simp only [Bool.false_eq_true, if_false]
    have hbt := Bool.toNat_le (decide (8 < 2 * (M % 8)) || 8 == 2 * (M % 8) && M / 8 % 2 == 1)
    refine ⟨M / 8 + (decide (8 < 2 * (M % 8)) || 8 == 2 * (M % 8) && M / 8 % 2 == 1).toNat, ?_, by omega, by omega⟩
    rw [Nat.min_eq_left (by omega)]
  obtain ⟨kk, hkk, kk0, kk1⟩ := hwd
  refine ⟨double.write (.number false M p), ?_⟩
  have hwr : double.write (.number false M p) = double.nearest false M p := rfl
  rw [hwr, hkk]
  have fin : ∀ (r k' : Nat), 1 ≤ r → r ≤ 2045 → 2 ^ 52 ≤ k' → k' < 2 ^ 53 → 1023 ≤ r → r ≤ 1050 → ∃ x, (double.read ((r - 1) * 2 ^ 52 + k')).toInt .zero = some x ∧ 1 ≤ x ∧ x ≤ 9007199254740992 := fun r k' r0 r1 c0 c1 r2 r3 => by
    rw [read_of r0 r1 c0 c1]
    unfold Datum.toInt Datum.integral
    dsimp only
    unfold signed
    simp only [Bool.false_eq_true, if_false]
    rw [show (-1074 + ((r - 1 : Nat) : Int)).toNat = 0 by omega, Nat.shiftLeft_zero, Nat.shiftLeft_zero]
    obtain ⟨d, hd, hd2⟩ : ∃ d : Nat, (-(-1074 + ((r - 1 : Nat) : Int))).toNat = d ∧ d ≤ 52 := ⟨_, rfl, by omega⟩
    rw [hd]
    have hk : k'.log2 = 52 := log2_of c0 (by omega)
    unfold Toward.cut
    rw [hk, show min d (52 + 2) = d by omega, Nat.shiftLeft_eq, Nat.one_mul]
    dsimp only
    refine ⟨_, rfl, ?_, ?_⟩
    · have hle : 2 ^ d ≤ k' := Nat.le_trans (Nat.pow_le_pow_right (by omega) hd2) c0
      have := Nat.div_pos hle (Nat.two_pow_pos d)
      simp only [Bool.toNat_false, Nat.add_zero]
      omega
    · have := Nat.div_le_self k' (2 ^ d)
      simp only [Bool.toNat_false, Nat.add_zero]
      omega
  by_cases c : kk < 2 ^ 53
  · obtain ⟨x, hx, x0, x1⟩ := fin ((p + 3 + 1074).toNat + 1) kk (by omega) (by omega) kk0 c (by omega) (by omega)
    rw [Nat.add_sub_cancel] at hx
    exact ⟨x, rfl, hx, x0, x1⟩
  · obtain ⟨x, hx, x0, x1⟩ := fin ((p + 3 + 1074).toNat + 2) (2 ^ 52) (by omega) (by omega) (Nat.le_refl _) (by omega) (by omega) (by omega)
    rw [show ((p + 3 + 1074).toNat + 2 - 1) * 2 ^ 52 + 2 ^ 52 = (p + 3 + 1074).toNat * 2 ^ 52 + kk by omega] at hx
    exact ⟨x, rfl, hx, x0, x1⟩


/-- The greatest number whose square is not above. -/
def isq (n : Nat) : Nat := Datum.rootFrom n (n.log2 / 2 + 1) 0
theorem isq_of {n r : Nat} (h : r * r ≤ n) (h' : n < (r + 1) * (r + 1)) : isq n = r := by
  obtain ⟨a, b⟩ := isq_ok n
  change isq n * isq n ≤ n at a
  change n < (isq n + 1) * (isq n + 1) at b
  rcases Nat.lt_trichotomy (isq n) r with g | g | g
  · have := Nat.mul_le_mul (show isq n + 1 ≤ r by omega) (show isq n + 1 ≤ r by omega)
    omega
  · exact g
  · have := Nat.mul_le_mul (show r + 1 ≤ isq n by omega) (show r + 1 ≤ isq n by omega)
    omega

/-- The root of a whole number, rounded down. -/
def rootF (n : Int) : Option Int := bif decide (n ≤ 0) then some 0 else bif decide (n < 70368744177664) then some (isq n.toNat : Nat) else none

/-- The square is not above. -/
def Low (p n : Int) : Prop := p * p ≤ n
theorem low_le {p n : Int} (h : 1 ≤ p) (hl : Low p n) : p ≤ n := by
  unfold Low at hl
  have := Int.mul_le_mul_of_nonneg_left h (show 0 ≤ p by omega)
  omega
theorem tdiv_in {n d : Int} (h : 0 < n) (hd : 0 < d) : 0 ≤ n.tdiv d ∧ n.tdiv d ≤ n := by
  rw [Int.tdiv_eq_ediv_of_nonneg (by omega)]
  exact ⟨Int.ediv_nonneg (by omega) (by omega), Int.ediv_le_self _ (by omega)⟩
theorem low_of {n d : Int} (h : 0 < n) (hd : 0 < d) (hc : d ≤ n.tdiv d) : Low d n := by
  rw [Int.tdiv_eq_ediv_of_nonneg (by omega)] at hc
  exact (Int.le_ediv_iff_mul_le hd).1 hc
theorem low_to {n d : Int} (h : 0 < n) (hd : 0 < d) (hl : Low d n) : d ≤ n.tdiv d := by
  rw [Int.tdiv_eq_ediv_of_nonneg (by omega)]
  exact (Int.le_ediv_iff_mul_le hd).2 hl
theorem root_of {n p : Int} (h0 : 0 < n) (hn : n < 70368744177664) (h1 : 1 ≤ p) (hl : Low p n) (hl' : ¬ Low (p + 1) n) : rootF n = some p := by
  unfold rootF
  rw [decide_eq_false (by omega), decide_eq_true hn]
  obtain ⟨N, rfl⟩ := Int.eq_ofNat_of_zero_le (show 0 ≤ n by omega)
  obtain ⟨q, rfl⟩ := Int.eq_ofNat_of_zero_le (show 0 ≤ p by omega)
  unfold Low at hl hl'
  rw [isq_of (n := (N : Int).toNat) (r := q) (by rw [← Int.natCast_mul] at hl; omega) (by
    rw [show ((q : Int) + 1) * ((q : Int) + 1) = (((q + 1) * (q + 1) : Nat) : Int) by rw [Int.natCast_mul]; rfl] at hl'
    omega)]
  rfl

end Go.R
set_option maxRecDepth 100000
namespace Go.Proofs.YtdpchhbbmlhklaaGreatDoor.RT
open Go Go.R
theorem sqrt_ext (x s : Nat) (h : FloatKind.f64.format.sqrt x = some s) (w : World) : (callFunc 94 #[.float .f64 x]).run Tryz.prog w = .ok (.value (.float .f64 s)) w := by
  rw [run_callFunc_extern (e := Extern.MathSqrt.sqrt) Tryz.func94 (by kernel_rfl) (by kernel_rfl) (by kernel_rfl) (by kernel_rfl)]
  have e : Extern.MathSqrt.sqrt #[.float .f64 x] = (pure (.float .f64 s) : Sem Value) := by
    change (match FloatKind.f64.format.sqrt x with | some r => (pure (.float .f64 r) : Sem Value) | none => do pure (.float .f64 (← choose (.nanBits .f64 x x)))) = _
    rw [h]
  rw [e]
  rfl
theorem conv_if (n : Int) (w : World) : (convert 3 100 (.int .i64 n)).run Tryz.prog w = .ok (.float .f64 (FloatKind.f64.nearest n)) w := by kernel_rfl
theorem conv_fi (x : Nat) (r : Int) (h : (Ieee.double.read x).toInt .zero = some r) (h0 : 0 ≤ r) (h1 : r ≤ 9007199254740992) (w : World) : (convert 100 3 (.float .f64 x)).run Tryz.prog w = .ok (.int .i64 r) w := by
  change (Conv.floatToInt .f64 x .i64).run Tryz.prog w = _
  unfold Conv.floatToInt FloatKind.decode
  dsimp only
  rw [show FloatKind.f64.format = Ieee.double from rfl, h]
  dsimp only
  rw [if_pos ⟨by rw [show IntKind.i64.min = -9223372036854775808 by rfl]; omega, by rw [show IntKind.i64.max = 9223372036854775807 by rfl]; omega⟩]
  rfl
set_option maxHeartbeats 4000000 in
theorem root_walk (n : Int) (hn : n < 70368744177664) (w : World) : Calls Tryz.prog 56 #[.int .i64 n] w fun e w' => ∃ r, rootF n = some r ∧ e = .returned (.int .i64 r) ∧ w' = w := by
  go_enter Tryz.func56, Tryz.ntmps56
  go_wp2
  · go_ret
    refine ⟨0, ?_, rfl, rfl⟩
    unfold rootF
    rw [decide_eq_true (by assumption)]
    rfl
  · have h0 : 0 < n := by assumption
    rw [conv_if]
    obtain ⟨s, r, h1, h2, h3, h4⟩ := root_in (n := n.toNat) (by omega) (by omega)
    have hs : FloatKind.f64.format.sqrt (FloatKind.f64.nearest n) = some s := by
      have : FloatKind.f64.nearest n = Ieee.double.nearest false n.toNat 0 := by
        unfold FloatKind.nearest FloatKind.encode
        rw [decide_eq_false (by omega), show n.natAbs = n.toNat by omega]
        rfl
      rw [this]; exact h1
    go_wp2
    rw [sqrt_ext _ s hs]
    go_wp2
    rw [conv_fi s r h2 (by omega) h4]
    go_wp2
    go_loop [3] (fun v => ∃ q : Nat, 1 ≤ q ∧ q ≤ 9007199254740992 ∧ v = .int .i64 q) (fun v => match v with | .int _ m => m.toNat | _ => 0)
    case atStart => exact ⟨r.toNat, by omega, by omega, by rw [Int.toNat_of_nonneg (by omega)]⟩
    case round =>
      obtain ⟨q, q1, q2, rfl⟩ := hrel
      clear h1 h2 h3 h4 hs
      go_wp2
      · have hlt : (n.tdiv (q : Int) + 9223372036854775808) % 18446744073709551616 - 9223372036854775808 < (q : Int) := by assumption
        have hqe : n.tdiv (q : Int) = ((n.toNat / q : Nat) : Int) := by
          rw [Int.tdiv_eq_ediv_of_nonneg (by omega), Int.natCast_ediv, Int.toNat_of_nonneg (by omega)]
        rw [hqe] at hlt
        have hdl : n.toNat / q ≤ n.toNat := Nat.div_le_self _ _
        have e1 : ((q : Int) - 1 + 9223372036854775808) % 18446744073709551616 - 9223372036854775808 = ((q - 1 : Nat) : Int) := by omega
        refine ⟨⟨q - 1, ?_, by omega, e1⟩, by rw [e1]; omega⟩
        rcases Nat.lt_or_ge 1 q with g | g
        · omega
        · have : q = 1 := by omega
          subst this
          rw [Nat.div_one] at hlt
          omega
      · have hge : (q : Int) ≤ (n.tdiv (q : Int) + 9223372036854775808) % 18446744073709551616 - 9223372036854775808 := by assumption
        have hqe : n.tdiv (q : Int) = ((n.toNat / q : Nat) : Int) := by
          rw [Int.tdiv_eq_ediv_of_nonneg (by omega), Int.natCast_ediv, Int.toNat_of_nonneg (by omega)]
        rw [hqe] at hge
        have hdl : n.toNat / q ≤ n.toNat := Nat.div_le_self _ _
        have hle : q ≤ n.toNat / q := by generalize n.toNat / q = D at hge hdl ⊢; omega
        have hsq : q * q ≤ n.toNat := by rwa [Nat.le_div_iff_mul_le (by omega)] at hle
        have hlow : Low q n := by unfold Low; rw [← Int.natCast_mul]; omega
        clear hge hqe hdl hle hsq
        go_loop [3] (fun v => ∃ p : Int, 1 ≤ p ∧ p ≤ n ∧ Low p n ∧ v = .int .i64 p) (fun v => match v with | .int _ m => n.toNat - m.toNat | _ => 0)
        case atStart => exact ⟨q, by omega, low_le (by omega) hlow, hlow, rfl⟩
        case round =>
          obtain ⟨p, p1, p2, p3, rfl⟩ := hrel
          go_wp2
          · have hc : (p + 1 + 9223372036854775808) % 18446744073709551616 ≤ (n.tdiv ((p + 1 + 9223372036854775808) % 18446744073709551616 - 9223372036854775808) + 9223372036854775808) % 18446744073709551616 := by assumption
            have e1 : (p + 1 + 9223372036854775808) % 18446744073709551616 - 9223372036854775808 = p + 1 := by omega
            rw [e1] at hc ⊢
            have hd := tdiv_in h0 (show 0 < p + 1 by omega)
            have hl : Low (p + 1) n := low_of h0 (by omega) (by generalize n.tdiv (p + 1) = D at hc hd ⊢; omega)
            have hle := low_le (by omega) hl
            exact ⟨⟨p + 1, by omega, hle, hl, rfl⟩, by omega⟩
          · have hc : (n.tdiv ((p + 1 + 9223372036854775808) % 18446744073709551616 - 9223372036854775808) + 9223372036854775808) % 18446744073709551616 < (p + 1 + 9223372036854775808) % 18446744073709551616 := by assumption
            have e1 : (p + 1 + 9223372036854775808) % 18446744073709551616 - 9223372036854775808 = p + 1 := by omega
            rw [e1] at hc
            have hd := tdiv_in h0 (show 0 < p + 1 by omega)
            have hl : ¬ Low (p + 1) n := fun h => by
              have := low_to h0 (by omega) h
              generalize n.tdiv (p + 1) = D at hc hd this
              omega
            go_ret
            exact ⟨p, root_of h0 hn p1 p3 hl, rfl, rfl⟩
end Go.Proofs.YtdpchhbbmlhklaaGreatDoor.RT
