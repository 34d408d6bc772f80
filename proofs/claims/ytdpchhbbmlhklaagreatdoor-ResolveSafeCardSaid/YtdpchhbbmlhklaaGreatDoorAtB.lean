/- What is proved here: math.Atan2 of two whole numbers tells a float64 that is not great. It asks nothing. -/
import Derived.Test.YtdpchhbbmlhklaaGreatDoorRsT
import Derived.Test.YtdpchhbbmlhklaaGreatDoorAtA
import Derived.Test.YtdpchhbbmlhklaaGreatDoorPlA
namespace Go.Proofs.YtdpchhbbmlhklaaGreatDoor.RT
open Go Go.R Ieee

theorem and_sign (w : Nat) : (BitVec.ofInt 64 (w : Int) &&& ~~~ BitVec.ofInt 64 9223372036854775808).toNat = w % 2 ^ 63 := by
  rw [BitVec.toNat_and, show (~~~ BitVec.ofInt 64 9223372036854775808).toNat = 2 ^ 63 - 1 from by rfl, Nat.and_two_pow_sub_one_eq_mod, BitVec.toNat_ofInt]
  omega
theorem and_pow (x i : Nat) : x &&& 2 ^ i = 0 ∨ x &&& 2 ^ i = 2 ^ i := by
  cases h : x.testBit i with
  | true =>
    right
    apply Nat.eq_of_testBit_eq
    intro j
    rw [Nat.testBit_and]
    by_cases e : j = i
    · subst e; rw [h, Bool.true_and]
    · rw [Nat.testBit_two_pow_of_ne (by omega), Bool.and_false]
  | false =>
    left
    apply Nat.eq_of_testBit_eq
    intro j
    rw [Nat.testBit_and, Nat.zero_testBit]
    by_cases e : j = i
    · subst e; rw [h, Bool.false_and]
    · rw [Nat.testBit_two_pow_of_ne (by omega), Bool.and_false]
theorem and_bit (w : Nat) : (BitVec.ofInt 64 (w : Int) &&& BitVec.ofInt 64 9223372036854775808).toNat = 0 ∨ (BitVec.ofInt 64 (w : Int) &&& BitVec.ofInt 64 9223372036854775808).toNat = 2 ^ 63 := by
  rw [BitVec.toNat_and, show (BitVec.ofInt 64 9223372036854775808).toNat = 2 ^ 63 from by rfl]
  exact and_pow _ 63

theorem Rd.parts {w : Nat} {s : Bool} {m p : Nat} (h : Rd w s m p) {w' : Nat} {s' : Bool} (h1 : w' % 2 ^ 63 = w % 2 ^ 63) (h2 : (w' / 2 ^ 63 % 2 == 1) = s') : Rd w' s' m p ∧ (w / 2 ^ 63 % 2 == 1) = s := by
  unfold Rd Format.read at h ⊢
  rw [dsw] at h ⊢
  dsimp only at h ⊢
  rw [h1, h2]
  generalize w % 2 ^ 63 = r at h ⊢
  split at h
  · rename_i c
    injection h with g1 g2 g3
    rw [if_pos c, g2, g3]
    exact ⟨rfl, g1⟩
  · rename_i c
    split at h
    · rename_i d
      injection h with g1 g2 g3
      rw [if_neg c, if_pos d, g2, g3]
      exact ⟨rfl, g1⟩
    · split at h <;> cases h

theorem abs_eq (k w : Nat) : math_Abs.F k w = some (w % 2 ^ 63) := by
  unfold math_Abs.F
  show some (IntKind.u64.wrap (((BitVec.ofInt 64 (w : Int) &&& ~~~ BitVec.ofInt 64 9223372036854775808).toNat : Nat) : Int)).toNat = _
  rw [and_sign]
  congr 1
  have : w % 2 ^ 63 < 2 ^ 63 := Nat.mod_lt _ (by omega)
  generalize w % 2 ^ 63 = r at this ⊢
  have : IntKind.u64.wrap (r : Int) = (r : Int) := by
    simp only [IntKind.wrap, IntKind.bits, IntKind.signed, Bool.false_and, Bool.false_eq_true, if_false]
    omega
  rw [this, Int.toNat_natCast]

theorem Rd.abs {w : Nat} {s : Bool} {m p : Nat} (h : Rd w s m p) : Rd (w % 2 ^ 63) false m p :=
  (h.parts (by omega) (by rw [Nat.div_eq_of_lt (Nat.mod_lt _ (by omega))]; rfl)).1

theorem Rd.neg {w : Nat} {s : Bool} {m p : Nat} (h : Rd w s m p) : Rd (Op.negFloat .f64 w) (!s) m p := by
  have e : Op.negFloat .f64 w = w ^^^ 2 ^ 63 := rfl
  rw [e]
  have h1 : (w ^^^ 2 ^ 63) % 2 ^ 63 = w % 2 ^ 63 := by
    rw [Nat.xor_mod_two_pow, Nat.mod_self, Nat.xor_zero]
  have h2 : ((w ^^^ 2 ^ 63) / 2 ^ 63 % 2 == 1) = !(w / 2 ^ 63 % 2 == 1) := by
    rw [← Nat.toNat_testBit, ← Nat.toNat_testBit, Nat.testBit_xor]
    rw [Nat.testBit_two_pow_self]
    cases w.testBit 63 <;> rfl
  obtain ⟨g, e2⟩ := h.parts h1 h2
  rw [← e2]
  exact g

/-- A constant between powers of two. -/
def gB (w L N : Nat) : Bool := match double.read w with
  | .number _ m pl => decide (-1074 ≤ pl) && (Nat.ble (2 ^ L) (m * 2 ^ (pl + 1074).toNat) && Nat.ble (m * 2 ^ (pl + 1074).toNat) (2 ^ N))
  | _ => false
def pB (w : Nat) : Bool := match double.read w with
  | .number s _ _ => !s
  | _ => false
theorem gB_ok {w L N : Nat} (h : gB w L N = true) : Gb w L N := by
  unfold gB at h
  split at h
  · rename_i s m pl e
    simp only [Bool.and_eq_true, decide_eq_true_eq] at h
    exact ⟨s, m, (pl + 1074).toNat, by unfold Rd; rw [e]; congr 1; omega, Nat.le_of_ble_eq_true h.2.1, Nat.le_of_ble_eq_true h.2.2⟩
  · cases h
theorem pB_ok {w L N : Nat} (h : gB w L N = true) (h' : pB w = true) : Pb w L N := by
  obtain ⟨s, m, p, h1, h2, h3⟩ := gB_ok h
  unfold pB at h'
  rw [h1] at h'
  cases s with
  | true => cases h'
  | false => exact ⟨m, p, h1, h2, h3⟩

theorem isNaN_b (k : Nat) {w N : Nat} (h : Nb w N) : math_IsNaN.F k w = some false := by
  obtain ⟨s, m, p, h1, _⟩ := h
  obtain ⟨o, e, _, _, _, _, _, ho⟩ := order_b h1 h1
  unfold math_IsNaN.F
  rw [e, ho rfl]
  rfl
theorem isInf_b (k : Nat) {w N : Nat} (h : Nb w N) (hN : N ≤ 2096) : math_IsInf.F k w 0 = some false := by
  obtain ⟨s, m, p, h1, h2⟩ := h
  obtain ⟨n, q, g1, g2, _⟩ : Pb 9218868437227405311 2097 2098 := pB_ok (by kernel_rfl) (by kernel_rfl)
  obtain ⟨o, e, h3, _⟩ := order_b h1.abs g1
  unfold math_IsInf.F
  rw [cond_pos (c := (0 : Int) == 0) (by rfl), abs_eq]
  simp only [Option.bind_some]
  rw [e]
  simp only [Option.bind_some]
  have : o ≠ .gt := fun ho => by
    have h4 := (h3 ho rfl).2
    have h5 := Nat.lt_of_le_of_lt g2 (Nat.lt_of_lt_of_le h4 h2)
    have h6 := (Nat.pow_lt_pow_iff_right (a := 2) (by omega)).1 h5
    omega
  cases o <;> first | rfl | exact absurd rfl this

theorem bd {α β : Type} {x : Option α} {f : α → Option β} {a : α} {z : β} (e : x = some a) (h : f a = some z) : x.bind f = some z := by rw [e]; exact h
theorem xatan_b (k : Nat) {x : Nat} (hx : Nb x 1078) : ∃ z, math_xatan.F k x = some z ∧ Nb z 1117 := by
  obtain ⟨w1, e1, h1⟩ := hx.sq (by omega) (by omega)
  replace h1 : Zb w1 1082 := h1
  obtain ⟨w2, e2, h2⟩ := (gB_ok (L := 0) (N := 1074) (w := 13829429103926125972) (by kernel_rfl)).nb.mul h1.nb (by omega) (by omega)
  replace h2 : Nb w2 1082 := h2
  obtain ⟨w3, e3, h3⟩ := h2.add (gB_ok (L := 0) (N := 1082) (w := 13848613196940411002) (by kernel_rfl)).nb (by omega)
  obtain ⟨w4, e4, h4⟩ := h3.mul h1.nb (by omega) (by omega)
  replace h4 : Nb w4 1091 := h4
  obtain ⟨w5, e5, h5⟩ := h4.add (gB_ok (L := 0) (N := 1091) (w := 13858350711815275123) (by kernel_rfl)).nb (by omega)
  obtain ⟨w6, e6, h6⟩ := h5.mul h1.nb (by omega) (by omega)
  replace h6 : Nb w6 1100 := h6
  obtain ⟨w7, e7, h7⟩ := h6.add (gB_ok (L := 0) (N := 1100) (w := 13861719834326579749) (by kernel_rfl)).nb (by omega)
  obtain ⟨w8, e8, h8⟩ := h7.mul h1.nb (by omega) (by omega)
  replace h8 : Nb w8 1109 := h8
  obtain ⟨w9, e9, h9⟩ := h8.add (gB_ok (L := 0) (N := 1109) (w := 13857635882265799822) (by kernel_rfl)).nb (by omega)
  obtain ⟨w10, e10, h10⟩ := h1.nb.mul h9 (by omega) (by omega)
  replace h10 : Nb w10 1118 := h10
  obtain ⟨w11, e11, h11⟩ := h1.add (pB_ok (L := 0) (N := 1082) (w := 4627690253511319612) (by kernel_rfl) (by kernel_rfl)).zb (by omega)
  obtain ⟨w12, e12, h12⟩ := h11.mul h1 (by omega) (by omega)
  replace h12 : Zb w12 1091 := h12
  obtain ⟨w13, e13, h13⟩ := h12.add (pB_ok (L := 0) (N := 1091) (w := 4640010388282866213) (by kernel_rfl) (by kernel_rfl)).zb (by omega)
  obtain ⟨w14, e14, h14⟩ := h13.mul h1 (by omega) (by omega)
  replace h14 : Zb w14 1100 := h14
  obtain ⟨w15, e15, h15⟩ := h14.add (pB_ok (L := 0) (N := 1100) (w := 4646322940342877755) (by kernel_rfl) (by kernel_rfl)).zb (by omega)
  obtain ⟨w16, e16, h16⟩ := h15.mul h1 (by omega) (by omega)
  replace h16 : Zb w16 1109 := h16
  obtain ⟨w17, e17, h17⟩ := h16.add (pB_ok (L := 0) (N := 1109) (w := 4647246694406179306) (by kernel_rfl) (by kernel_rfl)).zb (by omega)
  obtain ⟨w18, e18, h18⟩ := h17.mul h1 (by omega) (by omega)
  replace h18 : Zb w18 1118 := h18
  obtain ⟨w19, e19, h19⟩ := h18.add_p (pB_ok (L := 1081) (N := 1118) (w := 4641049159275471596) (by kernel_rfl) (by kernel_rfl)) (by omega)
  obtain ⟨w20, e20, h20⟩ := h10.div h19.gb (by omega) (by omega)
  replace h20 : Nb w20 1112 := h20
  obtain ⟨w21, e21, h21⟩ := hx.mul h20 (by omega) (by omega)
  replace h21 : Nb w21 1116 := h21
  obtain ⟨w22, e22, h22⟩ := h21.add (hx.mono (M := 1116) (by omega)) (by omega)
  exact ⟨w22, bd e1 <| bd e2 <| bd e3 <| bd e4 <| bd e5 <| bd e6 <| bd e7 <| bd e8 <| bd e9 <| bd e10 <| bd e11 <| bd e12 <| bd e13 <| bd e14 <| bd e15 <| bd e16 <| bd e17 <| bd e18 <| bd e19 <| bd e20 <| bd e21 <| bd e22 <| rfl, h22⟩

theorem satan_b (k : Nat) {x : Nat} (hx : Zb x 1100) : ∃ z, math_satan.F k x = some z ∧ Nb z 1119 := by
  unfold math_satan.F
  obtain ⟨m, p, hr, hv⟩ := hx
  obtain ⟨n, q, c1, c2, c3⟩ : Pb 4604119971053405471 0 1074 := pB_ok (by kernel_rfl) (by kernel_rfl)
  obtain ⟨o, eo, _, o2, _⟩ := order_b hr c1
  rw [eo]; simp only [Option.bind_some]
  by_cases g : o = .gt
  · subst g
    rw [cond_neg (c := (Ordering.gt == .lt || Ordering.gt == .eq)) (by rfl)]
    obtain ⟨n', q', d1, d2, d3⟩ : Pb 4612618744449965542 1075 1076 := pB_ok (by kernel_rfl) (by kernel_rfl)
    obtain ⟨o', eo', p1, p2, _⟩ := order_b hr d1
    rw [eo']; simp only [Option.bind_some]
    by_cases g' : o' = .gt
    · subst g'
      rw [cond_pos (c := (Ordering.gt == .gt)) (by rfl)]
      have hp : Pb x 1075 1100 := ⟨m, p, hr, Nat.le_trans d2 (Nat.le_of_lt (p1 rfl rfl).2), hv⟩
      obtain ⟨w4, e4, h4⟩ := (gB_ok (L := 0) (N := 1074) (w := 4607182418800017408) (by kernel_rfl)).nb.div hp.gb (by omega) (by omega)
      replace h4 : Nb w4 1074 := h4
      rw [e4]; simp only [Option.bind_some]
      obtain ⟨w5, e5, h5⟩ := xatan_b k (h4.mono (M := 1078) (by omega))
      rw [e5]; simp only [Option.bind_some]
      obtain ⟨w6, e6, h6⟩ := (gB_ok (L := 0) (N := 1117) (w := 4609753056924675352) (by kernel_rfl)).nb.sub h5 (by omega)
      rw [e6]; simp only [Option.bind_some]
      obtain ⟨w7, e7, h7⟩ := h6.add (gB_ok (L := 0) (N := 1118) (w := 4364452196894661639) (by kernel_rfl)).nb (by omega)
      rw [e7]
      exact ⟨w7, rfl, h7⟩
    · have hx' : Zb x 1076 := ⟨m, p, hr, Nat.le_trans (p2 g' rfl rfl) d3⟩
      have one : Pb 4607182418800017408 1074 1076 := pB_ok (by kernel_rfl) (by kernel_rfl)
      rw [cond_neg (c := (o' == .gt)) (by cases o' <;> first | rfl | exact absurd rfl g')]
      obtain ⟨w8, e8, h8⟩ := hx'.nb.sub one.zb.nb (by omega)
      rw [e8]; simp only [Option.bind_some]
      obtain ⟨w9, e9, h9⟩ := hx'.add_p one (by omega)
      rw [e9]; simp only [Option.bind_some]
      obtain ⟨w10, e10, h10⟩ := h8.div h9.gb (by omega) (by omega)
      replace h10 : Nb w10 1078 := h10
      rw [e10]; simp only [Option.bind_some]
      obtain ⟨w11, e11, h11⟩ := xatan_b k h10
      rw [e11]; simp only [Option.bind_some]
      obtain ⟨w12, e12, h12⟩ := (gB_ok (L := 0) (N := 1117) (w := 4605249457297304856) (by kernel_rfl)).nb.add h11 (by omega)
      rw [e12]; simp only [Option.bind_some]
      obtain ⟨w13, e13, h13⟩ := h12.add (gB_ok (L := 0) (N := 1118) (w := 4359948597267291143) (by kernel_rfl)).nb (by omega)
      rw [e13]
      exact ⟨w13, rfl, h13⟩
  · rw [cond_pos (c := (o == .lt || o == .eq)) (by cases o <;> first | rfl | exact absurd rfl g)]
    have hx' : Zb x 1074 := ⟨m, p, hr, Nat.le_trans (o2 g rfl rfl) c3⟩
    obtain ⟨z, e, h⟩ := xatan_b k (hx'.nb.mono (M := 1078) (by omega))
    rw [e]
    exact ⟨z, rfl, h.mono (by omega)⟩

theorem zero_rd : Rd 0 false 0 0 := rfl

theorem atan_b (k : Nat) {x : Nat} (hx : Nb x 1100) : ∃ z, math_Atan.F k x = some z ∧ Nb z 1119 := by
  unfold math_Atan.F math_atan.F
  obtain ⟨s, m, p, hr, hv⟩ := hx
  obtain ⟨o, eo, o1, _, o3, o4, o5, _⟩ := order_b hr zero_rd
  rw [eo]; simp only [Option.bind_some]
  cases o with
  | eq =>
    rw [cond_pos (c := (Ordering.eq == .eq)) (by rfl)]
    exact ⟨x, rfl, s, m, p, hr, by rw [o4 rfl rfl, Nat.zero_mul]; exact Nat.zero_le _⟩
  | gt =>
    rw [cond_neg (c := (Ordering.gt == .eq)) (by rfl), cond_pos (c := (Ordering.gt == .gt)) (by rfl)]
    obtain ⟨rfl, _⟩ := o1 rfl rfl
    obtain ⟨z, e, h⟩ := satan_b k ⟨m, p, hr, hv⟩
    rw [e]
    exact ⟨z, rfl, h⟩
  | lt =>
    rw [cond_neg (c := (Ordering.lt == .eq)) (by rfl), cond_neg (c := (Ordering.lt == .gt)) (by rfl)]
    obtain rfl := o3 rfl rfl rfl
    have hn := hr.neg
    obtain ⟨z, e, h⟩ := satan_b k ⟨m, p, hn, hv⟩
    rw [e]
    obtain ⟨s', m', p', hr', hv'⟩ := h
    exact ⟨_, rfl, _, m', p', hr'.neg, hv'⟩

theorem copysign_b (k c y : Nat) {N : Nat} (hc : Nb (c % 2 ^ 63) N) : ∃ z, math_Copysign.F k c y = some z ∧ Nb z N := by
  unfold math_Copysign.F
  refine ⟨_, rfl, ?_⟩
  have hb : c % 2 ^ 63 < 2 ^ 63 := Nat.mod_lt _ (by omega)
  have e1 : IntKind.u64.wrap (((BitVec.ofInt (IntKind.u64).bits ((c : Nat) : Int) &&& ~~~ BitVec.ofInt (IntKind.u64).bits 9223372036854775808).toNat : Nat) : Int) = ((c % 2 ^ 63 : Nat) : Int) := by
    show IntKind.u64.wrap (((BitVec.ofInt 64 (c : Int) &&& ~~~ BitVec.ofInt 64 9223372036854775808).toNat : Nat) : Int) = _
    rw [and_sign]
    generalize c % 2 ^ 63 = r at hb ⊢
    simp only [IntKind.wrap, IntKind.bits, IntKind.signed, Bool.false_and, Bool.false_eq_true, if_false]
    omega
  rw [e1]
  obtain ⟨b, hb2, e2⟩ : ∃ b : Nat, (b = 0 ∨ b = 2 ^ 63) ∧ IntKind.u64.wrap (((BitVec.ofInt (IntKind.u64).bits ((y : Nat) : Int) &&& BitVec.ofInt (IntKind.u64).bits 9223372036854775808).toNat : Nat) : Int) = (b : Int) := by
    refine ⟨_, and_bit y, ?_⟩
    show IntKind.u64.wrap (((BitVec.ofInt 64 (y : Int) &&& BitVec.ofInt 64 9223372036854775808).toNat : Nat) : Int) = _
    have := and_bit y
    generalize (BitVec.ofInt 64 (y : Int) &&& BitVec.ofInt 64 9223372036854775808).toNat = r at this ⊢
    simp only [IntKind.wrap, IntKind.bits, IntKind.signed, Bool.false_and, Bool.false_eq_true, if_false]
    omega
  rw [e2]
  clear e1 e2
  obtain ⟨s, m, p, hr, hv⟩ := hc
  generalize c % 2 ^ 63 = r at hb hr
  have e3 : ∀ q : Nat, q < 2 ^ 64 → (BitVec.ofInt (IntKind.u64).bits (q : Int)).toNat = q := fun q hq => by
    show (BitVec.ofInt 64 (q : Int)).toNat = q
    rw [BitVec.toNat_ofInt]; omega
  have e4 : (IntKind.u64.wrap (((BitVec.ofInt (IntKind.u64).bits (r : Int) ||| BitVec.ofInt (IntKind.u64).bits (b : Int)).toNat : Nat) : Int)).toNat = r + b := by
    rw [BitVec.toNat_or, e3 r (by omega), e3 b (by omega)]
    have : r ||| b = r + b := by
      rcases hb2 with rfl | rfl
      · rw [Nat.or_zero]; rfl
      · rw [Nat.or_comm, Nat.add_comm]
        have := Nat.two_pow_add_eq_or_of_lt hb 1
        simpa using this.symm
    rw [this]
    simp only [IntKind.wrap, IntKind.bits, IntKind.signed, Bool.false_and, Bool.false_eq_true, if_false]
    omega
  rw [e4]
  exact ⟨_, m, p, (hr.parts (w' := r + b) (by omega) rfl).1, hv⟩

theorem pow_b {m a b c : Nat} (h : m ≤ 2 ^ a) (e : a + b = c) : m * 2 ^ b ≤ 2 ^ (c + 0) := by
  rw [Nat.add_zero, ← e, Nat.pow_add]
  exact Nat.mul_le_mul_right _ h
theorem one_b {m b : Nat} (h : 1 ≤ m) : 2 ^ (b + 0) ≤ m * 2 ^ b := by
  have := Nat.mul_le_mul_right (2 ^ b) h
  rwa [Nat.one_mul] at this
/-- A whole number's word. -/
theorem near_int {n : Int} (h : n.natAbs ≤ 2000000) : ∃ s m p, Rd (FloatKind.f64.nearest n) s m p ∧ m * 2 ^ p ≤ 2 ^ 1095 ∧ (n ≠ 0 → 2 ^ 1074 ≤ m * 2 ^ p) ∧ (n = 0 → m = 0) := by
  by_cases h0 : n = 0
  · subst h0
    exact ⟨false, 0, 0, rfl, by rw [Nat.zero_mul]; exact Nat.zero_le _, fun e => absurd rfl e, fun _ => rfl⟩
  obtain ⟨m, p, h1, h2, h3⟩ := nearest_b (decide (n < 0)) (mag := n.natAbs) (a := 1074) (b := 0) (N := 1095) (place := 0) (by omega) (by omega) (by
    exact pow_b (m := n.natAbs) (a := 21) (b := 1074) (c := 1095) (by omega) rfl)
  refine ⟨_, m, p, h1, h2, fun hn => h3 1074 ?_, fun e => absurd e h0⟩
  exact one_b (m := n.natAbs) (b := 1074) (by omega)

theorem atan2_b (k : Nat) {x y : Int} (hx : x.natAbs ≤ 2000000) (hy : y.natAbs ≤ 2000000) : ∃ z, math_Atan2.F k (FloatKind.f64.nearest x) (FloatKind.f64.nearest y) = some z ∧ Nb z 1120 := by
  obtain ⟨s, m, p, h1, h2, _, _⟩ := near_int hx
  obtain ⟨t, n, q, g1, g2, g3, g4⟩ := near_int hy
  unfold math_Atan2.F math_atan2.F
  generalize FloatKind.f64.nearest x = a at h1 ⊢
  generalize FloatKind.f64.nearest y = b at g1 ⊢
  have ha : Nb a 1095 := ⟨s, m, p, h1, h2⟩
  have hb : Nb b 1095 := ⟨t, n, q, g1, g2⟩
  rw [isNaN_b k ha]; simp only [Option.bind_some, cond_false]
  rw [isNaN_b k hb]; simp only [Option.bind_some, cond_false]
  obtain ⟨o, eo, _, _, _, o4, _, _⟩ := order_b h1 zero_rd
  rw [eo]; simp only [Option.bind_some]
  cases ho : (o == .eq) with
  | true =>
    simp only [cond_true]
    obtain ⟨o', eo', _⟩ := order_b g1 zero_rd
    rw [eo']; simp only [Option.bind_some]
    have hS : math_Signbit.F k b = some (decide (w64 ((b : Nat) : Int) < 0)) := rfl
    obtain ⟨c, hc⟩ : ∃ c, (bif (o' == .gt || o' == .eq) then (math_Signbit.F k b).bind fun r7 => some (!r7) else some false) = some c := by
      rw [hS]
      cases (o' == .gt || o' == .eq) <;> exact ⟨_, rfl⟩
    rw [hc]; simp only [Option.bind_some]
    cases c
    · simp only [cond_false]
      obtain ⟨z, e, h⟩ := copysign_b k 4614256656552045848 a (N := 1120) (gB_ok (L := 0) (by kernel_rfl)).nb
      rw [e]; exact ⟨z, rfl, h⟩
    · simp only [cond_true]
      obtain ⟨z, e, h⟩ := copysign_b k 0 a (N := 1120) ⟨false, 0, 0, rfl, by omega⟩
      rw [e]; exact ⟨z, rfl, h⟩
  | false =>
    simp only [cond_false]
    obtain ⟨o', eo', _, _, _, _, o5, _⟩ := order_b g1 zero_rd
    rw [eo']; simp only [Option.bind_some]
    cases ho' : (o' == .eq) with
    | true =>
      simp only [cond_true]
      obtain ⟨z, e, h⟩ := copysign_b k 4609753056924675352 a (N := 1120) (gB_ok (L := 0) (by kernel_rfl)).nb
      rw [e]; exact ⟨z, rfl, h⟩
    | false =>
      simp only [cond_false]
      have hn0 : n ≠ 0 := fun e => by
        rw [o5 e rfl] at ho'
        cases ho'
      have hgb : Gb b 1074 1095 := ⟨t, n, q, g1, g3 (fun e => hn0 (g4 e)), g2⟩
      rw [isInf_b k hb (by omega)]; simp only [Option.bind_some, cond_false]
      rw [isInf_b k ha (by omega)]; simp only [Option.bind_some, cond_false]
      obtain ⟨w23, e23, h23⟩ := ha.div hgb (by omega) (by omega)
      replace h23 : Nb w23 1096 := h23
      rw [e23]; simp only [Option.bind_some]
      obtain ⟨w24, e24, h24⟩ := atan_b k (h23.mono (M := 1100) (by omega))
      rw [e24]; simp only [Option.bind_some]
      cases (o' == .lt) with
      | false => simp only [cond_false]; exact ⟨_, rfl, h24.mono (by omega)⟩
      | true =>
        simp only [cond_true]
        obtain ⟨s', m', p', q1, q2⟩ := h24
        obtain ⟨o6, eo6, _⟩ := order_b q1 zero_rd
        rw [eo6]; simp only [Option.bind_some]
        have h24 : Nb w24 1119 := ⟨s', m', p', q1, q2⟩
        have pi : Nb 4614256656552045848 1119 := (gB_ok (L := 0) (by kernel_rfl)).nb
        cases (o6 == .lt || o6 == .eq) with
        | true =>
          simp only [cond_true]
          obtain ⟨z, e, h⟩ := h24.add pi (by omega)
          rw [e]; exact ⟨z, rfl, h⟩
        | false =>
          simp only [cond_false]
          obtain ⟨z, e, h⟩ := h24.sub pi (by omega)
          rw [e]; exact ⟨z, rfl, h⟩

theorem shl_b {m p N K : Nat} (h2 : m * 2 ^ p ≤ 2 ^ N) (h0 : K ≤ N) : m * 2 ^ ((p : Int) - (K : Int)).toNat ≤ 2 ^ (N - K) * 2 ^ (-((p : Int) - (K : Int))).toNat := by
  have : m * 2 ^ ((p : Int) - (K : Int)).toNat * 2 ^ K ≤ 2 ^ (N - K) * 2 ^ (-((p : Int) - (K : Int))).toNat * 2 ^ K := by
    rw [Nat.mul_assoc, ← Nat.pow_add, Nat.mul_right_comm, ← Nat.pow_add, show N - K + K = N by omega]
    rw [show ((p : Int) - (K : Int)).toNat + K = p + (-((p : Int) - (K : Int))).toNat by omega, Nat.pow_add, ← Nat.mul_assoc]
    exact Nat.mul_le_mul_right _ h2
  exact Nat.le_of_mul_le_mul_right this (Nat.two_pow_pos _)
/-- A number made whole, and as a whole number. -/
theorem floor_b {x N : Nat} (hx : Nb x N) (h0 : 1074 ≤ N) (hN : N ≤ 2090) : ∃ z, wholeN .down x = some z ∧ Nb z (N + 1) := by
  obtain ⟨s, m, p, h1, h2⟩ := hx
  unfold wholeN
  rw [h1]
  dsimp only
  unfold Datum.integral
  dsimp only
  generalize hc : Toward.down.cut s (m <<< ((p : Int) - 1074).toNat) (-((p : Int) - 1074)).toNat = c
  have hcl : c ≤ 2 ^ (N - 1074) := by
    rw [← hc]
    apply cut_le
    rw [Nat.shiftLeft_eq]
    exact shl_b (K := 1074) h2 h0
  obtain ⟨k, r, h3, h4, _⟩ := nearest_b s (mag := c) (a := 1074) (b := 0) (N := N) (place := 0) (by omega) (by omega) (by
    exact pow_b (m := c) (a := N - 1074) (b := 1074) (c := N) hcl (by omega))
  exact ⟨_, rfl, s, k, r, h3, Nat.le_trans h4 (pow_le (by omega))⟩

theorem fltInt_b {x N : Nat} (hx : Nb x N) (h0 : 1074 ≤ N) (hN : N ≤ 1134) : ∃ i : Int, fltInt .i64 x = some i ∧ i.natAbs ≤ 2 ^ (N - 1074) := by
  obtain ⟨s, m, p, h1, h2⟩ := hx
  unfold fltInt
  have e : FloatKind.f64.decode x = .number s m ((p : Int) - 1074) := h1
  rw [e]
  unfold Datum.toInt Datum.integral
  dsimp only
  generalize hc : Toward.zero.cut s (m <<< ((p : Int) - 1074).toNat) (-((p : Int) - 1074)).toNat = c
  have hcl : c ≤ 2 ^ (N - 1074) := by
    rw [← hc]
    apply cut_le
    rw [Nat.shiftLeft_eq]
    exact shl_b (K := 1074) h2 h0
  have hs := signed_abs s c 0
  rw [Nat.pow_zero, Nat.mul_one] at hs
  have hb : 2 ^ (N - 1074) ≤ 2 ^ 60 := pow_le (by omega)
  refine ⟨signed s c 0, ?_, by omega⟩
  rw [if_pos]
  generalize signed s c 0 = i at hs
  have hmin : IntKind.i64.min = -9223372036854775808 := rfl
  have hmax : IntKind.i64.max = 9223372036854775807 := rfl
  rw [hmin, hmax]
  omega

/-- Of two whole numbers: their angle's float64, as a whole number. -/
theorem of_float (k : Nat) {x y : Int} (hx : x.natAbs ≤ 2000000) (hy : y.natAbs ≤ 2000000) : ∃ r5 w6 w7 r8 i, math_Atan2.F k (FloatKind.f64.nearest x) (FloatKind.f64.nearest y) = some r5 ∧ Ieee.double.div r5 4618760256179416344 = some w6 ∧ Ieee.double.mul w6 4661225614328463360 = some w7 ∧ math_Floor.F k w7 = some r8 ∧ fltInt .i64 r8 = some i ∧ i.natAbs ≤ 2 ^ 60 := by
  obtain ⟨r5, e5, h5⟩ := atan2_b k hx hy
  obtain ⟨w6, e6, h6⟩ := h5.div (gB_ok (L := 1076) (N := 1077) (w := 4618760256179416344) (by kernel_rfl)) (by omega) (by omega)
  replace h6 : Nb w6 1119 := h6
  obtain ⟨w7, e7, h7⟩ := h6.mul (gB_ok (L := 0) (N := 1086) (w := 4661225614328463360) (by kernel_rfl)).nb (by omega) (by omega)
  replace h7 : Nb w7 1131 := h7
  obtain ⟨r8, e8, h8⟩ := floor_b h7 (by omega) (by omega)
  obtain ⟨i, e9, h9⟩ := fltInt_b h8 (by omega) (by omega)
  exact ⟨r5, w6, w7, r8, i, e5, e6, e7, bd e8 rfl, e9, Nat.le_trans h9 (pow_le (by omega))⟩
end Go.Proofs.YtdpchhbbmlhklaaGreatDoor.RT
