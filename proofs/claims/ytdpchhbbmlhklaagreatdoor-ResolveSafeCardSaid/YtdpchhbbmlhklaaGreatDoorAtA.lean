/- What is proved here: how great the results of float64's operations can be. They ask nothing. -/
import Derived.Test.YtdpchhbbmlhklaaGreatDoorRc
namespace Go.Proofs.YtdpchhbbmlhklaaGreatDoor.RT
open Go Go.R Ieee

/-- A finite number's word: its sign, digits, place above the least. -/
def Rd (w : Nat) (s : Bool) (m p : Nat) : Prop := double.read w = .number s m ((p : Int) - 1074)
/-- Its magnitude is at most 2 ^ (N - 1074). -/
def Nb (w N : Nat) : Prop := ∃ s m p, Rd w s m p ∧ m * 2 ^ p ≤ 2 ^ N
/-- It is not negative either. -/
def Zb (w N : Nat) : Prop := ∃ m p, Rd w false m p ∧ m * 2 ^ p ≤ 2 ^ N
/-- It is at least 2 ^ (L - 1074). -/
def Pb (w L N : Nat) : Prop := ∃ m p, Rd w false m p ∧ 2 ^ L ≤ m * 2 ^ p ∧ m * 2 ^ p ≤ 2 ^ N
theorem Zb.nb {w N : Nat} (h : Zb w N) : Nb w N := by obtain ⟨m, p, h1, h2⟩ := h; exact ⟨_, m, p, h1, h2⟩
theorem Pb.zb {w L N : Nat} (h : Pb w L N) : Zb w N := by obtain ⟨m, p, h1, _, h2⟩ := h; exact ⟨m, p, h1, h2⟩
theorem pow_le {a b : Nat} (h : a ≤ b) : 2 ^ a ≤ 2 ^ b := Nat.pow_le_pow_right (by omega) h
theorem Nb.mono {w N M : Nat} (h : Nb w N) (hm : N ≤ M) : Nb w M := by obtain ⟨s, m, p, h1, h2⟩ := h; exact ⟨s, m, p, h1, Nat.le_trans h2 (pow_le hm)⟩
theorem Zb.mono {w N M : Nat} (h : Zb w N) (hm : N ≤ M) : Zb w M := by obtain ⟨m, p, h1, h2⟩ := h; exact ⟨m, p, h1, Nat.le_trans h2 (pow_le hm)⟩

theorem dsw : double.signWeight = 2 ^ 63 := rfl
theorem dbi : double.binade = 2 ^ 52 := rfl
theorem dinf : double.infRung = 2047 * 2 ^ 52 := rfl
theorem dlp : double.leastPlace = -1074 := rfl
theorem dfb : double.fractionBits = 52 := rfl

/-- A kept number, read behind its word. -/
theorem rd_word (s : Bool) {K kept : Nat} (hK : K ≤ 2044) (h1 : kept ≤ 2 ^ 53) (h0 : K = 0 ∨ 2 ^ 52 ≤ kept) : ∃ m p, Rd (double.word s (min (K * double.binade + kept) double.infRung)) s m p ∧ m * 2 ^ p = kept * 2 ^ K := by
  rw [dbi, dinf, Nat.min_eq_left (by omega)]
  have hsg : double.word s (K * 2 ^ 52 + kept) / 2 ^ 63 % 2 = (if s then 1 else 0) ∧ double.word s (K * 2 ^ 52 + kept) % 2 ^ 63 = K * 2 ^ 52 + kept := by
    unfold Format.word
    rw [dsw]
    cases s
    · simp only [Bool.false_eq_true, if_false]; omega
    · simp only [if_true]; omega
  unfold Rd Format.read
  rw [dsw, hsg.1, hsg.2, dbi, dinf, dlp]
  have hb : ((if s = true then 1 else 0) == 1) = s := by cases s <;> rfl
  dsimp only
  rw [hb]
  by_cases c : K * 2 ^ 52 + kept < 2 ^ 52
  · rw [if_pos c]
    obtain rfl : K = 0 := by omega
    exact ⟨kept, 0, by simp, rfl⟩
  · rw [if_neg c, if_pos (by omega)]
    by_cases d : kept = 2 ^ 53
    · subst d
      refine ⟨2 ^ 52, K + 1, ?_, by rw [Nat.pow_succ]; omega⟩
      rw [show (K * 2 ^ 52 + 2 ^ 53) % 2 ^ 52 = 0 by omega, show (K * 2 ^ 52 + 2 ^ 53) / 2 ^ 52 - 1 = K + 1 by omega, Nat.add_zero, Int.add_comm]
      rfl
    · refine ⟨kept, K, ?_, rfl⟩
      rw [show (K * 2 ^ 52 + kept) % 2 ^ 52 = kept - 2 ^ 52 by omega, show (K * 2 ^ 52 + kept) / 2 ^ 52 - 1 = K by omega, show 2 ^ 52 + (kept - 2 ^ 52) = kept by omega, Int.add_comm]
      rfl

/-- What is cut: between the whole numbers around it. -/
theorem cut_eq (way : Toward) (s : Bool) (n d : Nat) : ∃ c : Nat, way.cut s n d = c ∧ n / 2 ^ d ≤ c ∧ c ≤ n / 2 ^ d + 1 ∧ (n % 2 ^ d = 0 → c = n / 2 ^ d) := by
  refine ⟨_, rfl, ?_⟩
  unfold Toward.cut
  dsimp only
  rw [Nat.shiftLeft_eq, Nat.one_mul]
  -- the gap
  have hq : n / 2 ^ min d (n.log2 + 2) = n / 2 ^ d ∧ (n % 2 ^ d = 0 → n % 2 ^ min d (n.log2 + 2) = 0) := by
    by_cases c : d ≤ n.log2 + 2
    · rw [Nat.min_eq_left c]; exact ⟨rfl, fun h => h⟩
    · have hlt : n < 2 ^ (n.log2 + 2) := Nat.lt_of_lt_of_le Nat.lt_log2_self (pow_le (by omega))
      have hlt' : n < 2 ^ d := Nat.lt_of_lt_of_le hlt (pow_le (by omega))
      rw [Nat.min_eq_right (by omega), Nat.div_eq_of_lt hlt, Nat.div_eq_of_lt hlt', Nat.mod_eq_of_lt hlt, Nat.mod_eq_of_lt hlt']
      exact ⟨rfl, fun h => h⟩
  rw [hq.1]
  refine ⟨Nat.le_add_right _ _, Nat.add_le_add_left (Bool.toNat_le _) _, fun h => ?_⟩
  have h0 := hq.2 h
  rw [h0]
  have hp := Nat.two_pow_pos (min d (n.log2 + 2))
  cases way
  · have e1 : decide (2 ^ min d (n.log2 + 2) < 2 * 0) = false := decide_eq_false (by omega)
    have e2 : (2 ^ min d (n.log2 + 2) == 2 * 0) = false := beq_false_of_ne (by omega)
    dsimp only
    rw [e1, e2]; rfl
  · cases s <;> rfl
  · cases s <;> rfl
  · rfl

theorem cut_le (way : Toward) (s : Bool) {n d c : Nat} (h : n ≤ c * 2 ^ d) : way.cut s n d ≤ c := by
  obtain ⟨x, hx, h1, h2, h3⟩ := cut_eq way s n d
  rw [hx]
  have hp := Nat.two_pow_pos d
  have hd : n / 2 ^ d ≤ c := (Nat.div_le_iff_le_mul hp).2 (by omega)
  by_cases e : n / 2 ^ d = c
  · have := Nat.div_add_mod n (2 ^ d)
    rw [e, Nat.mul_comm] at this
    rw [h3 (by omega)]; exact hd
  · omega
theorem cut_ge (way : Toward) (s : Bool) {n d c : Nat} (h : c * 2 ^ d ≤ n) : c ≤ way.cut s n d := by
  obtain ⟨x, hx, h1, h2, h3⟩ := cut_eq way s n d
  rw [hx]
  exact Nat.le_trans ((Nat.le_div_iff_mul_le (Nat.two_pow_pos d)).2 h) h1

/-- The word nearest to a number: the number has a bound, so has the word. -/
theorem nearest_b (s : Bool) {mag a b N : Nat} {place : Int} (hp : place = (a : Int) - (b : Int) - 1074) (hN : N ≤ 2096) (h : mag * 2 ^ a ≤ 2 ^ (N + b)) :
    ∃ m p, Rd (double.nearest s mag place) s m p ∧ m * 2 ^ p ≤ 2 ^ N ∧ ∀ L, 2 ^ (L + b) ≤ mag * 2 ^ a → 2 ^ L ≤ m * 2 ^ p := by
  unfold Format.nearest
  by_cases h0 : mag = 0
  · subst h0
    rw [if_pos rfl]
    refine ⟨0, 0, ?_, by simp, fun L hL => ?_⟩
    · cases s <;> rfl
    · have := Nat.two_pow_pos (L + b); omega
  rw [if_neg h0]
  have l1 : 2 ^ mag.log2 ≤ mag := Nat.log2_self_le h0
  have l2 : mag < 2 ^ (mag.log2 + 1) := Nat.lt_log2_self
  rw [dfb, dlp]
  generalize mag.log2 = g at l1 l2 ⊢
  -- how far the number goes
  have hg : g + a ≤ N + b := by
    have : 2 ^ (g + a) ≤ 2 ^ (N + b) := by rw [Nat.pow_add]; exact Nat.le_trans (Nat.mul_le_mul_right _ l1) h
    exact (Nat.pow_le_pow_iff_right (by omega)).1 this
  obtain ⟨K, hK⟩ : ∃ K : Nat, max (place + (g : Int) - ((52 : Nat) : Int)) (-1074) = (K : Int) - 1074 := ⟨(max (place + (g : Int) - ((52 : Nat) : Int)) (-1074) + 1074).toNat, by omega⟩
  dsimp only
  rw [hK, show ((K : Int) - 1074 - -1074).toNat = K by omega]
  have hKc : (K = 0 ∧ a + g ≤ 52 + b) ∨ (K + 52 + b = a + g) := by omega
  obtain ⟨u, d, hu, hd, hud⟩ : ∃ u d : Nat, (place - ((K : Int) - 1074)).toNat = u ∧ ((K : Int) - 1074 - place).toNat = d ∧ u + K + b = a + d := ⟨_, _, rfl, rfl, by omega⟩
  rw [hu, hd, Nat.shiftLeft_eq]
  have hz : d = 0 ∨ u = 0 := by omega
  -- mag * 2 ^ u against 2 ^ d
  have key : ∀ c e : Nat, (mag * 2 ^ a) ≤ c * 2 ^ e → e = K + b → mag * 2 ^ u ≤ c * 2 ^ d := fun c e hc he => by
    subst he
    have : mag * 2 ^ u * 2 ^ (K + b) ≤ c * 2 ^ d * 2 ^ (K + b) := by
      rw [Nat.mul_assoc, ← Nat.pow_add, Nat.mul_assoc, ← Nat.pow_add, show u + (K + b) = a + d by omega, show d + (K + b) = K + b + d by omega, Nat.pow_add, ← Nat.mul_assoc, Nat.pow_add 2 (K + b) d, ← Nat.mul_assoc]
      exact Nat.mul_le_mul_right _ hc
    exact Nat.le_of_mul_le_mul_right this (Nat.two_pow_pos _)
  have key' : ∀ c e : Nat, c * 2 ^ e ≤ mag * 2 ^ a → e = K + b → c * 2 ^ d ≤ mag * 2 ^ u := fun c e hc he => by
    subst he
    have : c * 2 ^ d * 2 ^ (K + b) ≤ mag * 2 ^ u * 2 ^ (K + b) := by
      rw [Nat.mul_assoc, ← Nat.pow_add, Nat.mul_assoc, ← Nat.pow_add, show u + (K + b) = a + d by omega, show d + (K + b) = K + b + d by omega, Nat.pow_add, ← Nat.mul_assoc, Nat.pow_add 2 a d, ← Nat.mul_assoc]
      exact Nat.mul_le_mul_right _ hc
    exact Nat.le_of_mul_le_mul_right this (Nat.two_pow_pos _)
  have up : mag * 2 ^ a ≤ 2 ^ 53 * 2 ^ (K + b) := by
    have : mag * 2 ^ a ≤ 2 ^ (g + 1) * 2 ^ a := Nat.mul_le_mul_right _ (Nat.le_of_lt l2)
    refine Nat.le_trans this ?_
    rw [← Nat.pow_add, ← Nat.pow_add]
    exact pow_le (by omega)
  have k1 : Toward.even.cut s (mag * 2 ^ u) d ≤ 2 ^ 53 := cut_le _ _ (key _ _ up rfl)
  have k0 : K = 0 ∨ 2 ^ 52 ≤ Toward.even.cut s (mag * 2 ^ u) d := by
    rcases hKc with h | h
    · exact .inl h.1
    · refine .inr (cut_ge _ _ (key' (2 ^ 52) _ ?_ rfl))
      rw [← Nat.pow_add, show 52 + (K + b) = g + a by omega, Nat.pow_add]
      exact Nat.mul_le_mul_right _ l1
  obtain ⟨m, p, hr, hv⟩ := rd_word s (K := K) (by omega) k1 k0
  refine ⟨m, p, hr, ?_, fun L hL => ?_⟩
  · rw [hv]
    have hKN : K ≤ N := by rcases hKc with g1 | g1 <;> omega
    have : Toward.even.cut s (mag * 2 ^ u) d ≤ 2 ^ (N - K) := cut_le _ _ (key _ _ (by rw [← Nat.pow_add, show N - K + (K + b) = N + b by omega]; exact h) rfl)
    have := Nat.mul_le_mul_right (2 ^ K) this
    rwa [← Nat.pow_add, show N - K + K = N by omega] at this
  · rw [hv]
    rcases Nat.le_total K L with hKL | hKL
    · have : 2 ^ (L - K) ≤ Toward.even.cut s (mag * 2 ^ u) d := cut_ge _ _ (key' _ _ (by rw [← Nat.pow_add, show L - K + (K + b) = L + b by omega]; exact hL) rfl)
      have := Nat.mul_le_mul_right (2 ^ K) this
      rwa [← Nat.pow_add, show L - K + K = L by omega] at this
    · rcases k0 with e0 | e0
      · obtain rfl : L = K := by omega
        have : 2 ^ (L - L) ≤ Toward.even.cut s (mag * 2 ^ u) d := cut_ge _ _ (key' _ _ (by rw [← Nat.pow_add, show L - L + (L + b) = L + b by omega]; exact hL) rfl)
        have := Nat.mul_le_mul_right (2 ^ L) this
        rwa [← Nat.pow_add, show L - L + L = L by omega] at this
      · have h1 : 1 ≤ Toward.even.cut s (mag * 2 ^ u) d := Nat.le_trans (by omega) e0
        have := Nat.mul_le_mul_right (2 ^ K) h1
        rw [Nat.one_mul] at this
        exact Nat.le_trans (pow_le hKL) this

theorem mul_b {x y : Nat} {s t : Bool} {m p n q N M : Nat} (hx : Rd x s m p) (hy : Rd y t n q) (h1 : m * 2 ^ p ≤ 2 ^ N) (h2 : n * 2 ^ q ≤ 2 ^ M) (hN : 1074 ≤ N + M) (hN' : N + M ≤ 3170) :
    ∃ z k r, double.mul x y = some z ∧ Rd z (s ^^ t) k r ∧ k * 2 ^ r ≤ 2 ^ (N + M - 1074) := by
  unfold Rd at hx hy
  unfold Format.mul
  rw [hx, hy]
  have hv : m * n * 2 ^ (p + q) = m * 2 ^ p * (n * 2 ^ q) := by rw [Nat.pow_add]; ac_rfl
  obtain ⟨k, r, h3, h4, _⟩ := nearest_b (s ^^ t) (mag := m * n) (a := p + q) (b := 1074) (N := N + M - 1074) (place := (p : Int) - 1074 + ((q : Int) - 1074)) (by omega) (by omega) (by
    rw [hv, show N + M - 1074 + 1074 = N + M by omega, Nat.pow_add]
    exact Nat.mul_le_mul h1 h2)
  exact ⟨_, k, r, rfl, h3, h4⟩

theorem Nb.mul {x y N M : Nat} (hx : Nb x N) (hy : Nb y M) (hN : 1074 ≤ N + M) (hN' : N + M ≤ 3170) : ∃ z, double.mul x y = some z ∧ Nb z (N + M - 1074) := by
  obtain ⟨s, m, p, hx, h1⟩ := hx
  obtain ⟨t, n, q, hy, h2⟩ := hy
  obtain ⟨z, k, r, h3, h4, h5⟩ := mul_b hx hy h1 h2 hN hN'
  exact ⟨z, h3, _, k, r, h4, h5⟩
theorem Zb.mul {x y N M : Nat} (hx : Zb x N) (hy : Zb y M) (hN : 1074 ≤ N + M) (hN' : N + M ≤ 3170) : ∃ z, double.mul x y = some z ∧ Zb z (N + M - 1074) := by
  obtain ⟨m, p, hx, h1⟩ := hx
  obtain ⟨n, q, hy, h2⟩ := hy
  obtain ⟨z, k, r, h3, h4, h5⟩ := mul_b hx hy h1 h2 hN hN'
  exact ⟨z, h3, k, r, h4, h5⟩
theorem Nb.sq {x N : Nat} (hx : Nb x N) (hN : 1074 ≤ N + N) (hN' : N + N ≤ 3170) : ∃ z, double.mul x x = some z ∧ Zb z (N + N - 1074) := by
  obtain ⟨s, m, p, hx, h1⟩ := hx
  obtain ⟨z, k, r, h3, h4, h5⟩ := mul_b hx hx h1 h1 hN hN'
  rw [Bool.xor_self] at h4
  exact ⟨z, h3, k, r, h4, h5⟩

theorem signed_abs (s : Bool) (m u : Nat) : (signed s m u).natAbs = m * 2 ^ u := by
  unfold signed
  rw [Nat.shiftLeft_eq]
  cases s
  · simp only [Bool.false_eq_true, if_false]; omega
  · simp only [if_true]; omega

theorem sum_b {s t : Bool} {m p n q N : Nat} (h1 : m * 2 ^ p ≤ 2 ^ N) (h2 : n * 2 ^ q ≤ 2 ^ N) (_ : N ≤ 2095) :
    ∃ (s' : Bool) (g e : Nat), (Datum.number s m ((p : Int) - 1074)).sum (.number t n ((q : Int) - 1074)) = some (.number s' g ((e : Int) - 1074)) ∧ g * 2 ^ e ≤ 2 ^ (N + 1) ∧ (s = false → t = false → s' = false ∧ g * 2 ^ e = m * 2 ^ p + n * 2 ^ q) := by
  unfold Datum.sum
  dsimp only
  obtain ⟨e, he⟩ : ∃ e : Nat, min ((p : Int) - 1074) ((q : Int) - 1074) = (e : Int) - 1074 ∧ e ≤ p ∧ e ≤ q := ⟨min p q, by omega, by omega, by omega⟩
  obtain ⟨he, hp, hq⟩ := he
  rw [he, show ((p : Int) - 1074 - ((e : Int) - 1074)).toNat = p - e by omega, show ((q : Int) - 1074 - ((e : Int) - 1074)).toNat = q - e by omega]
  have a1 := signed_abs s m (p - e)
  have a2 := signed_abs t n (q - e)
  have v1 : m * 2 ^ (p - e) * 2 ^ e = m * 2 ^ p := by rw [Nat.mul_assoc, ← Nat.pow_add, show p - e + e = p by omega]
  have v2 : n * 2 ^ (q - e) * 2 ^ e = n * 2 ^ q := by rw [Nat.mul_assoc, ← Nat.pow_add, show q - e + e = q by omega]
  refine ⟨_, _, e, rfl, ?_, ?_⟩
  · have : (signed s m (p - e) + signed t n (q - e)).natAbs ≤ m * 2 ^ (p - e) + n * 2 ^ (q - e) := by omega
    refine Nat.le_trans (Nat.mul_le_mul_right _ this) ?_
    rw [Nat.add_mul, v1, v2, Nat.pow_succ]
    omega
  · intro hs ht
    subst hs; subst ht
    have b1 : signed false m (p - e) = ((m * 2 ^ (p - e) : Nat) : Int) := by unfold signed; rw [Nat.shiftLeft_eq]; rfl
    have b2 : signed false n (q - e) = ((n * 2 ^ (q - e) : Nat) : Int) := by unfold signed; rw [Nat.shiftLeft_eq]; rfl
    rw [b1, b2]
    constructor
    · split
      · rfl
      · exact decide_eq_false (by omega)
    · rw [show (((m * 2 ^ (p - e) : Nat) : Int) + ((n * 2 ^ (q - e) : Nat) : Int)).natAbs = m * 2 ^ (p - e) + n * 2 ^ (q - e) by omega, Nat.add_mul, v1, v2]

theorem write_b (s : Bool) {m p N : Nat} (hN : N ≤ 2096) (h : m * 2 ^ p ≤ 2 ^ N) : ∃ k r, Rd (double.write (.number s m ((p : Int) - 1074))) s k r ∧ k * 2 ^ r ≤ 2 ^ N ∧ ∀ L, 2 ^ L ≤ m * 2 ^ p → 2 ^ L ≤ k * 2 ^ r :=
  nearest_b s (a := p) (b := 0) (place := (p : Int) - 1074) (by omega) hN h

theorem Nb.add {x y N : Nat} (hx : Nb x N) (hy : Nb y N) (hN' : N ≤ 2095) : ∃ z, double.add x y = some z ∧ Nb z (N + 1) := by
  obtain ⟨s, m, p, hx, h1⟩ := hx
  obtain ⟨t, n, q, hy, h2⟩ := hy
  obtain ⟨s', g, e, h3, h4, _⟩ := sum_b (s := s) (t := t) h1 h2 hN'
  obtain ⟨k, r, h5, h6, _⟩ := write_b s' (by omega) h4
  unfold Format.add
  rw [hx, hy, h3]
  exact ⟨_, rfl, s', k, r, h5, h6⟩
theorem Nb.sub {x y N : Nat} (hx : Nb x N) (hy : Nb y N) (hN' : N ≤ 2095) : ∃ z, double.sub x y = some z ∧ Nb z (N + 1) := by
  obtain ⟨s, m, p, hx, h1⟩ := hx
  obtain ⟨t, n, q, hy, h2⟩ := hy
  obtain ⟨s', g, e, h3, h4, _⟩ := sum_b (s := s) (t := !t) h1 h2 hN'
  obtain ⟨k, r, h5, h6, _⟩ := write_b s' (by omega) h4
  unfold Format.sub
  rw [hx, hy]
  unfold Datum.opposite
  dsimp only
  rw [h3]
  exact ⟨_, rfl, s', k, r, h5, h6⟩
theorem Zb.add {x y N : Nat} (hx : Zb x N) (hy : Zb y N) (hN' : N ≤ 2095) : ∃ z, double.add x y = some z ∧ Zb z (N + 1) := by
  obtain ⟨m, p, hx, h1⟩ := hx
  obtain ⟨n, q, hy, h2⟩ := hy
  obtain ⟨s', g, e, h3, h4, h7⟩ := sum_b (s := false) (t := false) h1 h2 hN'
  obtain ⟨k, r, h5, h6, _⟩ := write_b s' (by omega) h4
  unfold Format.add
  rw [hx, hy, h3]
  rw [(h7 rfl rfl).1] at h5
  exact ⟨_, rfl, k, r, by rw [(h7 rfl rfl).1]; exact h5, h6⟩
theorem Zb.add_p {x y L N : Nat} (hx : Zb x N) (hy : Pb y L N) (hN' : N ≤ 2095) : ∃ z, double.add x y = some z ∧ Pb z L (N + 1) := by
  obtain ⟨m, p, hx, h1⟩ := hx
  obtain ⟨n, q, hy, h2, h2'⟩ := hy
  obtain ⟨s', g, e, h3, h4, h7⟩ := sum_b (s := false) (t := false) h1 h2' hN'
  obtain ⟨k, r, h5, h6, h8⟩ := write_b s' (by omega) h4
  unfold Format.add
  rw [hx, hy, h3]
  rw [(h7 rfl rfl).1] at h5
  exact ⟨_, rfl, k, r, by rw [(h7 rfl rfl).1]; exact h5, h8 L (by rw [(h7 rfl rfl).2]; omega), h6⟩

theorem ac4 (a b c d : Nat) : a * b * (c * d) = a * c * (b * d) := by ac_rfl
theorem ac5 (m a b c : Nat) : 4 * (m * a) * (b * c) = m * b * (4 * (a * c)) := by ac_rfl
theorem div_b {x y : Nat} {s t : Bool} {m p n q N L : Nat} (hx : Rd x s m p) (hy : Rd y t n q) (h1 : m * 2 ^ p ≤ 2 ^ N) (h2 : 2 ^ L ≤ n * 2 ^ q) (hN : L ≤ N + 1075) (hN' : N + 1075 - L ≤ 2096) :
    ∃ z k r, double.div x y = some z ∧ Rd z (s ^^ t) k r ∧ k * 2 ^ r ≤ 2 ^ (N + 1075 - L) := by
  unfold Rd at hx hy
  unfold Format.div
  rw [hx, hy, dfb]
  unfold Datum.quotient
  dsimp only
  have hn0 : n ≠ 0 := fun e => by subst e; have := Nat.two_pow_pos L; omega
  rw [if_neg hn0]
  simp only [Option.map_some]
  generalize hmore : 52 + 2 + n.log2 - m.log2 = more
  rw [Nat.shiftLeft_eq]
  generalize hD : m * 2 ^ more = D
  have hmag : 2 * (D / n) + (D % n != 0).toNat = 0 ∨ (2 * (D / n) + (D % n != 0).toNat) * n ≤ 4 * D := by
    by_cases hm : m = 0
    · subst hm
      left
      rw [Nat.zero_mul] at hD
      subst hD
      rw [Nat.zero_div, Nat.zero_mod]
      rfl
    · right
      have l1 : 2 ^ m.log2 ≤ m := Nat.log2_self_le hm
      have l2 : n < 2 ^ (n.log2 + 1) := Nat.lt_log2_self
      have hDn : n ≤ D := by
        rw [← hD]
        refine Nat.le_trans (Nat.le_of_lt l2) (Nat.le_trans ?_ (Nat.mul_le_mul_right _ l1))
        rw [← Nat.pow_add]
        exact pow_le (by omega)
      have b1 := Bool.toNat_le (D % n != 0)
      have b2 := Nat.div_mul_le_self D n
      have b3 : (D % n != 0).toNat * n ≤ 1 * n := Nat.mul_le_mul_right _ b1
      rw [Nat.add_mul, Nat.mul_assoc]
      omega
  generalize 2 * (D / n) + (D % n != 0).toNat = g at hmag ⊢
  obtain ⟨k, r, h3, h4, _⟩ := nearest_b (s ^^ t) (mag := g) (a := p + 1074) (b := q + more + 1) (N := N + 1075 - L) (place := (p : Int) - 1074 - ((q : Int) - 1074) - (more : Int) - 1) (by omega) hN' (by
    rcases hmag with h | h
    · subst h; rw [Nat.zero_mul]; exact Nat.zero_le _
    · have e1 : g * 2 ^ (p + 1074) * 2 ^ L ≤ g * 2 ^ (p + 1074) * (n * 2 ^ q) := Nat.mul_le_mul_left _ h2
      have e2 : g * 2 ^ (p + 1074) * (n * 2 ^ q) = g * n * 2 ^ (p + 1074 + q) := by rw [Nat.pow_add _ _ q]; exact ac4 _ _ _ _
      have e3 : g * n * 2 ^ (p + 1074 + q) ≤ 4 * D * 2 ^ (p + 1074 + q) := Nat.mul_le_mul_right _ h
      have e4 : 4 * D * 2 ^ (p + 1074 + q) = m * 2 ^ p * 2 ^ (2 + more + 1074 + q) := by
        rw [← hD, show p + 1074 + q = p + (1074 + q) by omega, Nat.pow_add 2 p, show 2 + more + 1074 + q = 2 + (more + (1074 + q)) by omega, Nat.pow_add 2 2, Nat.pow_add 2 more]
        show 4 * (m * 2 ^ more) * (2 ^ p * 2 ^ (1074 + q)) = m * 2 ^ p * (4 * (2 ^ more * 2 ^ (1074 + q)))
        exact ac5 _ _ _ _
      have e5 : m * 2 ^ p * 2 ^ (2 + more + 1074 + q) ≤ 2 ^ N * 2 ^ (2 + more + 1074 + q) := Nat.mul_le_mul_right _ h1
      have e6 : g * 2 ^ (p + 1074) * 2 ^ L ≤ 2 ^ (N + 1075 - L + (q + more + 1)) * 2 ^ L := by
        rw [← Nat.pow_add, show N + 1075 - L + (q + more + 1) + L = N + (2 + more + 1074 + q) by omega, Nat.pow_add 2 N]
        exact Nat.le_trans e1 (Nat.le_trans (Nat.le_of_eq e2) (Nat.le_trans e3 (Nat.le_trans (Nat.le_of_eq e4) e5)))
      exact Nat.le_of_mul_le_mul_right e6 (Nat.two_pow_pos _))
  exact ⟨_, k, r, rfl, h3, h4⟩

/-- It is not small, whatever its sign. -/
def Gb (w L N : Nat) : Prop := ∃ s m p, Rd w s m p ∧ 2 ^ L ≤ m * 2 ^ p ∧ m * 2 ^ p ≤ 2 ^ N
theorem Pb.gb {w L N : Nat} (h : Pb w L N) : Gb w L N := by obtain ⟨m, p, h1, h2, h3⟩ := h; exact ⟨_, m, p, h1, h2, h3⟩
theorem Gb.nb {w L N : Nat} (h : Gb w L N) : Nb w N := by obtain ⟨s, m, p, h1, _, h2⟩ := h; exact ⟨s, m, p, h1, h2⟩
theorem Nb.div {x y N L M : Nat} (hx : Nb x N) (hy : Gb y L M) (hN : L ≤ N + 1075) (hN' : N + 1075 - L ≤ 2096) : ∃ z, double.div x y = some z ∧ Nb z (N + 1075 - L) := by
  obtain ⟨s, m, p, hx, h1⟩ := hx
  obtain ⟨t, n, q, hy, h2, _⟩ := hy
  obtain ⟨z, k, r, h3, h4, h5⟩ := div_b hx hy h1 h2 hN hN'
  exact ⟨z, h3, _, k, r, h4, h5⟩

/-- Order: of finite numbers there is one; what is greater than a number that is not negative. -/
theorem order_b {x y : Nat} {s t : Bool} {m p n q : Nat} (hx : Rd x s m p) (hy : Rd y t n q) : ∃ o, double.order x y = some o ∧
    (o = .gt → t = false → s = false ∧ n * 2 ^ q < m * 2 ^ p) ∧ (o ≠ .gt → s = false → t = false → m * 2 ^ p ≤ n * 2 ^ q) ∧ (o = .lt → t = false → n = 0 → s = true) ∧ (o = .eq → n = 0 → m = 0) ∧ (m = 0 → n = 0 → o = .eq) ∧ (x = y → o = .eq) := by
  unfold Rd at hx hy
  unfold Format.order
  rw [hx, hy]
  unfold Datum.order
  dsimp only
  obtain ⟨e, he⟩ : ∃ e : Nat, min ((p : Int) - 1074) ((q : Int) - 1074) = (e : Int) - 1074 ∧ e ≤ p ∧ e ≤ q := ⟨min p q, by omega, by omega, by omega⟩
  obtain ⟨he, hp, hq⟩ := he
  rw [he, show ((p : Int) - 1074 - ((e : Int) - 1074)).toNat = p - e by omega, show ((q : Int) - 1074 - ((e : Int) - 1074)).toNat = q - e by omega]
  have v1 : m * 2 ^ (p - e) * 2 ^ e = m * 2 ^ p := by rw [Nat.mul_assoc, ← Nat.pow_add, show p - e + e = p by omega]
  have v2 : n * 2 ^ (q - e) * 2 ^ e = n * 2 ^ q := by rw [Nat.mul_assoc, ← Nat.pow_add, show q - e + e = q by omega]
  have sg : ∀ (s : Bool) (m u : Nat), signed s m u = if s then -((m * 2 ^ u : Nat) : Int) else ((m * 2 ^ u : Nat) : Int) := fun s m u => by unfold signed; rw [Nat.shiftLeft_eq]
  rw [sg, sg]
  have hpe := Nat.two_pow_pos e
  refine ⟨_, rfl, ?_, ?_, ?_, ?_, ?_, ?_⟩
  · intro h ht
    subst ht
    rw [Int.compare_eq_gt] at h
    simp only [Bool.false_eq_true, if_false] at h
    cases s with
    | true => simp only [if_true] at h; omega
    | false =>
      simp only [Bool.false_eq_true, if_false] at h
      refine ⟨rfl, ?_⟩
      rw [← v1, ← v2]
      exact Nat.mul_lt_mul_of_pos_right (by omega) hpe
  · intro h hs ht
    subst hs; subst ht
    simp only [Bool.false_eq_true, if_false] at h
    rw [← v1, ← v2]
    refine Nat.mul_le_mul_right _ ?_
    rcases Nat.lt_or_ge (n * 2 ^ (q - e)) (m * 2 ^ (p - e)) with g | g
    · exact absurd (Int.compare_eq_gt.2 (by omega)) h
    · exact g
  · intro h ht hn
    subst ht; subst hn
    rw [Int.compare_eq_lt] at h
    simp only [Bool.false_eq_true, if_false] at h
    cases s with
    | true => rfl
    | false => simp only [Bool.false_eq_true, if_false] at h; omega
  · intro h hn
    subst hn
    rw [Int.compare_eq_eq] at h
    have : m * 2 ^ (p - e) = 0 := by
      generalize m * 2 ^ (p - e) = A at h
      rw [Nat.zero_mul] at h
      cases s <;> cases t <;> simp only [Bool.false_eq_true, if_false, if_true] at h <;> omega
    rcases Nat.mul_eq_zero.1 this with g | g
    · exact g
    · have := Nat.two_pow_pos (p - e); omega
  · intro h1 h2
    subst h1; subst h2
    rw [Int.compare_eq_eq]
    cases s <;> cases t <;> simp
  · intro h
    subst h
    rw [hx] at hy
    injection hy with h1 h2 h3
    obtain rfl : p = q := by omega
    subst h1; subst h2
    exact Int.compare_eq_eq.2 rfl
end Go.Proofs.YtdpchhbbmlhklaaGreatDoor.RT
