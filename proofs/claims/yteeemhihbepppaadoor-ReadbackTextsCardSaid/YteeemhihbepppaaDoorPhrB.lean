/- What is proved here: what names, words and numerals are made of. They ask nothing. -/
import Derived.Test.YteeemhihbepppaaDoorPhT
import Derived.Test.YteeemhihbepppaaDoorPlA
import Derived.Test.YteeemhihbepppaaDoorNameA
import Derived.Test.YteeemhihbepppaaDoorPhrA
namespace Go.Proofs.YteeemhihbepppaaDoor.RT
open Go Go.R

/-! ### Names -/

theorem nameb_loop (k : Nat) (s : ByteArray) (hs : s.size ≤ 8) : ∀ n i : Nat, i ≤ s.size → s.size - i < n → chart_Name.l0 k s n i = some true → ∀ j, i ≤ j → j < s.size → bt s j ≠ 32 := by
  intro n
  induction n with
  | zero => intro i _ h; omega
  | succ n ih =>
    intro i hi hm h j hij hj
    rw [chart_Name.l0_succ] at h
    unfold chart_Name.l0b at h
    rw [decide_eq_true (p := (i : Int) < (s.size : Int)) (by omega), decide_eq_true (p := 0 ≤ (i : Int)) (by omega), w64_id (n := (i : Int) + 1) (by omega) (by omega)] at h
    simp only [Bool.and_self, cond_true] at h
    by_cases e : j = i
    · intro h32
      subst e
      rw [h32] at h
      exact absurd h (by simp)
    · have hn := ih (i + 1) (by omega) (by omega)
      rw [show ((i + 1 : Nat) : Int) = (i : Int) + 1 by omega] at hn
      cases e1 : decide (bt s i < 65) <;> cases e2 : decide (bt s i > 90) <;> cases e3 : decide (bt s i < 48) <;> cases e4 : decide (bt s i > 57) <;> rw [e1] at h <;> (try rw [e2] at h) <;> (try rw [e3] at h) <;> (try rw [e4] at h) <;> first
        | exact hn h j (by omega) hj
        | cases h

theorem cname_true {k : Nat} (hk : 10 ≤ k) {s : ByteArray} (h : chart_Name.F k s = some true) : s.size ≤ 8 ∧ ∀ j, j < s.size → bt s j ≠ 32 := by
  unfold chart_Name.F at h
  by_cases h0 : s.size = 0
  · exact ⟨by omega, fun j hj => by omega⟩
  rw [cond_neg (c := (s.size : Int) == 0) (by simpa using h0)] at h
  by_cases h8 : 8 < s.size
  · rw [decide_eq_true (p := (s.size : Int) > 8) (by omega)] at h
    exact absurd h (by simp)
  rw [decide_eq_false (p := (s.size : Int) > 8) (by omega), decide_eq_true (p := (0 : Int) < (s.size : Int)) (by omega)] at h
  refine ⟨by omega, fun j hj => ?_⟩
  have hn := nameb_loop k s (by omega) k 0 (by omega) (by omega)
  rw [show ((0 : Nat) : Int) = 0 from rfl] at hn
  cases e1 : decide (bt s 0 < 65) <;> cases e2 : decide (bt s 0 > 90) <;> rw [e1] at h <;> (try rw [e2] at h) <;> first
    | exact hn h j (by omega) hj
    | cases h

attribute [local irreducible] chart_Name.F

theorem bt_mem {s : ByteArray} (h : ∀ j, j < s.size → bt s j ≠ 32) : (32 : UInt8) ∉ s.data.toList := fun hm => by
  obtain ⟨j, hj, e⟩ := List.mem_iff_getElem.1 hm
  have hj' : j < s.size := by simpa using hj
  have hjd : j < s.data.size := hj'
  refine h j hj' ?_
  simp only [Array.getElem_toList] at e
  unfold bt
  rw [Int.toNat_natCast, List.getD_eq_getElem?_getD, List.getElem?_eq_getElem hj, Option.getD_some, Array.getElem_toList, e]
  rfl

/-! ### Words -/

def wds : List ByteArray := [⟨#[72, 69, 73, 71, 72, 84]⟩, ⟨#[72, 69, 65, 68, 73, 78, 71]⟩, ⟨#[83, 80, 69, 69, 68]⟩, ⟨#[68, 73, 82, 69, 67, 84]⟩, ⟨#[72, 79, 76, 68]⟩, ⟨#[67, 79, 78, 84, 65, 67, 84]⟩, ⟨#[76, 65, 78, 68]⟩]
def wd (i : Nat) : ByteArray := wds.getD i ByteArray.empty

/-- Where a text stands among the words. -/
def KindOf (s : ByteArray) (v : Int) : Prop := (v = -1 ∧ ∀ i, i < 7 → wd i ≠ s) ∨ ∃ i : Nat, i < 7 ∧ v = i ∧ wd i = s

theorem kindk_loop (k : Nat) (s : ByteArray) : ∀ n i : Nat, i ≤ 7 → 7 - i < n → (∀ j, j < i → wd j ≠ s) → ∃ v, phrase_kind.l0 k s n i = some v ∧ KindOf s v := by
  intro n
  induction n with
  | zero => intro i _ h; omega
  | succ n ih =>
    intro i hi hn hb
    rw [phrase_kind.l0_succ]
    unfold phrase_kind.l0b
    by_cases hlt : i < 7
    · rw [decide_eq_true (p := (i : Int) < 7) (by omega), decide_eq_true (p := 0 ≤ (i : Int)) (by omega), decide_eq_true (p := (i : Int) < ((7 : Nat) : Int)) (by omega), show w64 ((i : Int) + 1) = ((i + 1 : Nat) : Int) from w64_id (by omega) (by omega)]
      simp only [Bool.and_self, cond_true]
      change ∃ v, (bif (wds.getD ((i : Int)).toNat ByteArray.empty).toList == s.toList then some (i : Int) else phrase_kind.l0 k s n ((i + 1 : Nat) : Int)) = some v ∧ KindOf s v
      rw [getD_nat, ba_dec]
      change ∃ v, (bif decide (wd i = s) then some (i : Int) else phrase_kind.l0 k s n ((i + 1 : Nat) : Int)) = some v ∧ KindOf s v
      by_cases e : wd i = s
      · rw [decide_eq_true e]
        exact ⟨_, rfl, .inr ⟨i, hlt, rfl, e⟩⟩
      · rw [decide_eq_false e]
        exact ih (i + 1) (by omega) (by omega) fun j hj => by
          by_cases ej : j = i
          · subst ej; exact e
          · exact hb j (by omega)
    · rw [decide_eq_false (p := (i : Int) < 7) (by omega)]
      exact ⟨-1, rfl, .inl ⟨rfl, fun j hj => hb j (by omega)⟩⟩

theorem kind_of (k : Nat) (hk : 10 ≤ k) (s : ByteArray) : ∃ v, phrase_kind.F k s = some v ∧ KindOf s v := by
  unfold phrase_kind.F
  have := kindk_loop k s k 0 (by omega) (by omega) (fun j hj => by omega)
  exact this

theorem wd_inj {i j : Nat} (hi : i < 7) (hj : j < 7) (h : wd i = wd j) : i = j := by
  have : ∀ i : Fin 7, ∀ j : Fin 7, (wd i).data.toList = (wd j).data.toList → i = j := by decide
  exact congrArg Fin.val (this ⟨i, hi⟩ ⟨j, hj⟩ (by rw [h]))

theorem wd_sp {i : Nat} (hi : i < 7) : (32 : UInt8) ∉ (wd i).data.toList ∧ (wd i).size ≤ 7 ∧ ∃ c r, (wd i).data.toList = c :: r ∧ 65 ≤ c.toNat := by
  have h1 : ∀ i : Fin 7, (32 : UInt8) ∉ (wd i).data.toList := by decide
  have h2 : ∀ i : Fin 7, (wd i).data.toList.length ≤ 7 := by decide
  have h3 : ∀ i : Fin 7, 65 ≤ ((wd i).data.toList.headD 0).toNat := by decide
  refine ⟨h1 ⟨i, hi⟩, ?_, ?_⟩
  · have := h2 ⟨i, hi⟩
    simpa using this
  · have := h3 ⟨i, hi⟩
    revert this
    cases (wd i).data.toList with
    | nil => exact fun h => absurd h (by decide)
    | cons c r => exact fun h => ⟨c, r, rfl, h⟩

theorem kind_wd (k : Nat) (hk : 10 ≤ k) {i : Nat} (hi : i < 7) : phrase_kind.F k (wd i) = some (i : Int) := by
  obtain ⟨v, hv, h⟩ := kind_of k hk (wd i)
  rcases h with ⟨_, h⟩ | ⟨j, hj, rfl, h⟩
  · exact absurd rfl (h i hi)
  · rw [hv, wd_inj hj hi h]

theorem kind_no (k : Nat) (hk : 10 ≤ k) {s : ByteArray} (hs : ∀ i, i < 7 → wd i ≠ s) : phrase_kind.F k s = some (-1) := by
  obtain ⟨v, hv, h⟩ := kind_of k hk s
  rcases h with ⟨rfl, _⟩ | ⟨j, hj, rfl, h⟩
  · exact hv
  · exact absurd h (hs j hj)

attribute [local irreducible] phrase_kind.F

/-! ### Plain texts -/

theorem plain_true {k : Nat} (hk : 10 ≤ k) {s : ByteArray} (h : phrase_plain.F k s = some true) : s.size ≤ 8 ∧ (32 : UInt8) ∉ s.data.toList ∧ phrase_kind.F k s = some (-1) := by
  unfold phrase_plain.F owner_Name.F sector_Name.F at h
  obtain ⟨b, hb⟩ := cname_total k hk s
  obtain ⟨v, hv, hkv⟩ := kind_of k hk s
  rw [hb, hv] at h
  cases b with
  | false => exact absurd h (by simp)
  | true =>
    obtain ⟨h1, h2⟩ := cname_true hk hb
    refine ⟨h1, bt_mem h2, ?_⟩
    rcases hkv with ⟨rfl, _⟩ | ⟨j, hj, rfl, _⟩
    · exact hv
    · exfalso
      simp only [Option.bind_some, cond_true, Option.some.injEq, decide_eq_true_eq] at h
      omega

/-! ### Numerals -/

theorem digF_len : ∀ (k u : Nat), (digF k u).length ≤ k
  | 0, _ => Nat.le_refl _
  | k + 1, u => by
    rw [digF]
    cases Nat.ble 10 u with
    | true =>
      have := digF_len k (u / 10)
      simp only [cond_true, List.length_append, List.length_singleton]
      omega
    | false => simp

theorem dig_nat {d : Nat} (h : d < 10) : (UInt8.ofNat (48 + d)).toNat = 48 + d := by
  rw [UInt8.toNat_ofNat']
  omega

theorem digF_dig : ∀ (k u : Nat) (c : UInt8), c ∈ digF k u → 48 ≤ c.toNat ∧ c.toNat ≤ 57
  | 0, _, c, h => by simp [digF] at h
  | k + 1, u, c, h => by
    rw [digF] at h
    cases hb : Nat.ble 10 u with
    | true =>
      rw [hb] at h
      simp only [cond_true, List.mem_append, List.mem_singleton] at h
      rcases h with h | rfl
      · exact digF_dig k _ c h
      · rw [dig_nat (Nat.mod_lt _ (by omega))]
        omega
    | false =>
      rw [hb] at h
      have hu : u < 10 := by
        apply Classical.byContradiction
        intro hn
        rw [Nat.ble_eq_true_of_le (by omega)] at hb
        cases hb
      simp only [cond_false, List.mem_singleton] at h
      subst h
      rw [dig_nat hu]
      omega

theorem digF_ne (k u : Nat) : digF (k + 1) u ≠ [] := by
  rw [digF]
  cases Nat.ble 10 u <;> simp

theorem parse_snoc : ∀ (l : List UInt8) (acc a d : Nat), d < 10 → Lib.parseUint10 acc l = .ok a → a < 1000000000000000000 → Lib.parseUint10 acc (l ++ [UInt8.ofNat (48 + d)]) = .ok (a * 10 + d)
  | [], acc, a, d, hd, h, ha => by
    simp only [Lib.parseUint10, Lib.NumEnd.ok.injEq] at h
    subst h
    simp only [List.nil_append, Lib.parseUint10, dig_nat hd]
    rw [if_pos (by omega), if_neg (by omega), if_neg (by omega), show 48 + d - 48 = d by omega]
  | c :: l, acc, a, d, hd, h, ha => by
    simp only [List.cons_append, Lib.parseUint10] at h ⊢
    split at h
    · rename_i hc
      rw [if_pos hc]
      split at h
      · cases h
      · rename_i h1
        rw [if_neg h1]
        split at h
        · cases h
        · rename_i h2
          rw [if_neg h2]
          exact parse_snoc l _ a d hd h ha
    · cases h

theorem parse_digF : ∀ (k u : Nat), u < 10 ^ k → 0 < k → k ≤ 18 → Lib.parseUint10 0 (digF k u) = .ok u
  | 0, _, _, h, _ => absurd h (by omega)
  | k + 1, u, hu, _, hk => by
    rw [digF]
    by_cases h : u < 10
    · have e : Nat.ble 10 u = false := Bool.eq_false_iff.2 fun e => by have := Nat.le_of_ble_eq_true e; omega
      rw [e, cond_false]
      have := parse_snoc [] 0 0 u h rfl (by omega)
      simpa using this
    · rw [Nat.ble_eq_true_of_le (by omega), cond_true]
      have h1 : u / 10 < 10 ^ k := by rw [Nat.pow_succ] at hu; omega
      have h2 : 0 < k := by
        rcases Nat.eq_zero_or_pos k with rfl | hk
        · simp at hu; omega
        · exact hk
      have h3 : (10 : Nat) ^ k ≤ 10 ^ 17 := Nat.pow_le_pow_right (by omega) (by omega)
      have := parse_snoc _ 0 (u / 10) (u % 10) (Nat.mod_lt _ (by omega)) (parse_digF k (u / 10) h1 h2 (by omega)) (by omega)
      rw [this]
      congr 1
      omega

theorem digF_small : ∀ (k j u : Nat), u < 10 ^ k → 0 < k → k ≤ j → digF j u = digF k u := fun k j u hu h0 hj => by
  rw [digF_eq k u hu h0, digF_eq j u (Nat.lt_of_lt_of_le hu (Nat.pow_le_pow_right (by omega) hj)) (by omega)]

/-- A numeral of a value that a clearance may have. -/
theorem num_ok {v : Int} (h0 : 0 ≤ v) (h1 : v ≤ 60000) : (numF v).size ≤ 5 ∧ (32 : UInt8) ∉ (numF v).data.toList ∧ (∀ i, i < 7 → wd i ≠ numF v) ∧ itoaF v = some (numF v) ∧ atoiF (numF v) = some (v, false) := by
  obtain ⟨u, rfl⟩ : ∃ u : Nat, v = u := ⟨v.toNat, by omega⟩
  have e : (numF (u : Int)).data.toList = digF 5 u := by
    unfold numF
    rw [decide_eq_false (p := (u : Int) < 0) (by omega), cond_false, Int.toNat_natCast, digF_small 5 20 u (by omega) (by omega) (by omega)]
  have hsz : (numF (u : Int)).size = (digF 5 u).length := by
    rw [← e]
    simp
  have hl := digF_len 5 u
  refine ⟨by omega, ?_, fun i hi hw => ?_, ?_, ?_⟩
  · rw [e]
    intro hm
    exact absurd (digF_dig 5 u 32 hm).1 (by decide)
  · obtain ⟨_, _, c, r, hc, hcn⟩ := wd_sp hi
    rw [hw, e] at hc
    have := digF_dig 5 u c (by rw [hc]; exact List.mem_cons_self)
    omega
  · unfold itoaF
    rw [decide_eq_true (p := (-9223372036854775808 : Int) ≤ (u : Int)) (by omega), decide_eq_true (p := (u : Int) ≤ 9223372036854775807) (by omega)]
    rfl
  · unfold atoiF
    rw [Nat.ble_eq_true_of_le (by omega), cond_true, e]
    have hp := parse_digF 5 u (by omega) (by omega) (by omega)
    have hne := digF_ne 4 u
    have : Lib.atoiAll (digF 5 u) = .ok (u : Int) := by
      cases hd : digF 5 u with
      | nil => exact absurd hd hne
      | cons c r =>
        have hc := digF_dig 5 u c (by rw [hd]; exact List.mem_cons_self)
        rw [Lib.atoiAll_plain c r (by omega) (by omega), ← hd]
        unfold Lib.parseMag
        rw [if_neg hne, hp]
        show (if 9223372036854775808 ≤ u then Lib.NumEnd.range else Lib.NumEnd.ok (u : Int)) = _
        rw [if_neg (by omega)]
    rw [this]

theorem atoi_total {s : ByteArray} (h : s.size ≤ 1000000) : ∃ v b, atoiF s = some (v, b) ∧ -9223372036854775808 ≤ v ∧ v ≤ 9223372036854775807 := by
  unfold atoiF
  rw [Nat.ble_eq_true_of_le h, cond_true]
  cases ha : Lib.atoiAll s.data.toList with
  | ok v => exact ⟨v, false, rfl, Lib.atoiAll_bounds ha⟩
  | range => exact ⟨_, true, rfl, Lib.atoiSat_bounds _⟩
  | _ => exact ⟨0, true, rfl, by omega, by omega⟩

theorem itoa_total {v : Int} (h0 : -9223372036854775808 ≤ v) (h1 : v ≤ 9223372036854775807) : itoaF v = some (numF v) := by
  unfold itoaF
  rw [decide_eq_true h0, decide_eq_true h1]
  rfl

/-! ### Pieces -/

theorem cutL_one {c : UInt8} : ∀ {l : List UInt8}, c ∉ l → cutL c l = [l]
  | [], _ => rfl
  | b :: l, h => by
    simp only [List.mem_cons, not_or] at h
    rw [cutL, beq_eq_false_iff_ne.2 (Ne.symm h.1), cond_false, cutL_one h.2]

theorem cutL_app {c : UInt8} (r : List UInt8) : ∀ {l : List UInt8}, c ∉ l → cutL c (l ++ c :: r) = l :: cutL c r
  | [], _ => by simp [cutL]
  | b :: l, h => by
    simp only [List.mem_cons, not_or] at h
    rw [List.cons_append, cutL, beq_eq_false_iff_ne.2 (Ne.symm h.1), cond_false, cutL_app r h.2]

/-- The pieces, joined, are the text. -/
def joinL (c : UInt8) : List (List UInt8) → List UInt8
  | [] => []
  | [p] => p
  | p :: q :: r => p ++ c :: joinL c (q :: r)

theorem joinL_cut (c : UInt8) : ∀ l : List UInt8, joinL c (cutL c l) = l
  | [] => rfl
  | b :: l => by
    have ih := joinL_cut c l
    rw [cutL]
    by_cases h : b = c
    · subst h
      rw [beq_self_eq_true, cond_true]
      cases hc : cutL b l with
      | nil => exact absurd hc (cutL_ne b l)
      | cons p r => rw [joinL, ← hc, ih]; rfl
    · rw [beq_eq_false_iff_ne.2 h, cond_false]
      cases hc : cutL c l with
      | nil => exact absurd hc (cutL_ne c l)
      | cons p r =>
        rw [hc] at ih
        cases r with
        | nil => simp only [joinL] at ih ⊢; rw [ih]
        | cons q r => simp only [joinL] at ih ⊢; rw [List.cons_append, ih]

end Go.Proofs.YteeemhihbepppaaDoor.RT
