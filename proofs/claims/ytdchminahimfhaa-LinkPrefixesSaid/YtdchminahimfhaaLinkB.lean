/- What is proved here: the plain law LinkPrefixes. It asks nothing. -/
import Derived.Test.YtdchminahimfhaaLinkA
namespace Go.Proofs.Ytdchminahimfhaa.RT
open Go Go.R

abbrev Txts := List ByteArray
/-- The text at place j. -/
def txt (T : Txts) (j : Nat) : ByteArray := T.getD j ByteArray.empty

/-- Texts that are few and short. -/
structure TxOk (T : Txts) : Prop where
  few : T.length ≤ 32
  small : ∀ j, j < T.length → (txt T j).size ≤ 120

theorem txt_drop (T : Txts) (c j : Nat) : (T.drop c).getD j ByteArray.empty = txt T (c + j) := by
  unfold txt
  rw [List.getD_eq_getElem?_getD, List.getElem?_drop, List.getD_eq_getElem?_getD]

theorem lk_of {T : Txts} (h : TxOk T) {c : Nat} (hc : c ≤ T.length) : LkOk (1 + (c : Int), T.drop c) := by
  have := h.few
  refine ⟨by simp only [List.length_drop]; omega, by simp only; omega, by simp only [List.length_drop]; omega, fun j hj => ?_⟩
  simp only [List.length_drop] at hj
  rw [txt_drop]
  exact h.small _ (by omega)

/-- The frames that are sent from place c on. -/
def frs (T : Txts) (c n : Nat) : List (Int × ByteArray) := (List.range n).map fun (i : Nat) => (1 + (c : Int) + (i : Int), txt T (c + i))

theorem frs_len (T : Txts) (c n : Nat) : (frs T c n).length = n := by simp [frs]
theorem frs_at (T : Txts) (c n j : Nat) (h : j < n) : (frs T c n).getD j (0, ByteArray.empty) = (1 + (c : Int) + (j : Int), txt T (c + j)) := by
  rw [List.getD_eq_getElem?_getD]
  simp [frs, h]

theorem frames_loop (k : Nat) {T : Txts} (h : TxOk T) {c : Nat} (hc : c ≤ T.length) (m : Nat) (hm : m ≤ T.length - c) (em : (mn (((T.drop c).length : Nat) : Int) 4).toNat = m) : ∀ n i : Nat, i ≤ m → m - i < n → link_Frames.l0 k (1 + (c : Int), T.drop c) n (i, frs T c i) = some (frs T c m, 0) := by
  intro n
  have hf := h.few
  have hl : ((T.drop c).take m).length = m := by rw [List.length_take, List.length_drop]; omega
  induction n with
  | zero => intro i _ h; omega
  | succ n ih =>
    intro i hi hn
    rw [link_Frames.l0_succ]
    unfold link_Frames.l0b
    dsimp only
    rw [em, hl]
    by_cases hlt : i < m
    · have e : ((T.drop c).take m).getD i ByteArray.empty = txt T (c + i) := by
        rw [← txt_drop, List.getD_eq_getElem?_getD, List.getElem?_take, if_pos hlt, List.getD_eq_getElem?_getD]
      rw [cond_pos (decide_eq_true (by omega)), cond_pos (inIdx (by omega) (by omega)), frs_len, cond_pos (Nat.ble_eq_true_of_le (by omega)), getD_nat, e, w64_id (n := (i : Int) + 1) (by omega) (by omega), w64_id (n := 1 + (c : Int) + (i : Int)) (by omega) (by omega)]
      have e2 : frs T c i ++ [(1 + (c : Int) + (i : Int), txt T (c + i))] = frs T c (i + 1) := by
        unfold frs
        rw [List.range_succ, List.map_append]
        rfl
      rw [e2]
      exact ih (i + 1) (by omega) (by omega)
    · rw [cond_neg (decide_eq_false (by omega)), show i = m by omega]

attribute [local irreducible] link_Check.F slices_Clone_string.F slices_Equal_string.F

theorem check_ok {k : Nat} (hk : 33 ≤ k) {s : Int × Txts} (h : LkOk s) : link_Check.F k s = some 0 := by
  rcases lcheck_cases k hk s with ⟨g, _⟩ | ⟨_, g⟩
  · exact g
  · exact absurd h g

/-- How many frames are sent. -/
def win (T : Txts) (c : Nat) : Nat := min (T.length - c) 4

theorem frames_eq (k : Nat) (hk : 33 ≤ k) {T : Txts} (h : TxOk T) {c : Nat} (hc : c ≤ T.length) : link_Frames.F k (1 + (c : Int), T.drop c) = some (frs T c (win T c), 0) := by
  have hf := h.few
  unfold link_Frames.F
  rw [check_ok hk (lk_of h hc)]
  simp only [Option.bind_some]
  have em : (mn (((T.drop c).length : Nat) : Int) 4) = (win T c : Int) := by
    unfold mn win; rw [List.length_drop]; split <;> omega
  have hw : win T c ≤ T.length - c ∧ win T c ≤ 4 := by unfold win; omega
  rw [cond_neg (c := (0 : Int) != 0) (by rfl), em, decide_eq_true (p := (0 : Int) ≤ (win T c : Int)) (by omega), decide_eq_true (p := (win T c : Int) ≤ (((T.drop c).length : Nat) : Int)) (by rw [List.length_drop]; omega), Bool.and_self, cond_true]
  exact frames_loop k h hc (win T c) hw.1 (by rw [em]; simp) k 0 (by omega) (by omega)

theorem take_eq (k : Nat) (nx a : Int) (t : ByteArray) (h1 : 1 ≤ nx) (h2 : nx < 100000) (h3 : 1 ≤ a) (h4 : a < 100000) (h5 : t.size ≤ 120) : link_Take.F k nx (a, t) = some (if a = nx then (nx + 1, true, 0) else (nx, false, 0)) := by
  unfold link_Take.F
  dsimp only
  rw [decide_eq_false (p := nx < 1) (by omega), decide_eq_false (p := nx ≥ 100000) (by omega), decide_eq_false (p := a < 1) (by omega), decide_eq_false (p := a ≥ 100000) (by omega), decide_eq_false (p := (t.size : Int) > 120) (by omega), w64_id (n := nx + 1) (by omega) (by omega)]
  simp only [Option.bind_some, cond_false]
  by_cases h : a = nx
  · rw [if_pos h, cond_neg (by simpa using h)]
  · rw [if_neg h, cond_pos (by simpa using h)]

theorem heard_at (k : Nat) (hk : 33 ≤ k) {T : Txts} (h : TxOk T) {c : Nat} (hc : c ≤ T.length) (e : Nat) (he : e ≤ T.length) : link_Heard.F k (1 + (c : Int), T.drop c) (1 + (e : Int)) = some ((1 + ((max c e : Nat) : Int), T.drop (max c e)), 0) := by
  have hf := h.few
  rw [heard_eq k hk _ (lk_of h hc) (1 + (e : Int)) (by omega) (by simp only [List.length_drop]; omega)]
  have e1 : mx (1 + (e : Int) - (1 + (c : Int))) 0 = ((max c e : Nat) : Int) - (c : Int) := by unfold mx; split <;> omega
  simp only [e1]
  have e2 : ((((max c e : Nat) : Int) - (c : Int))).toNat = max c e - c := by omega
  rw [e2, List.drop_drop, show c + (max c e - c) = max c e by omega]
  congr 3
  omega

theorem begin_l0 (k : Nat) (hk : 33 ≤ k) (T : Txts) (hl : T.length ≤ 32) : ∀ n i : Nat, i ≤ T.length → T.length - i < n → (∀ j, j < i → (txt T j).size ≤ 120) →
    (skywaykeep3_LinkPrefixes.l0 k T n ((i, 1), T.take i) = some (.inr true)) ∨ (skywaykeep3_LinkPrefixes.l0 k T n ((i, 1), T.take i) = some (.inl (1, T)) ∧ TxOk T) := by
  intro n
  induction n with
  | zero => intro i _ h; omega
  | succ n ih =>
    intro i hi hn hs
    rw [skywaykeep3_LinkPrefixes.l0_succ]
    unfold skywaykeep3_LinkPrefixes.l0b
    dsimp only
    by_cases hlt : i < T.length
    · rw [cond_pos (decide_eq_true (by omega)), cond_pos (inIdx (by omega) (by omega)), getD_nat]
      have hlen : (T.take i).length = i := by rw [List.length_take]; omega
      have hok : LkOk (1, T.take i) := by
        refine ⟨by simp only [hlen]; omega, by simp only; omega, by simp only [hlen]; omega, fun j hj => ?_⟩
        simp only [hlen] at hj
        have := hs j hj
        unfold txt at this
        rw [List.getD_eq_getElem?_getD, List.getElem?_take, if_pos hj, ← List.getD_eq_getElem?_getD]
        exact this
      show (_ = _) ∨ (_ = _ ∧ _)
      have put : link_Put.F k (1, T.take i) (txt T i) = if 120 < (txt T i).size then some ((0, []), 2) else some ((1, T.take (i + 1)), 0) := by
        unfold link_Put.F
        rw [check_ok hk hok]
        simp only [Option.bind_some]
        rw [cond_neg (c := (0 : Int) != 0) (by rfl)]
        by_cases c1 : 120 < (txt T i).size
        · rw [if_pos c1, cond_pos (decide_eq_true (by omega))]
        · rw [if_neg c1, cond_neg (decide_eq_false (by omega)), hlen, w64_id (n := 1 + (i : Int)) (by omega) (by omega), cond_neg (c := (i : Int) == 32) (by simp; omega)]
          simp only [Option.bind_some]
          rw [cond_neg (c := 1 + (i : Int) == 100000) (by simp; omega), clone_str k _ (by omega)]
          simp only [Option.bind_some]
          rw [hlen, cond_pos (Nat.ble_eq_true_of_le (by omega))]
          have : T.take i ++ [txt T i] = T.take (i + 1) := by
            unfold txt
            rw [List.getD_eq_getElem?_getD, List.getElem?_eq_getElem hlt, Option.getD_some, List.take_append_getElem]
          rw [this]
      have ht : T.getD i ByteArray.empty = txt T i := rfl
      rw [ht, put]
      by_cases c1 : 120 < (txt T i).size
      · rw [if_pos c1]
        simp only [Option.bind_some]
        rw [cond_pos (c := (2 : Int) != 0) (by rfl), decide_eq_true (p := ((txt T i).size : Int) > 120) (by omega)]
        exact .inl rfl
      · rw [if_neg c1]
        simp only [Option.bind_some]
        rw [cond_neg (c := (0 : Int) != 0) (by rfl), w64_id (n := (i : Int) + 1) (by omega) (by omega)]
        exact ih (i + 1) (by omega) (by omega) (fun j hj => by
          rcases Nat.lt_or_ge j i with g | g
          · exact hs j g
          · rw [show j = i by omega]; omega)
    · rw [cond_neg (decide_eq_false (by omega)), List.take_of_length_le (by omega)]
      exact .inr ⟨rfl, hl, fun j hj => hs j (by omega)⟩

attribute [local irreducible] link_Take.F link_Heard.F link_Frames.F

theorem take_snoc {T : Txts} {d : Nat} (h : d < T.length) : T.take d ++ [txt T d] = T.take (d + 1) := by
  unfold txt
  rw [List.getD_eq_getElem?_getD, List.getElem?_eq_getElem h, Option.getD_some, List.take_append_getElem]

/-- The frames of a window, taken from place j on: what is taken goes on. -/
theorem taken_l2 (k : Nat) (hk : 33 ≤ k) {T : Txts} (h : TxOk T) {c : Nat} (w : Nat) (hw : c + w ≤ T.length) : ∀ n j d : Nat, j ≤ w → w - j < n → c + j ≤ d → d ≤ T.length →
    ∃ d' : Nat, skywaykeep3_LinkPrefixes.l2 k T (frs T c w, 0) n ((j, 1 + (d : Int)), T.take d) = some (.inl (1 + (d' : Int), T.take d')) ∧ d ≤ d' ∧ c + w ≤ d' ∧ d' ≤ T.length := by
  intro n
  have hf := h.few
  induction n with
  | zero => intro j _ _ h; omega
  | succ n ih =>
    intro j d hj hn hd hd'
    rw [skywaykeep3_LinkPrefixes.l2_succ]
    unfold skywaykeep3_LinkPrefixes.l2b
    dsimp only
    rw [frs_len]
    by_cases hlt : j < w
    · rw [cond_pos (decide_eq_true (by omega)), cond_pos (inIdx (by omega) (by omega)), getD_nat, frs_at T c w j hlt, take_eq k (1 + (d : Int)) (1 + (c : Int) + (j : Int)) (txt T (c + j)) (by omega) (by omega) (by omega) (by omega) (h.small _ (by omega))]
      have hlen : (T.take d).length = d := by rw [List.length_take]; omega
      by_cases e : c + j = d
      · subst e
        have hdt : c + j < T.length := by omega
        have hlen1 : (T.take (c + j + 1)).length = c + j + 1 := by rw [List.length_take]; omega
        rw [if_pos (by omega)]
        simp only [Option.bind_some, cond_true]
        rw [take_snoc hdt, hlen1, hlen, Int.toNat_natCast, cond_pos (Nat.ble_eq_true_of_le (by omega)), cond_pos (c := (0 : Int) == 0) (by rfl), cond_pos (decide_eq_true (by omega)), cond_pos (c := _ && _) (by rw [decide_eq_true (by omega), decide_eq_true (by omega)]; rfl), equal_refl k hk _ (by omega)]
        simp only [Option.bind_some, cond_true]
        rw [w64_id (n := ((c + j + 1 : Nat) : Int) + 1) (by omega) (by omega), cond_neg (by simp; omega), w64_id (n := (j : Int) + 1) (by omega) (by omega)]
        have := ih (j + 1) (c + j + 1) (by omega) (by omega) (by omega) (by omega)
        obtain ⟨d2, g1, g2, g3, g4⟩ := this
        refine ⟨d2, ?_, by omega, g3, g4⟩
        rw [← g1]
        congr 3
      · rw [if_neg (by omega)]
        simp only [Option.bind_some, cond_false]
        rw [hlen, Int.toNat_natCast, cond_pos (c := (0 : Int) == 0) (by rfl), cond_pos (decide_eq_true (by omega)), cond_pos (c := _ && _) (by rw [decide_eq_true (by omega), decide_eq_true (by omega)]; rfl), equal_refl k hk _ (by omega)]
        simp only [Option.bind_some, cond_true]
        rw [w64_id (n := (d : Int) + 1) (by omega) (by omega), cond_neg (by simp; omega), w64_id (n := (j : Int) + 1) (by omega) (by omega)]
        exact ih (j + 1) d (by omega) (by omega) (by omega) hd'
    · rw [cond_neg (decide_eq_false (by omega))]
      exact ⟨d, rfl, Nat.le_refl _, by omega, hd'⟩

theorem rounds_l3 (k : Nat) (hk : 33 ≤ k) {T : Txts} (h : TxOk T) : ∀ n i c d : Nat, i ≤ T.length → T.length - i < n → i ≤ c → c ≤ d → d ≤ T.length →
    skywaykeep3_LinkPrefixes.l3 k T n ((i, 1 + (c : Int), 1 + (d : Int)), T.drop c, T.take d) = some (.inl ((1 + (T.length : Int), 1 + (T.length : Int)), [], T)) := by
  intro n
  have hf := h.few
  induction n with
  | zero => intro i _ _ _ h; omega
  | succ n ih =>
    intro i c d hi hn hic hcd hd
    rw [skywaykeep3_LinkPrefixes.l3_succ]
    unfold skywaykeep3_LinkPrefixes.l3b
    dsimp only
    by_cases hlt : i < T.length
    · rw [cond_pos (decide_eq_true (by omega)), frames_eq k hk h (by omega)]
      simp only [Option.bind_some]
      rw [cond_neg (c := (0 : Int) != 0) (by rfl)]
      have hw : c + win T c ≤ T.length ∧ (c < T.length → 1 ≤ win T c) ∧ win T c ≤ 4 := by unfold win; omega
      obtain ⟨d', g1, g2, g3, g4⟩ := taken_l2 k hk h (c := c) (win T c) hw.1 k 0 d (by omega) (by omega) (by omega) hd
      rw [show ((0 : Nat) : Int) = 0 from rfl] at g1
      rw [g1]
      simp only [Option.bind_some]
      rw [heard_at k hk h (by omega) d' g4, show max c d' = d' by omega]
      simp only [Option.bind_some]
      rw [cond_neg (c := !((0 : Int) == 0)) (by rfl), w64_id (n := (i : Int) + 1) (by omega) (by omega)]
      exact ih (i + 1) d' d' (by omega) (by omega) (by omega) (Nat.le_refl _) g4
    · have e1 : c = T.length := by omega
      have e2 : d = T.length := by omega
      subst e1
      rw [cond_neg (decide_eq_false (by omega)), e2, List.drop_length, List.take_length]

theorem lpick_ok (k : Nat) (a m : Int) (h0 : 0 < m) (h1 : m ≤ 1000000) : ∃ d, skywaykeep3_pick.F k a m = some d ∧ 0 ≤ d ∧ d < m := by
  unfold skywaykeep3_pick.F
  have e1 : IntKind.u64.wrap m = m := by rw [IntKind.wrap_u64]; omega
  have h2 : IntKind.u64.wrap a = a % 18446744073709551616 := by rw [IntKind.wrap_u64]
  have h3 : 0 ≤ IntKind.u64.wrap a := by omega
  have h4 : Int.tmod (IntKind.u64.wrap a) m = IntKind.u64.wrap a % m := Int.tmod_eq_emod_of_nonneg h3
  have h5 := Int.emod_nonneg (IntKind.u64.wrap a) (show m ≠ 0 by omega)
  have h6 := Int.emod_lt_of_pos (IntKind.u64.wrap a) h0
  rw [e1, cond_pos (by simp; omega), h4, w64_id (by omega) (by omega)]
  exact ⟨_, rfl, h5, h6⟩

theorem getI_mem {l : List Int} {d : Int} (h0 : 0 ≤ d) (h1 : d < l.length) : l.getD d.toNat 0 ∈ l := by
  rw [List.getD_eq_getElem?_getD, List.getElem?_eq_getElem (by omega)]
  exact List.getElem_mem _

attribute [local irreducible] skywaykeep3_pick.F

theorem script_l1 (k : Nat) (hk : 33 ≤ k) {T : Txts} (h : TxOk T) (a : List Int) (ha : a.length ≤ 200) : ∀ (n i c d : Nat) (old : List Int), i ≤ a.length → a.length - i < n → c ≤ d → d ≤ T.length → old.length = i → (∀ o ∈ old, ∃ e : Nat, o = 1 + (e : Int) ∧ e ≤ d) →
    ∃ c' d' : Nat, skywaykeep3_LinkPrefixes.l1 k T a n ((i, 1 + (c : Int), 1 + (d : Int)), old, T.drop c, T.take d) = some (.inl ((1 + (c' : Int), 1 + (d' : Int)), T.drop c', T.take d')) ∧ c' ≤ d' ∧ d' ≤ T.length := by
  intro n
  have hf := h.few
  induction n with
  | zero => intro i _ _ _ _ h; omega
  | succ n ih =>
    intro i c d old hi hn hcd hd ho hold
    rw [skywaykeep3_LinkPrefixes.l1_succ]
    unfold skywaykeep3_LinkPrefixes.l1b
    dsimp only
    by_cases hlt : i < a.length
    · have hol : (old ++ [1 + (d : Int)]).length = i + 1 := by rw [List.length_append, ho]; rfl
      have hin : ∀ o ∈ old ++ [1 + (d : Int)], ∃ e : Nat, o = 1 + (e : Int) ∧ e ≤ d := fun o ho => by
        rcases List.mem_append.1 ho with ho | ho
        · exact hold o ho
        · exact ⟨d, List.mem_singleton.1 ho, Nat.le_refl _⟩
      have hw : c + win T c ≤ T.length ∧ win T c ≤ 4 := by unfold win; omega
      rw [cond_pos (c := decide ((i : Int) < ((a.length : Nat) : Int))) (decide_eq_true (by omega)), cond_pos (inIdx (by omega) (by omega)), frames_eq k hk h (by omega), getD_nat]
      simp only [Option.bind_some]
      rw [frs_len, cond_neg (c := (0 : Int) != 0) (by rfl), decide_eq_false (p := (win T c : Int) > 4) (by omega)]
      simp only [Option.bind_some, cond_false]
      rw [cond_pos (c := Nat.ble ((old.length + 1) * 8) 140737488355328) (Nat.ble_eq_true_of_le (by omega))]
      obtain ⟨t3, s1, _⟩ := lpick_ok k (a.getD i 0) 3 (by omega) (by omega)
      rw [s1]
      simp only [Option.bind_some]
      by_cases hb : 0 < win T c ∧ t3 < 2
      · rw [decide_eq_true (p := (win T c : Int) > 0) (by omega), decide_eq_true (p := t3 < 2) hb.2]
        simp only [Option.bind_some, cond_true]
        obtain ⟨z, z1, z2, z3⟩ := lpick_ok k (w64 (Int.tdiv (a.getD i 0) 3)) ((win T c : Nat) : Int) (by omega) (by omega)
        rw [z1]
        simp only [Option.bind_some]
        obtain ⟨j, rfl⟩ : ∃ j : Nat, z = (j : Int) := ⟨z.toNat, by omega⟩
        have hj : j < win T c := by omega
        rw [cond_pos (inIdx (by omega) (by omega)), getD_nat, frs_at T c _ j hj, take_eq k (1 + (d : Int)) (1 + (c : Int) + (j : Int)) (txt T (c + j)) (by omega) (by omega) (by omega) (by omega) (h.small _ (by omega))]
        have hlen : (T.take d).length = d := by rw [List.length_take]; omega
        by_cases e : c + j = d
        · have hdt : d < T.length := by omega
          have hlen1 : (T.take (d + 1)).length = d + 1 := by rw [List.length_take]; omega
          rw [if_pos (by omega), e]
          simp only [Option.bind_some, cond_true]
          rw [take_snoc hdt, hlen1, hlen, Int.toNat_natCast, cond_pos (Nat.ble_eq_true_of_le (by omega)), cond_pos (c := (0 : Int) == 0) (by rfl), cond_pos (decide_eq_true (by omega)), cond_pos (c := _ && _) (by rw [decide_eq_true (by omega), decide_eq_true (by omega)]; rfl), equal_refl k hk _ (by omega)]
          simp only [Option.bind_some, cond_true]
          rw [w64_id (n := ((d + 1 : Nat) : Int) + 1) (by omega) (by omega)]
          have eb : (1 + (d : Int) + 1 == ((d + 1 : Nat) : Int) + 1) = true := by simp; omega
          have en : 1 + (d : Int) + 1 = 1 + ((d + 1 : Nat) : Int) := by omega
          rw [eb, en]
          simp only [Bool.not_true, cond_false]
          obtain ⟨r, p1, p2, p3⟩ := lpick_ok k (w64 (Int.tdiv (a.getD i 0) 12)) 2 (by omega) (by omega)
          rw [p1]
          simp only [Option.bind_some]
          by_cases hr : r = 0
          · obtain ⟨q, q1, q2, q3⟩ := lpick_ok k (w64 (Int.tdiv (a.getD i 0) 24)) (((old ++ [1 + (d : Int)]).length : Nat) : Int) (by rw [hol]; omega) (by rw [hol]; omega)
            rw [cond_pos (c := r == 0) (by simpa using hr), q1]
            simp only [Option.bind_some]
            rw [cond_pos (inIdx q2 q3)]
            obtain ⟨e, e1, e2⟩ := hin _ (getI_mem q2 q3)
            rw [e1, heard_at k hk h (by omega) e (by omega)]
            simp only [Option.bind_some]
            rw [cond_neg (c := !((0 : Int) == 0)) (by rfl), w64_id (n := (i : Int) + 1) (by omega) (by omega)]
            exact ih (i + 1) (max c e) (d + 1) (old ++ [1 + (d : Int)]) (by omega) (by omega) (by omega) (by omega) hol (fun o ho => by obtain ⟨e, e1, e2⟩ := hin o ho; exact ⟨e, e1, by omega⟩)
          · rw [cond_neg (c := r == 0) (by simpa using hr), w64_id (n := (i : Int) + 1) (by omega) (by omega)]
            exact ih (i + 1) c (d + 1) (old ++ [1 + (d : Int)]) (by omega) (by omega) (by omega) (by omega) hol (fun o ho => by obtain ⟨e, e1, e2⟩ := hin o ho; exact ⟨e, e1, by omega⟩)
        · rw [if_neg (by omega)]
          simp only [Option.bind_some, cond_false]
          rw [hlen, Int.toNat_natCast, cond_pos (c := (0 : Int) == 0) (by rfl), cond_pos (decide_eq_true (by omega)), cond_pos (c := _ && _) (by rw [decide_eq_true (by omega), decide_eq_true (by omega)]; rfl), equal_refl k hk _ (by omega)]
          simp only [Option.bind_some, cond_true]
          rw [w64_id (n := (d : Int) + 1) (by omega) (by omega)]
          have eb : (1 + (d : Int) == (d : Int) + 1) = true := by simp; omega
          rw [eb]
          simp only [Bool.not_true, cond_false]
          obtain ⟨r, p1, p2, p3⟩ := lpick_ok k (w64 (Int.tdiv (a.getD i 0) 12)) 2 (by omega) (by omega)
          rw [p1]
          simp only [Option.bind_some]
          by_cases hr : r = 0
          · obtain ⟨q, q1, q2, q3⟩ := lpick_ok k (w64 (Int.tdiv (a.getD i 0) 24)) (((old ++ [1 + (d : Int)]).length : Nat) : Int) (by rw [hol]; omega) (by rw [hol]; omega)
            rw [cond_pos (c := r == 0) (by simpa using hr), q1]
            simp only [Option.bind_some]
            rw [cond_pos (inIdx q2 q3)]
            obtain ⟨e, e1, e2⟩ := hin _ (getI_mem q2 q3)
            rw [e1, heard_at k hk h (by omega) e (by omega)]
            simp only [Option.bind_some]
            rw [cond_neg (c := !((0 : Int) == 0)) (by rfl), w64_id (n := (i : Int) + 1) (by omega) (by omega)]
            exact ih (i + 1) (max c e) (d) (old ++ [1 + (d : Int)]) (by omega) (by omega) (by omega) (by omega) hol (fun o ho => by obtain ⟨e, e1, e2⟩ := hin o ho; exact ⟨e, e1, by omega⟩)
          · rw [cond_neg (c := r == 0) (by simpa using hr), w64_id (n := (i : Int) + 1) (by omega) (by omega)]
            exact ih (i + 1) c (d) (old ++ [1 + (d : Int)]) (by omega) (by omega) (by omega) (by omega) hol (fun o ho => by obtain ⟨e, e1, e2⟩ := hin o ho; exact ⟨e, e1, by omega⟩)
      · have hb' : (bif decide ((win T c : Int) > 0) then some (decide (t3 < 2)) else some false) = some false := by
          by_cases g : 0 < win T c
          · rw [decide_eq_true (p := (win T c : Int) > 0) (by omega), decide_eq_false (p := t3 < 2) (fun q => hb ⟨g, q⟩)]; rfl
          · rw [decide_eq_false (p := (win T c : Int) > 0) (by omega)]; rfl
        rw [hb']
        simp only [Option.bind_some, cond_false]
        obtain ⟨r, p1, p2, p3⟩ := lpick_ok k (w64 (Int.tdiv (a.getD i 0) 12)) 2 (by omega) (by omega)
        rw [p1]
        simp only [Option.bind_some]
        by_cases hr : r = 0
        · obtain ⟨q, q1, q2, q3⟩ := lpick_ok k (w64 (Int.tdiv (a.getD i 0) 24)) (((old ++ [1 + (d : Int)]).length : Nat) : Int) (by rw [hol]; omega) (by rw [hol]; omega)
          rw [cond_pos (c := r == 0) (by simpa using hr), q1]
          simp only [Option.bind_some]
          rw [cond_pos (inIdx q2 q3)]
          obtain ⟨e, e1, e2⟩ := hin _ (getI_mem q2 q3)
          rw [e1, heard_at k hk h (by omega) e (by omega)]
          simp only [Option.bind_some]
          rw [cond_neg (c := !((0 : Int) == 0)) (by rfl), w64_id (n := (i : Int) + 1) (by omega) (by omega)]
          exact ih (i + 1) (max c e) (d) (old ++ [1 + (d : Int)]) (by omega) (by omega) (by omega) (by omega) hol (fun o ho => by obtain ⟨e, e1, e2⟩ := hin o ho; exact ⟨e, e1, by omega⟩)
        · rw [cond_neg (c := r == 0) (by simpa using hr), w64_id (n := (i : Int) + 1) (by omega) (by omega)]
          exact ih (i + 1) c (d) (old ++ [1 + (d : Int)]) (by omega) (by omega) (by omega) (by omega) hol (fun o ho => by obtain ⟨e, e1, e2⟩ := hin o ho; exact ⟨e, e1, by omega⟩)
    · rw [cond_neg (c := decide ((i : Int) < ((a.length : Nat) : Int))) (decide_eq_false (by omega))]
      exact ⟨c, d, rfl, hcd, hd⟩

attribute [local irreducible] skywaykeep3_linkFact.F skywaykeep3_LinkPrefixes.l0 skywaykeep3_LinkPrefixes.l1 skywaykeep3_LinkPrefixes.l3

theorem LinkPrefixes_plain (k : Nat) (hk : 300 ≤ k) (hfact : skywaykeep3_linkFact.F k = some true) (T : Txts) (a : List Int) : skywaykeep3_LinkPrefixes.F k T a = some true := by
  unfold skywaykeep3_LinkPrefixes.F
  rw [hfact]
  simp only [Option.bind_some, Bool.not_true, cond_false]
  by_cases h1 : 32 < T.length
  · rw [decide_eq_true (p := ((T.length : Nat) : Int) > 32) (by omega)]; rfl
  rw [decide_eq_false (p := ((T.length : Nat) : Int) > 32) (by omega)]
  by_cases h2 : 200 < a.length
  · rw [decide_eq_true (p := ((a.length : Nat) : Int) > 200) (by omega)]; rfl
  rw [decide_eq_false (p := ((a.length : Nat) : Int) > 200) (by omega)]
  have hb : link_Begin.F k = some (1, []) := rfl
  rw [hb]
  simp only [Option.bind_some, cond_false]
  rcases begin_l0 k (by omega) T (by omega) k 0 (by omega) (by omega) (fun j hj => by omega) with g | ⟨g, h⟩
  · rw [show ((0 : Nat) : Int) = 0 from rfl, List.take_zero] at g
    rw [g]; rfl
  · rw [show ((0 : Nat) : Int) = 0 from rfl, List.take_zero] at g
    rw [g]
    simp only [Option.bind_some]
    obtain ⟨c, d, g1, g2, g3⟩ := script_l1 k (by omega) h a (by omega) k 0 0 0 [] (by omega) (by omega) (by omega) (by omega) rfl (fun o ho => by simp at ho)
    have g1' : skywaykeep3_LinkPrefixes.l1 k T a k ((0, 1, 1), [], T, []) = some (.inl ((1 + (c : Int), 1 + (d : Int)), T.drop c, T.take d)) := g1
    rw [g1']
    simp only [Option.bind_some]
    have g4 := rounds_l3 k (by omega) h k 0 c d (by omega) (by omega) (by omega) g2 g3
    rw [show ((0 : Nat) : Int) = 0 from rfl] at g4
    rw [g4]
    simp only [Option.bind_some]
    rw [equal_refl k (by omega) T (by omega)]
    rfl

attribute [local irreducible] skywaykeep3_LinkPrefixes.F
theorem prefixes_cal (k : Nat) (x : DatPs (skywaykeep3_LinkPrefixes.C 0).ats) : (skywaykeep3_LinkPrefixes.C k).F x = skywaykeep3_LinkPrefixes.F k x.1 x.2 := rfl
theorem LinkPrefixes_law (x : DatPs (skywaykeep3_LinkPrefixes.C 0).ats) (_ : FitPs (skywaykeep3_LinkPrefixes.C 0).ats x) : ∃ k, (skywaykeep3_LinkPrefixes.C k).F x = some true :=
  ⟨300 + 40, (prefixes_cal _ x).trans (LinkPrefixes_plain (300 + 40) (by omega) (lfact 300) x.1 x.2)⟩

end Go.Proofs.Ytdchminahimfhaa.RT
