/- What is proved here: plain lemmas about the search, all sectors, the position of a sector, the moves. They ask nothing. -/
import Derived.Test.YtkcphennphabgaaCfT
import Derived.Test.YtkcphennphabgaaCgA
namespace Go.Proofs.Ytkcphennphabgaa.RT
open Go Go.R

theorem check_eq (k : Nat) (hk : 10 ≤ k) (l : List Gp) : config_Check.F k l = some (chk (config_Check.nm k) l) := by
  unfold config_Check.F
  rw [Nat.ble_eq_true_of_le hk]
  rfl

theorem w64_succ {i : Nat} (h : i < 1152921504606846976) : w64 ((i : Int) + 1) = ((i + 1 : Nat) : Int) := by
  rw [w64_id (by omega) (by omega)]; rfl

theorem in_idx {i n : Nat} (h : i < n) : (decide (0 ≤ (i : Int)) && decide ((i : Int) < ((n : Nat) : Int))) = true := by
  rw [decide_eq_true (p := 0 ≤ (i : Int)) (by omega), decide_eq_true (p := (i : Int) < ((n : Nat) : Int)) (by omega)]; rfl

theorem index_loop (k : Nat) (xs : List ByteArray) (s : ByteArray) (hl : xs.length < 1152921504606846976) : ∀ n i : Nat, i ≤ xs.length → xs.length - i < n → ∃ r, slices_Index_string.l0 k xs s n i = some r ∧ (0 ≤ r ↔ s ∈ xs.drop i) := by
  intro n
  induction n with
  | zero => intro i _ h; omega
  | succ n ih =>
    intro i hi hm
    rw [slices_Index_string.l0_succ]
    unfold slices_Index_string.l0b
    by_cases hlt : i < xs.length
    · rw [in_idx hlt, decide_eq_true (p := (i : Int) < ((xs.length : Nat) : Int)) (by omega), w64_succ (by omega), getD_nat, bytes_eq]
      simp only [cond_true]
      rw [drop_cons hlt ByteArray.empty]
      by_cases e : s = xs.getD i ByteArray.empty
      · rw [decide_eq_true e]
        exact ⟨i, rfl, fun _ => by rw [← e]; simp, fun _ => by omega⟩
      · rw [decide_eq_false e]
        obtain ⟨r, h1, h2⟩ := ih (i + 1) (by omega) (by omega)
        exact ⟨r, h1, h2.trans ⟨fun h => List.mem_cons_of_mem _ h, fun h => (List.mem_cons.1 h).resolve_left e⟩⟩
    · rw [decide_eq_false (p := (i : Int) < ((xs.length : Nat) : Int)) (by omega)]
      refine ⟨-1, rfl, fun h => by omega, fun h => ?_⟩
      rw [List.drop_eq_nil_of_le (by omega)] at h
      cases h

theorem contains_eq (k : Nat) (xs : List ByteArray) (s : ByteArray) (hl : xs.length < 1152921504606846976) (hk : xs.length < k) : slices_Contains_string.F k xs s = some (decide (s ∈ xs)) := by
  unfold slices_Contains_string.F slices_Index_string.F
  obtain ⟨r, h1, h2⟩ := index_loop k xs s hl k 0 (by omega) (by omega)
  rw [show ((0 : Nat) : Int) = 0 from rfl] at h1
  rw [h1, Option.bind_some]
  congr 1
  exact decide_eq_decide.2 (by rw [List.drop_zero] at h2; exact h2)

theorem find_loop2 (k : Nat) (l : List Gp) (s : ByteArray) (hl : l.length ≤ 12) : ∀ n i : Nat, i ≤ l.length → l.length - i < n → (∀ j, j < i → (l.getD j gp0).1 ≠ s) → ∃ r, config_find.l0 k l s n i = some r ∧ ((∃ i : Nat, i < l.length ∧ r = (i : Int) ∧ (l.getD i gp0).1 = s) ∨ (r = -1 ∧ ∀ i, i < l.length → (l.getD i gp0).1 ≠ s)) := by
  intro n
  induction n with
  | zero => intro i _ h; omega
  | succ n ih =>
    intro i hi hm hj
    rw [config_find.l0_succ]
    unfold config_find.l0b
    by_cases hlt : i < l.length
    · rw [in_idx hlt, decide_eq_true (p := (i : Int) < ((l.length : Nat) : Int)) (by omega), w64_succ (by omega), getD_nat, bytes_eq]
      simp only [cond_true]
      by_cases e : (l.getD i (ByteArray.empty, [])).1 = s
      · rw [decide_eq_true e]
        exact ⟨i, rfl, .inl ⟨i, hlt, rfl, e⟩⟩
      · rw [decide_eq_false e]
        refine ih (i + 1) (by omega) (by omega) fun j hj2 => ?_
        rcases Nat.lt_or_ge j i with h | h
        · exact hj j h
        · obtain rfl : j = i := by omega
          exact e
    · rw [decide_eq_false (p := (i : Int) < ((l.length : Nat) : Int)) (by omega)]
      exact ⟨-1, rfl, .inr ⟨rfl, fun j hj2 => hj j (by omega)⟩⟩

theorem find_eq (k : Nat) (hk : 20 ≤ k) (l : List Gp) (s : ByteArray) (hl : l.length ≤ 12) : ∃ r, config_find.F k l s = some r ∧ ((∃ i : Nat, i < l.length ∧ r = (i : Int) ∧ (l.getD i gp0).1 = s) ∨ (r = -1 ∧ ∀ i, i < l.length → (l.getD i gp0).1 ≠ s)) := find_loop2 k l s hl k 0 (by omega) (by omega) fun j h => by omega

/-! ### All sectors -/

theorem names_loop (k : Nat) (l : List Gp) (hl : l.length ≤ 12) : ∀ (n i : Nat) (acc : List ByteArray), i ≤ l.length → l.length - i < n → acc.length + (flat (l.drop i)).length ≤ 12 → config_Names.l0 k l n (i, acc) = some (Sum.inl (acc ++ flat (l.drop i))) := by
  intro n
  induction n with
  | zero => intro i _ _ h; omega
  | succ n ih =>
    intro i acc hi hm ht
    rw [config_Names.l0_succ]
    unfold config_Names.l0b
    dsimp only
    by_cases hlt : i < l.length
    · rw [drop_cons hlt (ByteArray.empty, []), flat_cons, List.length_append] at ht
      rw [in_idx hlt, decide_eq_true (p := (i : Int) < ((l.length : Nat) : Int)) (by omega), w64_succ (by omega), getD_nat, Nat.ble_eq_true_of_le (by omega)]
      simp only [cond_true]
      rw [ih (i + 1) _ (by omega) (by omega) (by rw [List.length_append]; omega), drop_cons hlt (ByteArray.empty, []), flat_cons, List.append_assoc]
    · rw [decide_eq_false (p := (i : Int) < ((l.length : Nat) : Int)) (by omega), List.drop_eq_nil_of_le (by omega)]
      simp [flat]

theorem names_bad (k : Nat) (hk : 20 ≤ k) {l : List Gp} (h : ¬ Gd (config_Check.nm k) l) : ∃ e, e ≠ 0 ∧ config_Check.F k l = some e ∧ config_Names.F k l = some ([], e) ∧ ∀ s, config_Position.F k l s = some (⟨#[]⟩, e) := by
  have hc : chk (config_Check.nm k) l ≠ 0 := fun e => h ((chk_iff _ _).1 e)
  refine ⟨_, hc, check_eq k (by omega) l, ?_, fun s => ?_⟩
  · unfold config_Names.F
    rw [check_eq k (by omega), Option.bind_some, show (chk (config_Check.nm k) l != 0) = true by simpa using hc]
    rfl
  · unfold config_Position.F
    rw [check_eq k (by omega), Option.bind_some, show (chk (config_Check.nm k) l != 0) = true by simpa using hc]
    rfl

theorem check_ok (k : Nat) (hk : 20 ≤ k) {l : List Gp} (h : Gd (config_Check.nm k) l) : config_Check.F k l = some 0 := by
  rw [check_eq k (by omega), (chk_iff _ _).2 h]

theorem names_ok (k : Nat) (hk : 20 ≤ k) {l : List Gp} (h : Gd (config_Check.nm k) l) : config_Names.F k l = some (strSort (flat l), 0) := by
  unfold config_Names.F
  have hl := names_loop k l h.len k 0 [] (by omega) (by have := h.len; omega) (by have := h.tot; simpa using this)
  rw [show ((0 : Nat) : Int) = 0 from rfl] at hl
  rw [check_ok k hk h, Option.bind_some, show ((0 : Int) != 0) = false from rfl, cond_false, hl]
  simp only [Option.bind_some, List.drop_zero, List.nil_append]
  rw [show strSortO (flat l) = some (strSort (flat l)) by
    unfold strSortO
    have := h.tot
    rw [show Nat.blt (flat l).length 4611686018427387904 = true by simp [Nat.blt]; omega]
    rfl]
  rfl

/-! ### The position of a sector -/

noncomputable def posOf (l : List Gp) (s : ByteArray) : ByteArray := ((l.find? fun g => decide (s ∈ g.2)).map (·.1)).getD ⟨#[]⟩

theorem pos_loop (k : Nat) (hk : 20 ≤ k) (l : List Gp) (s : ByteArray) (hl : l.length ≤ 12) (h12 : ∀ g ∈ l, g.2.length ≤ 12) : ∀ n i : Nat, i ≤ l.length → l.length - i < n →
    config_Position.l0 k l s n i = some (match (l.drop i).find? fun g => decide (s ∈ g.2) with | some g => (g.1, 0) | none => (⟨#[]⟩, 8)) := by
  intro n
  induction n with
  | zero => intro i _ h; omega
  | succ n ih =>
    intro i hi hm
    rw [config_Position.l0_succ]
    unfold config_Position.l0b
    by_cases hlt : i < l.length
    · have hg := h12 l[i] (List.getElem_mem hlt)
      have hgd : l.getD i (ByteArray.empty, []) = l[i] := by simp [List.getD, hlt]
      rw [in_idx hlt, decide_eq_true (p := (i : Int) < ((l.length : Nat) : Int)) (by omega), w64_succ (by omega), getD_nat, drop_cons hlt (ByteArray.empty, []), hgd, contains_eq k _ s (by omega) (by omega)]
      simp only [cond_true, Option.bind_some, List.find?_cons]
      by_cases e : s ∈ (l[i]).2
      · rw [decide_eq_true e]
        rfl
      · rw [decide_eq_false e, cond_false, ih (i + 1) (by omega) (by omega)]
    · rw [decide_eq_false (p := (i : Int) < ((l.length : Nat) : Int)) (by omega), List.drop_eq_nil_of_le (by omega)]
      rfl

theorem flat_mem {l : List Gp} {s : ByteArray} : s ∈ flat l ↔ ∃ g ∈ l, s ∈ g.2 := List.mem_flatMap

theorem sec_len : ∀ {l : List Gp} {g : Gp}, g ∈ l → g.2.length ≤ (flat l).length
  | h :: l, g, hg => by
    rw [flat_cons, List.length_append]
    rcases List.mem_cons.1 hg with rfl | hg
    · omega
    · have := sec_len hg; omega

theorem Gd.sec12 {N : ByteArray → Bool} {l : List Gp} (h : Gd N l) {g : Gp} (hg : g ∈ l) : g.2.length ≤ 12 := Nat.le_trans (sec_len hg) h.tot

theorem pos_eq (k : Nat) (hk : 20 ≤ k) {l : List Gp} (h : Gd (config_Check.nm k) l) (s : ByteArray) : ∃ e, config_Position.F k l s = some (posOf l s, e) ∧ (s ∈ flat l → e = 0) := by
  unfold config_Position.F
  have hl := pos_loop k hk l s h.len (fun g hg => h.sec12 hg) k 0 (by omega) (by have := h.len; omega)
  rw [show ((0 : Nat) : Int) = 0 from rfl] at hl
  rw [check_ok k hk h, Option.bind_some, show ((0 : Int) != 0) = false from rfl, cond_false, hl, List.drop_zero]
  unfold posOf
  cases e : l.find? fun g => decide (s ∈ g.2) with
  | none =>
    refine ⟨8, rfl, fun hs => ?_⟩
    obtain ⟨g, hg, hs⟩ := flat_mem.1 hs
    have := List.find?_eq_none.1 e g hg
    simp [hs] at this
  | some g => exact ⟨0, rfl, fun _ => rfl⟩

/-- The sector is the position's. -/
def Has (l : List Gp) (p s : ByteArray) : Prop := ∃ g ∈ l, g.1 = p ∧ s ∈ g.2

theorem Gd.sec_inj {N : ByteArray → Bool} {l : List Gp} (h : Gd N l) {g g' : Gp} (hg : g ∈ l) (hg' : g' ∈ l) {s : ByteArray} (hs : s ∈ g.2) (hs' : s ∈ g'.2) : g = g' := by
  have hd := (List.pairwise_flatMap.1 h.nd).2
  obtain ⟨i, hi, rfl⟩ := List.mem_iff_getElem.1 hg
  obtain ⟨j, hj, rfl⟩ := List.mem_iff_getElem.1 hg'
  rcases Nat.lt_trichotomy i j with q | q | q
  · exact absurd rfl (List.pairwise_iff_getElem.1 hd i j hi hj q s hs s hs')
  · subst q; rfl
  · exact absurd rfl (List.pairwise_iff_getElem.1 hd j i hj hi q s hs' s hs)

theorem Gd.pos_inj {N : ByteArray → Bool} {l : List Gp} (h : Gd N l) {g g' : Gp} (hg : g ∈ l) (hg' : g' ∈ l) (he : g.1 = g'.1) : g = g' := by
  obtain ⟨i, hi, rfl⟩ := List.mem_iff_getElem.1 hg
  obtain ⟨j, hj, rfl⟩ := List.mem_iff_getElem.1 hg'
  rcases Nat.lt_trichotomy i j with q | q | q
  · exact absurd he (scmp_irrefl (List.pairwise_iff_getElem.1 h.ord i j hi hj q))
  · subst q; rfl
  · exact absurd he.symm (scmp_irrefl (List.pairwise_iff_getElem.1 h.ord j i hj hi q))

theorem pos_has {N : ByteArray → Bool} {l : List Gp} (h : Gd N l) {p s : ByteArray} (hp : Has l p s) : posOf l s = p := by
  obtain ⟨g, hg, rfl, hs⟩ := hp
  unfold posOf
  cases e : l.find? fun g => decide (s ∈ g.2) with
  | none =>
    have := List.find?_eq_none.1 e g hg
    simp [hs] at this
  | some g' =>
    have h1 := List.mem_of_find?_eq_some e
    have h2 : s ∈ g'.2 := by simpa using List.find?_some e
    rw [h.sec_inj hg h1 hs h2]
    rfl
theorem flat_has {l : List Gp} {s : ByteArray} : s ∈ flat l ↔ ∃ p, Has l p s := by
  rw [flat_mem]
  exact ⟨fun ⟨g, hg, hs⟩ => ⟨g.1, g, hg, rfl, hs⟩, fun ⟨_, g, hg, _, hs⟩ => ⟨g, hg, hs⟩⟩

/-! ### Comparison of texts, the moves -/

theorem equal_loop (k : Nat) (xs ys : List ByteArray) (hl : xs.length = ys.length) (h6 : xs.length < 1152921504606846976) : ∀ n i : Nat, i ≤ xs.length → xs.length - i < n → slices_Equal_string.l0 k xs ys n i = some (decide (xs.drop i = ys.drop i)) := by
  intro n
  induction n with
  | zero => intro i _ h; omega
  | succ n ih =>
    intro i hi hm
    rw [slices_Equal_string.l0_succ]
    unfold slices_Equal_string.l0b
    by_cases hlt : i < xs.length
    · rw [in_idx hlt, in_idx (show i < ys.length by omega), decide_eq_true (p := (i : Int) < ((xs.length : Nat) : Int)) (by omega), w64_succ (by omega), getD_nat, getD_nat, bytes_eq]
      simp only [cond_true]
      rw [drop_cons hlt ByteArray.empty, drop_cons (show i < ys.length by omega) ByteArray.empty, ih (i + 1) (by omega) (by omega)]
      by_cases e : xs.getD i ByteArray.empty = ys.getD i ByteArray.empty
      · rw [decide_eq_true e, Bool.not_true, cond_false]
        exact congrArg some (decide_eq_decide.2 ⟨fun q => by rw [e, q], fun q => (List.cons.inj q).2⟩)
      · rw [decide_eq_false e]
        simp only [Bool.not_false, cond_true]
        rw [decide_eq_false (fun q => e (List.cons.inj q).1)]
    · rw [decide_eq_false (p := (i : Int) < ((xs.length : Nat) : Int)) (by omega), List.drop_eq_nil_of_le (by omega), List.drop_eq_nil_of_le (by omega)]
      rfl

theorem equal_eq (k : Nat) (xs ys : List ByteArray) (h6 : xs.length < 1152921504606846976) (hk : xs.length < k) : slices_Equal_string.F k xs ys = some (decide (xs = ys)) := by
  unfold slices_Equal_string.F
  by_cases hl : xs.length = ys.length
  · have h := equal_loop k xs ys hl h6 k 0 (by omega) (by omega)
    rw [show ((0 : Nat) : Int) = 0 from rfl] at h
    rw [show (((xs.length : Nat) : Int) != ((ys.length : Nat) : Int)) = false by simp [hl], cond_false, h]
    rfl
  · rw [show (((xs.length : Nat) : Int) != ((ys.length : Nat) : Int)) = true by simp; omega, cond_true, decide_eq_false (fun e => hl (by rw [e]))]

noncomputable def mv (a b : List Gp) (s : ByteArray) : Option (ByteArray × ByteArray × ByteArray) := if posOf a s = posOf b s then none else some (s, posOf a s, posOf b s)

theorem moves_loop (k : Nat) (hk : 20 ≤ k) {a b : List Gp} (ha : Gd (config_Check.nm k) a) (hb : Gd (config_Check.nm k) b) (r : List ByteArray × Int) (hr : r.1.length ≤ 12) : ∀ (n i : Nat) (acc : List (ByteArray × ByteArray × ByteArray)), i ≤ r.1.length → r.1.length - i < n → acc.length ≤ i →
    config_Moves.l0 k a b r n (i, acc) = some (acc ++ (r.1.drop i).filterMap (mv a b), 0) := by
  intro n
  induction n with
  | zero => intro i _ _ h; omega
  | succ n ih =>
    intro i acc hi hm hacc
    rw [config_Moves.l0_succ]
    unfold config_Moves.l0b
    dsimp only
    by_cases hlt : i < r.1.length
    · obtain ⟨e1, h1, _⟩ := pos_eq k hk ha (r.1.getD i ByteArray.empty)
      obtain ⟨e2, h2, _⟩ := pos_eq k hk hb (r.1.getD i ByteArray.empty)
      rw [in_idx hlt, decide_eq_true (p := (i : Int) < ((r.1.length : Nat) : Int)) (by omega), w64_succ (by omega), getD_nat, h1, h2, Nat.ble_eq_true_of_le (by omega)]
      simp only [cond_true, Option.bind_some]
      rw [bytes_eq, drop_cons hlt ByteArray.empty, List.filterMap_cons]
      by_cases e : posOf a (r.1.getD i ByteArray.empty) = posOf b (r.1.getD i ByteArray.empty)
      · rw [decide_eq_true e, show mv a b (r.1.getD i ByteArray.empty) = none from if_pos e]
        simp only [Bool.not_true, cond_false]
        exact ih (i + 1) acc (by omega) (by omega) (by omega)
      · rw [decide_eq_false e, show mv a b (r.1.getD i ByteArray.empty) = some _ from if_neg e]
        simp only [Bool.not_false, cond_true]
        rw [ih (i + 1) _ (by omega) (by omega) (by simp; omega)]
        simp
    · rw [decide_eq_false (p := (i : Int) < ((r.1.length : Nat) : Int)) (by omega), List.drop_eq_nil_of_le (by omega)]
      simp

theorem strSort_len12 {N : ByteArray → Bool} {l : List Gp} (h : Gd N l) : (strSort (flat l)).length ≤ 12 := by rw [strSort_length]; exact h.tot

theorem moves_ok (k : Nat) (hk : 20 ≤ k) {a b : List Gp} (ha : Gd (config_Check.nm k) a) (hb : Gd (config_Check.nm k) b) : config_Moves.F k a b = some (if strSort (flat a) = strSort (flat b) then ((strSort (flat a)).filterMap (mv a b), 0) else ([], 19)) := by
  unfold config_Moves.F
  have h12 := strSort_len12 ha
  rw [names_ok k hk ha, names_ok k hk hb]
  simp only [Option.bind_some]
  rw [show ((0 : Int) != 0) = false from rfl, cond_false, cond_false, equal_eq k _ _ (by omega) (by omega), Option.bind_some]
  by_cases e : strSort (flat a) = strSort (flat b)
  · have h := moves_loop k hk ha hb (strSort (flat a), 0) h12 k 0 [] (by omega) (by dsimp only; omega) (by simp)
    rw [show ((0 : Nat) : Int) = 0 from rfl] at h
    rw [decide_eq_true e, if_pos e, Bool.not_true, cond_false, h]
    rfl
  · rw [decide_eq_false e, if_neg e]
    rfl

theorem moves_bad (k : Nat) (hk : 20 ≤ k) {a b : List Gp} (h : ¬ (Gd (config_Check.nm k) a ∧ Gd (config_Check.nm k) b)) : ∃ e, e ≠ 0 ∧ config_Moves.F k a b = some ([], e) := by
  unfold config_Moves.F
  by_cases ha : Gd (config_Check.nm k) a
  · obtain ⟨e, he, _, h2, _⟩ := names_bad k hk (fun hb => h ⟨ha, hb⟩)
    refine ⟨e, he, ?_⟩
    rw [names_ok k hk ha, h2]
    simp only [Option.bind_some]
    rw [show ((0 : Int) != 0) = false from rfl, cond_false, show (e != 0) = true by simpa using he]
    rfl
  · obtain ⟨e, he, _, h2, _⟩ := names_bad k hk ha
    refine ⟨e, he, ?_⟩
    rw [h2]
    simp only [Option.bind_some]
    rw [show (e != 0) = true by simpa using he]
    rfl

end Go.Proofs.Ytkcphennphabgaa.RT
