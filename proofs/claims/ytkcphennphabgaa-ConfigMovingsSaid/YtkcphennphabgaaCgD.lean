/- What is proved here: plain lemmas about splitting a position. They ask nothing. -/
import Derived.Test.YtkcphennphabgaaCfT
import Derived.Test.YtkcphennphabgaaCgC
namespace Go.Proofs.Ytkcphennphabgaa.RT
open Go Go.R

theorem nm_eq (k : Nat) (hk : 10 ≤ k) (s : ByteArray) : sector_Name.F k s = some (config_Check.nm k s) := by
  obtain ⟨b, h, _⟩ := cf_name k hk s
  unfold config_Check.nm
  rw [h]
  rfl

theorem cmp_cfg (k : Nat) (x y : Gp) : config_order_1.F k x y = some (scmp x.1 y.1) := by
  unfold config_order_1.F
  rw [compare_eq]
  rfl

theorem cfg_ok : CmpOk (fun x y : Gp => scmp x.1 y.1) := ⟨fun x y => scmp_neg x.1 y.1, fun _ _ _ h g => scmp_trans h g, fun _ _ _ h g => scmp_ntrans h g⟩

theorem sort_cfg (k : Nat) {xs : List Gp} (hl : xs.length ≤ 100) (hd : xs.Pairwise fun x y => x.1 ≠ y.1) : ∃ ys, sortO (fun a b => config_order_1.F k a b) xs = some ys ∧ ys.Perm xs ∧ ys.Pairwise fun a b => scmp a.1 b.1 < 0 := by
  have hc : ∀ x ∈ xs, ∀ y ∈ xs, (fun a b => config_order_1.F k a b) x y = some (scmp x.1 y.1) := fun x _ y _ => cmp_cfg k x y
  have hd2 : xs.Pairwise fun x y : Gp => scmp x.1 y.1 ≠ 0 := hd.imp fun {a b} h e => h (ba_inj (scmp_zero.1 e))
  obtain ⟨ys, hs⟩ := sorted_exists cfg_ok (by omega) hc hd2
  refine ⟨ys, sortO_eq hs, ?_⟩
  obtain ⟨_, cf, _, h2, _, h4, h5⟩ := hs
  refine ⟨h4, h5.imp_of_mem fun {a b} ha hb h => ?_⟩
  have h6 := h2 a (h4.mem_iff.1 ha) b (h4.mem_iff.1 hb)
  rw [hc a (h4.mem_iff.1 ha) b (h4.mem_iff.1 hb)] at h6
  rw [Option.some.inj h6]
  exact h

theorem split_l0 (k : Nat) (hk : 20 ≤ k) (l : List Gp) (names : List ByteArray) {i : Nat} (hi : i < l.length) (h12 : (l[i]).2.length ≤ 12) (hn : names.length < 1152921504606846976) : ∀ n q : Nat, q ≤ names.length → names.length - q < n →
    ((∀ s ∈ names.drop q, s ∈ (l[i]).2) ∧ config_Split.l0 k l names i n q = some (Sum.inl ())) ∨ (¬ (∀ s ∈ names.drop q, s ∈ (l[i]).2) ∧ config_Split.l0 k l names i n q = some (Sum.inr ([], 6))) := by
  intro n
  induction n with
  | zero => intro q _ h; omega
  | succ n ih =>
    intro q hq hm
    rw [config_Split.l0_succ]
    unfold config_Split.l0b
    by_cases hlt : q < names.length
    · rw [in_idx hlt, decide_eq_true (p := (q : Int) < ((names.length : Nat) : Int)) (by omega), in_idx hi, w64_succ (by omega), getD_nat, getD_nat, show l.getD i (ByteArray.empty, []) = l[i] from gd_at hi, contains_eq k _ _ (by omega) (by omega), drop_cons hlt ByteArray.empty]
      simp only [cond_true, Option.bind_some]
      by_cases e : names.getD q ByteArray.empty ∈ (l[i]).2
      · rw [decide_eq_true e, Bool.not_true, cond_false]
        rcases ih (q + 1) (by omega) (by omega) with ⟨h1, h2⟩ | ⟨h1, h2⟩
        · exact .inl ⟨fun s hs => (List.mem_cons.1 hs).elim (fun z => z ▸ e) (h1 s), h2⟩
        · exact .inr ⟨fun g => h1 fun s hs => g s (List.mem_cons_of_mem _ hs), h2⟩
      · rw [decide_eq_false e, Bool.not_false, cond_true]
        exact .inr ⟨fun g => e (g _ (by simp)), rfl⟩
    · rw [decide_eq_false (p := (q : Int) < ((names.length : Nat) : Int)) (by omega), List.drop_eq_nil_of_le (by omega)]
      exact .inl ⟨fun s hs => (by cases hs), rfl⟩

noncomputable def stays (names xs : List ByteArray) : List ByteArray := xs.filter fun s => !decide (s ∈ names)
noncomputable def leaves (names xs : List ByteArray) : List ByteArray := xs.filter fun s => decide (s ∈ names)

theorem split_l1 (k : Nat) (l : List Gp) (names : List ByteArray) {i : Nat} (hi : i < l.length) (h12 : (l[i]).2.length ≤ 12) (hn : names.length < 1152921504606846976) (hk2 : names.length < k) : ∀ (n q : Nat) (u v : List ByteArray), q ≤ (l[i]).2.length → (l[i]).2.length - q < n → u.length ≤ q → v.length ≤ q →
    config_Split.l1 k l names i n (q, u, v) = some (Sum.inl (u ++ stays names ((l[i]).2.drop q), v ++ leaves names ((l[i]).2.drop q))) := by
  intro n
  induction n with
  | zero => intro q _ _ _ h; omega
  | succ n ih =>
    intro q u v hq hm hu hv
    rw [config_Split.l1_succ]
    unfold config_Split.l1b
    dsimp only
    rw [getD_nat, show l.getD i (ByteArray.empty, []) = l[i] from gd_at hi]
    by_cases hlt : q < (l[i]).2.length
    · rw [in_idx hlt, decide_eq_true (p := (q : Int) < (((l[i]).2.length : Nat) : Int)) (by omega), w64_succ (by omega), getD_nat, contains_eq k _ _ hn hk2, drop_cons hlt ByteArray.empty, Nat.ble_eq_true_of_le (by omega), Nat.ble_eq_true_of_le (by omega)]
      simp only [cond_true, Option.bind_some]
      unfold stays leaves
      rw [List.filter_cons, List.filter_cons]
      by_cases e : (l[i]).2.getD q ByteArray.empty ∈ names
      · rw [decide_eq_true e, cond_true, ih (q + 1) _ _ (by omega) (by omega) (by omega) (by simp; omega)]
        unfold stays leaves
        simp
      · rw [decide_eq_false e, cond_false, ih (q + 1) _ _ (by omega) (by omega) (by simp; omega) (by omega)]
        unfold stays leaves
        simp
    · rw [decide_eq_false (p := (q : Int) < (((l[i]).2.length : Nat) : Int)) (by omega), List.drop_eq_nil_of_le (by omega)]
      simp [stays, leaves]

/-- Splitting is possible. -/
structure CanSplit (N : ByteArray → Bool) (l : List Gp) (a b : ByteArray) (names xa : List ByteArray) : Prop where
  mem : (a, xa) ∈ l
  nm : N b = true
  new : ∀ g ∈ l, g.1 ≠ b
  sub : ∀ s ∈ names, s ∈ xa
  stay : stays names xa ≠ []
  leave : leaves names xa ≠ []

structure SplitR (N : ByteArray → Bool) (l : List Gp) (a b : ByteArray) (names xa : List ByteArray) (r : List Gp) : Prop where
  gd : Gd N r
  mem : ∀ g, g ∈ r ↔ (g ∈ l ∧ g.1 ≠ a) ∨ g = (a, stays names xa) ∨ g = (b, leaves names xa)

theorem split_r {N : ByteArray → Bool} {l : List Gp} (h : Gd N l) {a b : ByteArray} {names : List ByteArray} {i : Nat} (hi : i < l.length) (ha : (l[i]).1 = a) (hc : CanSplit N l a b names (l[i]).2) {r : List Gp}
    (hp : r.Perm (l.set i (a, stays names (l[i]).2) ++ [(b, leaves names (l[i]).2)])) (ho : r.Pairwise fun a b => scmp a.1 b.1 < 0) : SplitR N l a b names (l[i]).2 r := by
  have hab : a ≠ b := fun e => hc.new _ (List.getElem_mem hi) (ha.trans e)
  have hs1 : ∀ s, s ∈ stays names (l[i]).2 → s ∈ (l[i]).2 ∧ s ∉ names := fun s hs => by
    have := List.mem_filter.1 hs
    exact ⟨this.1, by simpa using this.2⟩
  have hs2 : ∀ s, s ∈ leaves names (l[i]).2 → s ∈ (l[i]).2 ∧ s ∈ names := fun s hs => by
    have := List.mem_filter.1 hs
    exact ⟨this.1, by simpa using this.2⟩
  have hmem : ∀ g, g ∈ r ↔ (g ∈ l ∧ g.1 ≠ a) ∨ g = (a, stays names (l[i]).2) ∨ g = (b, leaves names (l[i]).2) := fun g => by
    rw [hp.mem_iff, List.mem_append, List.mem_singleton]
    constructor
    · rintro (hg | hg)
      · obtain ⟨t, ht, rfl⟩ := List.mem_iff_getElem.1 hg
        have ht' : t < l.length := by rw [List.length_set] at ht; exact ht
        rw [List.getElem_set]
        by_cases e : i = t
        · rw [if_pos e]; exact .inr (.inl rfl)
        · rw [if_neg e]
          refine .inl ⟨List.getElem_mem _, fun q => ?_⟩
          rcases Nat.lt_or_gt_of_ne e with z | z
          · exact scmp_irrefl (List.pairwise_iff_getElem.1 h.ord i t hi ht' z) (ha.trans q.symm)
          · exact scmp_irrefl (List.pairwise_iff_getElem.1 h.ord t i ht' hi z) (q.trans ha.symm)
      · exact .inr (.inr hg)
    · rintro (⟨hg, h1⟩ | rfl | rfl)
      · left
        obtain ⟨t, ht, rfl⟩ := List.mem_iff_getElem.1 hg
        refine List.mem_iff_getElem.2 ⟨t, by rw [List.length_set]; exact ht, ?_⟩
        rw [List.getElem_set, if_neg (fun e => by subst e; exact h1 ha)]
      · left
        exact List.mem_iff_getElem.2 ⟨i, by rw [List.length_set]; exact hi, by rw [List.getElem_set, if_pos rfl]⟩
      · exact .inr rfl
  refine ⟨h.of (fun g hg => ?_) ho (fun g hg => ?_) (fun g hg => ?_) (fun g hg s hs => ?_) (fun g hg g' hg' s hs hs' => ?_), hmem⟩
  · rcases (hmem g).1 hg with ⟨h1, _⟩ | rfl | rfl
    · exact h.pos g h1
    · show N a = true
      rw [← ha]; exact h.pos _ (List.getElem_mem hi)
    · exact hc.nm
  · rcases (hmem g).1 hg with ⟨h1, _⟩ | rfl | rfl
    · exact h.ne g h1
    · exact hc.stay
    · exact hc.leave
  · rcases (hmem g).1 hg with ⟨h1, _⟩ | rfl | rfl
    · exact h.sec g h1
    · exact (h.sec _ (List.getElem_mem hi)).filter _
    · exact (h.sec _ (List.getElem_mem hi)).filter _
  · rcases (hmem g).1 hg with ⟨h1, _⟩ | rfl | rfl
    · exact flat_mem.2 ⟨g, h1, hs⟩
    · exact flat_mem.2 ⟨_, List.getElem_mem hi, (hs1 s hs).1⟩
    · exact flat_mem.2 ⟨_, List.getElem_mem hi, (hs2 s hs).1⟩
  · rcases (hmem g).1 hg with ⟨h1, h2⟩ | rfl | rfl <;> rcases (hmem g').1 hg' with ⟨h1', h2'⟩ | rfl | rfl
    · rw [h.sec_inj h1 h1' hs hs']
    · exact absurd (by rw [h.sec_inj h1 (List.getElem_mem hi) hs (hs1 s hs').1, ha]) h2
    · exact absurd (by rw [h.sec_inj h1 (List.getElem_mem hi) hs (hs2 s hs').1, ha]) h2
    · exact absurd (by rw [h.sec_inj h1' (List.getElem_mem hi) hs' (hs1 s hs).1, ha]) h2'
    · rfl
    · exact absurd (hs2 s hs').2 (hs1 s hs).2
    · exact absurd (by rw [h.sec_inj h1' (List.getElem_mem hi) hs' (hs2 s hs).1, ha]) h2'
    · exact absurd (hs2 s hs).2 (hs1 s hs').2
    · rfl

theorem clone_eq (k : Nat) {N : ByteArray → Bool} {l : List Gp} (h : Gd N l) : config_clone.F k l = some l := by
  unfold config_clone.F
  rw [show (Nat.ble l.length 1000 && l.all fun g => Nat.ble 1 g.2.length && Nat.ble g.2.length 1000) = true by
    rw [Bool.and_eq_true, List.all_eq_true]
    refine ⟨Nat.ble_eq_true_of_le (by have := h.len; omega), fun g hg => ?_⟩
    rw [Bool.and_eq_true]
    have := List.length_pos_iff.2 (h.ne g hg)
    have := h.sec12 hg
    exact ⟨Nat.ble_eq_true_of_le (by omega), Nat.ble_eq_true_of_le (by omega)⟩]
  rfl

theorem split_eq (k : Nat) (hk : 20 ≤ k) {l : List Gp} (h : Gd (config_Check.nm k) l) (a b : ByteArray) (names : List ByteArray) (hn : names.length < 1152921504606846976) (hk2 : names.length < k) :
    (∃ xa r, CanSplit (config_Check.nm k) l a b names xa ∧ config_Split.F k l a b names = some (r, 0) ∧ SplitR (config_Check.nm k) l a b names xa r) ∨ ((∀ xa, ¬ CanSplit (config_Check.nm k) l a b names xa) ∧ ∃ e, e ≠ 0 ∧ config_Split.F k l a b names = some ([], e)) := by
  unfold config_Split.F
  rw [check_ok k hk h, Option.bind_some, show ((0 : Int) != 0) = false from rfl, cond_false]
  obtain ⟨ra, h1, h2⟩ := find_eq k hk l a h.len
  obtain ⟨rb, h3, h4⟩ := find_eq k hk l b h.len
  rw [h1, h3, nm_eq k (by omega)]
  simp only [Option.bind_some]
  rcases h2 with ⟨i, hi, rfl, ha⟩ | ⟨rfl, ha⟩
  rotate_left
  · right
    rw [show decide ((-1 : Int) < 0) = true from rfl]
    refine ⟨fun xa hc => ?_, 8, by decide, rfl⟩
    obtain ⟨t, ht, e⟩ := List.mem_iff_getElem.1 hc.mem
    exact ha t ht (by rw [gd_at ht, e])
  rw [gd_at hi] at ha
  have huniq : ∀ {xa}, (a, xa) ∈ l → xa = (l[i]).2 := fun hm => by
    have := h.pos_inj hm (List.getElem_mem hi) ha.symm
    rw [← this]
  rw [decide_eq_false (p := (i : Int) < 0) (by omega), cond_false]
  cases hb : config_Check.nm k b with
  | false => exact .inr ⟨fun xa hc => (by have := hc.nm; rw [hb] at this; cases this), 3, by decide, rfl⟩
  | true =>
  rw [Bool.not_true, cond_false]
  rcases h4 with ⟨j, hj, rfl, hjb⟩ | ⟨rfl, hnb⟩
  · right
    rw [decide_eq_true (p := (j : Int) ≥ 0) (by omega)]
    refine ⟨fun xa hc => hc.new _ (List.getElem_mem hj) (by rw [gd_at hj] at hjb; exact hjb), 7, by decide, rfl⟩
  rw [show decide ((-1 : Int) ≥ 0) = false from rfl, cond_false]
  have hnew : ∀ g ∈ l, g.1 ≠ b := fun g hg => by
    obtain ⟨t, ht, rfl⟩ := List.mem_iff_getElem.1 hg
    have := hnb t ht
    rw [gd_at ht] at this
    exact this
  have h12 := h.sec12 (List.getElem_mem hi)
  have hl0 := split_l0 k hk l names hi h12 hn k 0 (by omega) (by omega)
  rw [List.drop_zero, show ((0 : Nat) : Int) = 0 from rfl] at hl0
  rcases hl0 with ⟨hsub, h5⟩ | ⟨hsub, h5⟩
  rotate_left
  · right
    rw [h5]
    exact ⟨fun xa hc => hsub (by rw [← huniq hc.mem]; exact hc.sub), 6, by decide, rfl⟩
  rw [h5]
  have hl1 := split_l1 k l names hi h12 hn hk2 k 0 [] [] (by omega) (by omega) (by simp) (by simp)
  rw [List.drop_zero, show ((0 : Nat) : Int) = 0 from rfl, List.nil_append, List.nil_append] at hl1
  simp only [Option.bind_some]
  rw [in_idx hi, cond_true, hl1]
  simp only [Option.bind_some]
  by_cases hst : stays names (l[i]).2 = []
  · right
    rw [hst]
    exact ⟨fun xa hc => hc.stay (by rw [huniq hc.mem]; exact hst), 11, by decide, rfl⟩
  have hst1 := List.length_pos_iff.2 hst
  by_cases hle : leaves names (l[i]).2 = []
  · right
    rw [hle, show ((((stays names (l[i]).2).length : Nat) : Int) == 0) = false by simp; exact hst]
    exact ⟨fun xa hc => hc.leave (by rw [huniq hc.mem]; exact hle), 11, by decide, rfl⟩
  have hle1 := List.length_pos_iff.2 hle
  left
  have hc : CanSplit (config_Check.nm k) l a b names (l[i]).2 := ⟨by rw [← ha]; exact List.getElem_mem hi, hb, hnew, hsub, hst, hle⟩
  have hlen := h.len
  obtain ⟨r, h6, h7, h8⟩ := sort_cfg k (xs := l.set i (a, stays names (l[i]).2) ++ [(b, leaves names (l[i]).2)]) (by rw [List.length_append, List.length_set, List.length_singleton]; omega) (by
    refine List.pairwise_append.2 ⟨?_, List.pairwise_singleton _ _, fun g hg g' hg' e => ?_⟩
    · have hm : (l.set i (a, stays names (l[i]).2)).map (·.1) = l.map (·.1) := by
        rw [List.map_set]
        refine List.ext_getElem (by simp) fun t h1 h2 => ?_
        rw [List.getElem_set]
        by_cases e : i = t
        · subst e
          rw [if_pos rfl, List.getElem_map, ha]
        · rw [if_neg e]
      have h2 : (l.map (·.1)).Pairwise fun a b => a ≠ b := List.pairwise_map.2 (h.ord.imp fun h => scmp_irrefl h)
      rw [← hm] at h2
      exact List.pairwise_map.1 h2
    · rw [List.mem_singleton] at hg'
      subst hg'
      rcases List.mem_or_eq_of_mem_set hg with hg | rfl
      · exact hnew g hg e
      · exact hnew _ (List.getElem_mem hi) (ha.trans e))
  refine ⟨(l[i]).2, r, hc, ?_, split_r h hi ha hc h7 h8⟩
  rw [show ((((stays names (l[i]).2).length : Nat) : Int) == 0) = false by simp; exact hst, show ((((leaves names (l[i]).2).length : Nat) : Int) == 0) = false by simp; exact hle]
  simp only [cond_false, Option.bind_some]
  rw [clone_eq k h, Option.bind_some, in_idx hi, cond_true, getD_nat, show (i : Int).toNat = i from rfl, show l.getD i (ByteArray.empty, []) = l[i] from gd_at hi, ha, Nat.ble_eq_true_of_le (by rw [List.length_set]; omega), cond_true, h6]
  rfl

theorem split_bad (k : Nat) (hk : 20 ≤ k) {l : List Gp} (h : ¬ Gd (config_Check.nm k) l) (a b : ByteArray) (names : List ByteArray) : ∃ e, e ≠ 0 ∧ config_Split.F k l a b names = some ([], e) := by
  obtain ⟨e, he, hc, _⟩ := names_bad k hk h
  refine ⟨e, he, ?_⟩
  unfold config_Split.F
  rw [hc, Option.bind_some, show (e != 0) = true by simpa using he]
  rfl

end Go.Proofs.Ytkcphennphabgaa.RT
