/- What is proved here: plain lemmas about combining positions. They ask nothing. -/
import Derived.Test.YtkcphennphabgaaCfT
import Derived.Test.YtkcphennphabgaaCgB
namespace Go.Proofs.Ytkcphennphabgaa.RT
open Go Go.R

theorem Gd.of {N : ByteArray → Bool} {l r : List Gp} (h : Gd N l) (pos : ∀ g ∈ r, N g.1 = true) (ord : r.Pairwise fun a b => scmp a.1 b.1 < 0) (ne : ∀ g ∈ r, g.2 ≠ []) (sec : ∀ g ∈ r, g.2.Pairwise fun a b => scmp a b < 0)
    (has : ∀ g ∈ r, ∀ s ∈ g.2, s ∈ flat l) (dis : ∀ g ∈ r, ∀ g' ∈ r, ∀ s, s ∈ g.2 → s ∈ g'.2 → g.1 = g'.1) : Gd N r := by
  have nd : (flat r).Nodup := List.pairwise_flatMap.2 ⟨fun g hg => lt_nodup (sec g hg), ord.imp_of_mem fun {a b} ha hb hab x hx y hy e => by
    subst e
    exact scmp_irrefl hab (dis a ha b hb x hx hy)⟩
  refine ⟨pos, ord, ne, sec, fun g hg s hs => ?_, nd, Nat.le_trans (nd.length_le_of_subset fun s hs => ?_) h.tot⟩
  · obtain ⟨g', hg', hs'⟩ := flat_mem.1 (has g hg s hs)
    exact h.nms g' hg' s hs'
  · obtain ⟨g, hg, hs⟩ := flat_mem.1 hs
    exact has g hg s hs

theorem ord_ext {l r : List Gp} (hl : l.Pairwise fun a b => scmp a.1 b.1 < 0) (hr : r.Pairwise fun a b => scmp a.1 b.1 < 0) (h : ∀ g, g ∈ l ↔ g ∈ r) : l = r := by
  have n1 : l.Nodup := hl.imp fun {a b} h (e : a = b) => scmp_irrefl h (by rw [e])
  have n2 : r.Nodup := hr.imp fun {a b} h (e : a = b) => scmp_irrefl h (by rw [e])
  refine List.Perm.eq_of_pairwise (le := fun a b => scmp a.1 b.1 < 0) (fun a b _ _ h1 h2 => ?_) hl hr ((List.perm_ext_iff_of_nodup n1 n2).2 h)
  have := scmp_neg a.1 b.1
  omega

/-- What combining yields. -/
structure CombR (N : ByteArray → Bool) (l : List Gp) (a b : ByteArray) (xa xb : List ByteArray) (r : List Gp) : Prop where
  gd : Gd N r
  mem : ∀ g, g ∈ r ↔ (g ∈ l ∧ g.1 ≠ a ∧ g.1 ≠ b) ∨ g = (a, strSort (xa ++ xb))

theorem gd_at {l : List Gp} {i : Nat} (hi : i < l.length) : l.getD i gp0 = l[i] := by simp [List.getD, hi]

theorem comb_r {N : ByteArray → Bool} {l : List Gp} (h : Gd N l) {a b : ByteArray} (hab : a ≠ b) {i j : Nat} (hi : i < l.length) (hj : j < l.length) (ha : (l[i]).1 = a) (hb : (l[j]).1 = b) :
    CombR N l a b (l[i]).2 (l[j]).2 ((l.set i (a, strSort ((l[i]).2 ++ (l[j]).2))).take j ++ (l.set i (a, strSort ((l[i]).2 ++ (l[j]).2))).drop (j + 1)) := by
  have hij : i ≠ j := fun e => by subst e; exact hab (ha.symm.trans hb)
  have hdis : ∀ s, s ∈ (l[i]).2 → s ∉ (l[j]).2 := fun s h1 h2 => hab (by rw [← ha, ← hb, h.sec_inj (List.getElem_mem hi) (List.getElem_mem hj) h1 h2])
  have hnd : ((l[i]).2 ++ (l[j]).2).Nodup := List.pairwise_append.2 ⟨lt_nodup (h.sec _ (List.getElem_mem hi)), lt_nodup (h.sec _ (List.getElem_mem hj)), fun x hx y hy e => by subst e; exact hdis x hx hy⟩
  have hin : ∀ s, s ∈ strSort ((l[i]).2 ++ (l[j]).2) ↔ s ∈ (l[i]).2 ∨ s ∈ (l[j]).2 := fun s => by rw [(strSort_perm _).mem_iff, List.mem_append]
  rw [← List.eraseIdx_eq_take_drop_succ]
  have hmem : ∀ g, g ∈ (l.set i (a, strSort ((l[i]).2 ++ (l[j]).2))).eraseIdx j ↔ (g ∈ l ∧ g.1 ≠ a ∧ g.1 ≠ b) ∨ g = (a, strSort ((l[i]).2 ++ (l[j]).2)) := fun g => by
    rw [List.mem_eraseIdx_iff_getElem]
    constructor
    · rintro ⟨t, ht, htj, rfl⟩
      have ht' : t < l.length := by rw [List.length_set] at ht; exact ht
      rw [List.getElem_set]
      by_cases e : i = t
      · rw [if_pos e]; exact .inr rfl
      · rw [if_neg e]
        refine .inl ⟨List.getElem_mem _, fun q => ?_, fun q => ?_⟩
        · rcases Nat.lt_or_gt_of_ne e with z | z
          · exact scmp_irrefl (List.pairwise_iff_getElem.1 h.ord i t hi ht' z) (ha.trans q.symm)
          · exact scmp_irrefl (List.pairwise_iff_getElem.1 h.ord t i ht' hi z) (q.trans ha.symm)
        · rcases Nat.lt_or_gt_of_ne htj with z | z
          · exact scmp_irrefl (List.pairwise_iff_getElem.1 h.ord t j ht' hj z) (q.trans hb.symm)
          · exact scmp_irrefl (List.pairwise_iff_getElem.1 h.ord j t hj ht' z) (hb.trans q.symm)
    · rintro (⟨hg, h1, h2⟩ | rfl)
      · obtain ⟨t, ht, rfl⟩ := List.mem_iff_getElem.1 hg
        refine ⟨t, by rw [List.length_set]; exact ht, fun e => ?_, ?_⟩
        · subst e; exact h2 hb
        · rw [List.getElem_set, if_neg (fun e => by subst e; exact h1 ha)]
      · exact ⟨i, by rw [List.length_set]; exact hi, hij, by rw [List.getElem_set, if_pos rfl]⟩
  refine ⟨h.of (fun g hg => ?_) ?_ (fun g hg => ?_) (fun g hg => ?_) (fun g hg s hs => ?_) (fun g hg g' hg' s hs hs' => ?_), hmem⟩
  · rcases (hmem g).1 hg with ⟨h1, _⟩ | rfl
    · exact h.pos g h1
    · show N a = true
      rw [← ha]; exact h.pos _ (List.getElem_mem hi)
  · refine List.Pairwise.sublist (List.eraseIdx_sublist _ _) ?_
    have hm : (l.set i (a, strSort ((l[i]).2 ++ (l[j]).2))).map (·.1) = l.map (·.1) := by
      rw [List.map_set]
      refine List.ext_getElem (by simp) fun t h1 h2 => ?_
      rw [List.getElem_set]
      by_cases e : i = t
      · subst e
        rw [if_pos rfl, List.getElem_map, ha]
      · rw [if_neg e]
    have h2 : (l.map (·.1)).Pairwise fun a b => scmp a b < 0 := List.pairwise_map.2 h.ord
    rw [← hm] at h2
    exact List.pairwise_map.1 h2
  · rcases (hmem g).1 hg with ⟨h1, _⟩ | rfl
    · exact h.ne g h1
    · intro e
      have h1 := strSort_length ((l[i]).2 ++ (l[j]).2)
      rw [show strSort ((l[i]).2 ++ (l[j]).2) = [] from e, List.length_append] at h1
      have := List.length_pos_iff.2 (h.ne _ (List.getElem_mem hi))
      simp only [List.length_nil] at h1
      omega
  · rcases (hmem g).1 hg with ⟨h1, _⟩ | rfl
    · exact h.sec g h1
    · exact strSort_lt hnd
  · rcases (hmem g).1 hg with ⟨h1, _⟩ | rfl
    · exact flat_mem.2 ⟨g, h1, hs⟩
    · rcases (hin s).1 hs with hs | hs
      · exact flat_mem.2 ⟨_, List.getElem_mem hi, hs⟩
      · exact flat_mem.2 ⟨_, List.getElem_mem hj, hs⟩
  · rcases (hmem g).1 hg with ⟨h1, h2, h3⟩ | rfl <;> rcases (hmem g').1 hg' with ⟨h1', h2', h3'⟩ | rfl
    · rw [h.sec_inj h1 h1' hs hs']
    · exfalso
      rcases (hin s).1 hs' with hs' | hs'
      · exact h2 (by rw [h.sec_inj h1 (List.getElem_mem hi) hs hs', ha])
      · exact h3 (by rw [h.sec_inj h1 (List.getElem_mem hj) hs hs', hb])
    · exfalso
      rcases (hin s).1 hs with hs | hs
      · exact h2' (by rw [h.sec_inj h1' (List.getElem_mem hi) hs' hs, ha])
      · exact h3' (by rw [h.sec_inj h1' (List.getElem_mem hj) hs' hs, hb])
    · rfl

/-- Combining is possible. -/
def CanComb (l : List Gp) (a b : ByteArray) (xa xb : List ByteArray) : Prop := (a, xa) ∈ l ∧ (b, xb) ∈ l ∧ a ≠ b

theorem combine_eq (k : Nat) (hk : 20 ≤ k) {l : List Gp} (h : Gd (config_Check.nm k) l) (a b : ByteArray) :
    (∃ xa xb r, CanComb l a b xa xb ∧ config_Combine.F k l a b = some (r, 0) ∧ CombR (config_Check.nm k) l a b xa xb r) ∨ ((∀ xa xb, ¬ CanComb l a b xa xb) ∧ ∃ e, e ≠ 0 ∧ config_Combine.F k l a b = some ([], e)) := by
  unfold config_Combine.F
  rw [Nat.ble_eq_true_of_le hk, cond_true, check_ok k hk h, Option.bind_some, show ((0 : Int) != 0) = false from rfl, cond_false]
  obtain ⟨ra, h1, h2⟩ := find_eq k hk l a h.len
  obtain ⟨rb, h3, h4⟩ := find_eq k hk l b h.len
  rw [h1, h3]
  simp only [Option.bind_some]
  have hno : ∀ {p : ByteArray}, (∀ i, i < l.length → (l.getD i gp0).1 ≠ p) → ∀ xs, (p, xs) ∉ l := fun hp xs hm => by
    obtain ⟨i, hi, e⟩ := List.mem_iff_getElem.1 hm
    exact hp i hi (by rw [gd_at hi, e])
  rcases h2 with ⟨i, hi, rfl, ha⟩ | ⟨rfl, ha⟩
  · rcases h4 with ⟨j, hj, rfl, hb⟩ | ⟨rfl, hb⟩
    · rw [gd_at hi] at ha
      rw [gd_at hj] at hb
      rw [decide_eq_false (p := (i : Int) < 0) (by omega), decide_eq_false (p := (j : Int) < 0) (by omega), Bool.or_self, cond_false]
      by_cases hij : i = j
      · right
        subst hij
        rw [show ((i : Int) == (i : Int)) = true by simp]
        exact ⟨fun xa xb hc => hc.2.2 (ha.symm.trans hb), 1, by decide, rfl⟩
      · left
        have hab : a ≠ b := fun e => by
          rcases Nat.lt_or_gt_of_ne hij with z | z
          · exact scmp_irrefl (List.pairwise_iff_getElem.1 h.ord i j hi hj z) (by rw [ha, hb, e])
          · exact scmp_irrefl (List.pairwise_iff_getElem.1 h.ord j i hj hi z) (by rw [ha, hb, e])
        rw [show ((i : Int) == (j : Int)) = false by simp; omega, cond_false, getD_nat, getD_nat, show (i : Int).toNat = i from rfl, show l.getD i (ByteArray.empty, []) = l[i] from gd_at hi, show l.getD j (ByteArray.empty, []) = l[j] from gd_at hj, ha, del_eq k _ j (by rw [List.length_set]; exact hj), Option.bind_some]
        exact ⟨(l[i]).2, (l[j]).2, _, ⟨by rw [← ha]; exact List.getElem_mem hi, by rw [← hb]; exact List.getElem_mem hj, hab⟩, rfl, comb_r h hab hi hj ha hb⟩
    · right
      rw [show decide ((-1 : Int) < 0) = true from rfl, Bool.or_true]
      exact ⟨fun xa xb hc => hno hb xb hc.2.1, 8, by decide, rfl⟩
  · right
    rw [show decide ((-1 : Int) < 0) = true from rfl, Bool.true_or]
    exact ⟨fun xa xb hc => hno ha xa hc.1, 8, by decide, rfl⟩

theorem combine_bad (k : Nat) (hk : 20 ≤ k) {l : List Gp} (h : ¬ Gd (config_Check.nm k) l) (a b : ByteArray) : ∃ e, e ≠ 0 ∧ config_Combine.F k l a b = some ([], e) := by
  obtain ⟨e, he, hc, _⟩ := names_bad k hk h
  refine ⟨e, he, ?_⟩
  unfold config_Combine.F
  rw [Nat.ble_eq_true_of_le hk, cond_true, hc, Option.bind_some, show (e != 0) = true by simpa using he]
  rfl

end Go.Proofs.Ytkcphennphabgaa.RT
