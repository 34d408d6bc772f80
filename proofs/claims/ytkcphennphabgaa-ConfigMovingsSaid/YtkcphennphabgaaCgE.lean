/- What is proved here: plain lemmas about combining and splitting, and the fact at two sectors. They ask nothing. -/
import Derived.Test.YtkcphennphabgaaCfT
import Derived.Test.YtkcphennphabgaaCgD
namespace Go.Proofs.Ytkcphennphabgaa.RT
open Go Go.R

theorem comb_can (k : Nat) (hk : 20 ≤ k) {l : List Gp} (h : Gd (config_Check.nm k) l) {a b : ByteArray} {xa xb : List ByteArray} (hc : CanComb l a b xa xb) : ∃ r, config_Combine.F k l a b = some (r, 0) ∧ CombR (config_Check.nm k) l a b xa xb r := by
  rcases combine_eq k hk h a b with ⟨ya, yb, r, h1, h2, h3⟩ | ⟨h1, _⟩
  · have e1 := h.pos_inj h1.1 hc.1 rfl
    have e2 := h.pos_inj h1.2.1 hc.2.1 rfl
    obtain rfl : ya = xa := congrArg Prod.snd e1
    obtain rfl : yb = xb := congrArg Prod.snd e2
    exact ⟨r, h2, h3⟩
  · exact absurd hc (h1 xa xb)

theorem split_can (k : Nat) (hk : 20 ≤ k) {l : List Gp} (h : Gd (config_Check.nm k) l) {a b : ByteArray} {names xa : List ByteArray} (hn : names.length < 1152921504606846976) (hk2 : names.length < k) (hc : CanSplit (config_Check.nm k) l a b names xa) :
    ∃ r, config_Split.F k l a b names = some (r, 0) ∧ SplitR (config_Check.nm k) l a b names xa r := by
  rcases split_eq k hk h a b names hn hk2 with ⟨ya, r, h1, h2, h3⟩ | ⟨h1, _⟩
  · have e1 := h.pos_inj h1.mem hc.mem rfl
    obtain rfl : ya = xa := congrArg Prod.snd e1
    exact ⟨r, h2, h3⟩
  · exact absurd hc (h1 xa)

theorem comb_flat {N : ByteArray → Bool} {l r : List Gp} {a b : ByteArray} {xa xb : List ByteArray} (h : Gd N l) (hc : CanComb l a b xa xb) (hr : CombR N l a b xa xb r) (s : ByteArray) : s ∈ flat r ↔ s ∈ flat l := by
  have hin : s ∈ strSort (xa ++ xb) ↔ s ∈ xa ∨ s ∈ xb := by rw [(strSort_perm _).mem_iff, List.mem_append]
  rw [flat_mem, flat_mem]
  constructor
  · rintro ⟨g, hg, hs⟩
    rcases (hr.mem g).1 hg with ⟨h1, _⟩ | rfl
    · exact ⟨g, h1, hs⟩
    · rcases hin.1 hs with hs | hs
      · exact ⟨_, hc.1, hs⟩
      · exact ⟨_, hc.2.1, hs⟩
  · rintro ⟨g, hg, hs⟩
    by_cases h1 : g.1 = a
    · have := h.pos_inj hg hc.1 h1
      subst this
      exact ⟨_, (hr.mem _).2 (.inr rfl), hin.2 (.inl hs)⟩
    · by_cases h2 : g.1 = b
      · have := h.pos_inj hg hc.2.1 h2
        subst this
        exact ⟨_, (hr.mem _).2 (.inr rfl), hin.2 (.inr hs)⟩
      · exact ⟨g, (hr.mem g).2 (.inl ⟨hg, h1, h2⟩), hs⟩

theorem mem_stays {names xs : List ByteArray} {s : ByteArray} : s ∈ stays names xs ↔ s ∈ xs ∧ s ∉ names := by
  unfold stays
  rw [List.mem_filter]
  simp
theorem mem_leaves {names xs : List ByteArray} {s : ByteArray} : s ∈ leaves names xs ↔ s ∈ xs ∧ s ∈ names := by
  unfold leaves
  rw [List.mem_filter]
  simp

theorem split_flat {N : ByteArray → Bool} {l r : List Gp} {a b : ByteArray} {names xa : List ByteArray} (h : Gd N l) (hc : CanSplit N l a b names xa) (hr : SplitR N l a b names xa r) (s : ByteArray) : s ∈ flat r ↔ s ∈ flat l := by
  rw [flat_mem, flat_mem]
  constructor
  · rintro ⟨g, hg, hs⟩
    rcases (hr.mem g).1 hg with ⟨h1, _⟩ | rfl | rfl
    · exact ⟨g, h1, hs⟩
    · exact ⟨_, hc.mem, (mem_stays.1 hs).1⟩
    · exact ⟨_, hc.mem, (mem_leaves.1 hs).1⟩
  · rintro ⟨g, hg, hs⟩
    by_cases h1 : g.1 = a
    · have := h.pos_inj hg hc.mem h1
      subst this
      by_cases h2 : s ∈ names
      · exact ⟨_, (hr.mem _).2 (.inr (.inr rfl)), mem_leaves.2 ⟨hs, h2⟩⟩
      · exact ⟨_, (hr.mem _).2 (.inr (.inl rfl)), mem_stays.2 ⟨hs, h2⟩⟩
    · exact ⟨g, (hr.mem g).2 (.inl ⟨hg, h1⟩), hs⟩

theorem flat_sort {N N' : ByteArray → Bool} {l r : List Gp} (h : Gd N l) (h' : Gd N' r) (he : ∀ s, s ∈ flat r ↔ s ∈ flat l) : strSort (flat r) = strSort (flat l) :=
  strSort_congr h'.nd ((List.perm_ext_iff_of_nodup h'.nd h.nd).2 he)

theorem moves_self (k : Nat) (hk : 20 ≤ k) {l : List Gp} (h : Gd (config_Check.nm k) l) : config_Moves.F k l l = some ([], 0) := by
  rw [moves_ok k hk h h, if_pos rfl]
  congr 2
  refine List.filterMap_eq_nil_iff.2 fun s _ => ?_
  unfold mv
  rw [if_pos rfl]

/-! ### The fact -/

abbrev tA : ByteArray := ⟨#[65]⟩
abbrev tB : ByteArray := ⟨#[66]⟩
theorem nmA (n : Nat) : config_Check.nm (n + 64) tA = true := by kernel_rfl
theorem nmB (n : Nat) : config_Check.nm (n + 64) tB = true := by kernel_rfl
theorem tAB : scmp tA tB < 0 := by decide +kernel
theorem tNe : tA ≠ tB := scmp_irrefl tAB
abbrev f1 : List Gp := [(tA, [tA]), (tB, [tB])]
abbrev f2 : List Gp := [(tA, [tA, tB])]

theorem gdF1 (n : Nat) : Gd (config_Check.nm (n + 64)) f1 := by
  refine ⟨?_, ?_, ?_, ?_, ?_, ?_, ?_⟩
  · simp [nmA, nmB]
  · simp [tAB]
  · simp
  · simp
  · simp [nmA, nmB]
  · show List.Nodup [tA, tB]
    simp
  · decide

theorem srtAB : strSort ([tA] ++ [tB]) = [tA, tB] := strSort_eq (List.Perm.refl _) (by simp [tAB])

theorem stAB : stays [tB] [tA, tB] = [tA] := by
  unfold stays
  rw [List.filter_cons_of_pos (by simp), List.filter_cons_of_neg (by simp), List.filter_nil]
theorem leAB : leaves [tB] [tA, tB] = [tB] := by
  unfold leaves
  rw [List.filter_cons_of_neg (by simp), List.filter_cons_of_pos (by simp), List.filter_nil]

theorem beginF (n : Nat) : config_Begin.F (n + 64) [tB, tA] = some (f1, 0) := by
  unfold config_Begin.F
  have h0 : config_Begin.l0 (n + 64) [tB, tA] (n + 64) (0, []) = some (Sum.inl [(tB, [tB]), (tA, [tA])]) := by
    rw [show n + 64 = (n + 63) + 1 from rfl, config_Begin.l0_succ]
    unfold config_Begin.l0b
    dsimp only
    rw [show ([tB, tA] : List ByteArray).getD (0 : Int).toNat ByteArray.empty = tB from rfl, nm_eq _ (by omega), show ([tB, tA] : List ByteArray).take (0 : Int).toNat = [] from rfl, contains_eq _ _ _ (by simp) (by simp)]
    simp only [Option.bind_some]
    rw [show config_Check.nm (n + 63 + 1) tB = true from nmB n, show decide (tB ∈ ([] : List ByteArray)) = false by simp]
    show config_Begin.l0 (n + 63 + 1) [tB, tA] ((n + 62) + 1) (1, [(tB, [tB])]) = _
    rw [config_Begin.l0_succ]
    unfold config_Begin.l0b
    dsimp only
    rw [show ([tB, tA] : List ByteArray).getD (1 : Int).toNat ByteArray.empty = tA from rfl, nm_eq _ (by omega), show ([tB, tA] : List ByteArray).take (1 : Int).toNat = [tB] from rfl, contains_eq _ _ _ (by simp) (by simp)]
    simp only [Option.bind_some]
    rw [show config_Check.nm (n + 63 + 1) tA = true from nmA n, show decide (tA ∈ [tB]) = false by simp]
    show config_Begin.l0 (n + 63 + 1) [tB, tA] ((n + 61) + 1) (2, [(tB, [tB]), (tA, [tA])]) = _
    rw [config_Begin.l0_succ]
    unfold config_Begin.l0b
    rfl
  rw [show decide ((([tB, tA].length : Nat) : Int) > 12) = false from rfl, cond_false, h0]
  simp only [Option.bind_some]
  obtain ⟨ys, h1, h2, h3⟩ := sort_cfg (n + 64) (xs := [(tB, [tB]), (tA, [tA])]) (by simp) (by simp [tNe.symm])
  rw [h1, ord_ext h3 (gdF1 n).ord fun g => by rw [h2.mem_iff]; simp [or_comm]]
  rfl

theorem factF (n : Nat) : skywaykeep3_configFact.F (n + 64) = some true := by
  have g1 := gdF1 n
  have hc : CanComb f1 tA tB [tA] [tB] := ⟨by simp, by simp, tNe⟩
  obtain ⟨m, h1, h2⟩ := comb_can (n + 64) (by omega) g1 hc
  obtain rfl : m = f2 := ord_ext h2.gd.ord (by simp) fun g => by
    rw [h2.mem, srtAB]
    constructor
    · rintro (⟨h3, h4, h5⟩ | rfl)
      · simp only [List.mem_cons, List.not_mem_nil, or_false] at h3
        rcases h3 with rfl | rfl
        · exact absurd rfl h4
        · exact absurd rfl h5
      · simp
    · intro h
      exact .inr (by simpa using h)
  have g2 := h2.gd
  have hs : CanSplit (config_Check.nm (n + 64)) f2 tA tB [tB] [tA, tB] := ⟨by simp, nmB n, by simp, by simp, by rw [stAB]; simp, by rw [leAB]; simp⟩
  obtain ⟨q, h3, h4⟩ := split_can (n + 64) (by omega) g2 (by simp) (by simp) hs
  obtain rfl : q = f1 := ord_ext h4.gd.ord g1.ord fun g => by
    rw [h4.mem, stAB, leAB]
    constructor
    · rintro (⟨h5, h6⟩ | h5)
      · simp only [List.mem_cons, List.not_mem_nil, or_false] at h5
        exact absurd (by rw [h5]) h6
      · simpa using h5
    · intro h
      exact .inr (by simpa using h)
  have hp2 : ∀ s, s = tA ∨ s = tB → posOf f2 s = tA := fun s hs => pos_has g2 ⟨_, List.mem_singleton.2 rfl, rfl, by rcases hs with rfl | rfl <;> simp⟩
  have hp1 : posOf f1 tA = tA := pos_has g1 ⟨(tA, [tA]), by simp, rfl, by simp⟩
  have hp3 : posOf f1 tB = tB := pos_has g1 ⟨(tB, [tB]), by simp, rfl, by simp⟩
  obtain ⟨e, h5, h6⟩ := pos_eq (n + 64) (by omega) g2 tB
  have h6 := h6 (flat_mem.2 ⟨_, List.mem_singleton.2 rfl, by simp⟩)
  subst h6
  rw [hp2 tB (.inr rfl)] at h5
  have hf1 : strSort (flat f1) = [tA, tB] := srtAB
  have hf2 : strSort (flat f2) = [tA, tB] := srtAB
  have h7 := names_ok (n + 64) (by omega) g2
  rw [hf2] at h7
  have h8 := moves_ok (n + 64) (by omega) g1 g2
  rw [hf1, hf2, if_pos rfl] at h8
  have hm : [tA, tB].filterMap (mv f1 f2) = [(tB, (tB, tA))] := by
    rw [List.filterMap_cons, show mv f1 f2 tA = none by unfold mv; rw [hp1, hp2 tA (.inl rfl), if_pos rfl], List.filterMap_cons, show mv f1 f2 tB = some (tB, (tB, tA)) by unfold mv; rw [hp3, hp2 tB (.inr rfl), if_neg (Ne.symm tNe)]]
    rfl
  rw [hm] at h8
  have h9 : config_Check.F (n + 64) [(tA, [])] = some 8 := by
    rw [check_eq _ (by omega)]
    unfold chk
    rw [chkG_pv, nmA]
    rfl
  unfold skywaykeep3_configFact.F
  rw [beginF]
  simp only [Option.bind_some]
  rw [h1]
  simp only [Option.bind_some]
  rw [h3]
  simp only [Option.bind_some]
  rw [h5]
  simp only [Option.bind_some]
  rw [h7]
  simp only [Option.bind_some]
  rw [h8]
  simp only [Option.bind_some]
  rw [h9, equal_eq _ _ _ (by simp) (by simp), show (f2.getD 0 (ByteArray.empty, [])).2 = [tA, tB] from rfl, equal_eq _ _ _ (by simp) (by simp), decide_eq_true rfl]
  rw [show slices_Equal_api_ConfigMove.F (n + 64) [(tB, (tB, tA))] [((⟨#[66]⟩ : ByteArray), ((⟨#[66]⟩ : ByteArray), (⟨#[65]⟩ : ByteArray)))] = some true by kernel_rfl, bytes_eq, bytes_eq, bytes_eq]
  rfl

end Go.Proofs.Ytkcphennphabgaa.RT
