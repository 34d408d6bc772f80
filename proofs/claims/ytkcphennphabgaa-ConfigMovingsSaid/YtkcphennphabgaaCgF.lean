/- What is proved here: the laws of combining, splitting and moving, over the plain functions. They ask nothing. -/
import Derived.Test.YtkcphennphabgaaCfT
import Derived.Test.YtkcphennphabgaaCgE
namespace Go.Proofs.Ytkcphennphabgaa.RT
open Go Go.R

theorem lt_ext {xs ys : List ByteArray} (hx : xs.Pairwise fun a b => scmp a b < 0) (hy : ys.Pairwise fun a b => scmp a b < 0) (h : ∀ s, s ∈ xs ↔ s ∈ ys) : xs = ys := by
  refine List.Perm.eq_of_pairwise (le := fun a b => scmp a b < 0) (fun a b _ _ h1 h2 => ?_) hx hy ((List.perm_ext_iff_of_nodup (lt_nodup hx) (lt_nodup hy)).2 h)
  have := scmp_neg a b
  omega

theorem srt_mem {xs ys : List ByteArray} {s : ByteArray} : s ∈ strSort (xs ++ ys) ↔ s ∈ xs ∨ s ∈ ys := by rw [(strSort_perm _).mem_iff, List.mem_append]

/-! ### Combining and splitting keep the sectors -/

theorem keeps_step (k : Nat) (hk : 20 ≤ k) {r : List Gp} {e : Int} {w : List ByteArray} (h : e = 0 → Gd (config_Check.nm k) r ∧ strSort (flat r) = w) (T E : Option Bool) :
    ((bif (e != 0) then some true else some false).bind fun b9 => bif b9 then T else (config_Names.F k r).bind fun r10 => (bif (r10.2 != 0) then some true else (slices_Equal_string.F k r10.1 w).bind fun r11 => some (!r11)).bind fun b12 => (bif b12 then some true else (config_Check.F k r).bind fun r13 => some (r13 != 0)).bind fun b14 => bif b14 then E else T) = T := by
  by_cases he : e = 0
  · obtain ⟨hg, hw⟩ := h he
    subst he
    have h12 := strSort_len12 hg
    rw [show ((0 : Int) != 0) = false from rfl, names_ok k hk hg, check_ok k hk hg]
    simp only [cond_false, Option.bind_some]
    rw [equal_eq k _ _ (by omega) (by omega), hw, decide_eq_true rfl]
    rfl
  · rw [show (e != 0) = true by simpa using he]
    rfl

theorem keeps_loop (k : Nat) (hk : 20 ≤ k) {w : List ByteArray × Int} {r3 r4 : List Gp × Int} (h3 : r3.2 = 0 → Gd (config_Check.nm k) r3.1 ∧ strSort (flat r3.1) = w.1) (h4 : r4.2 = 0 → Gd (config_Check.nm k) r4.1 ∧ strSort (flat r4.1) = w.1) (n : Nat) : skywaykeep3_ConfigKeeps.l0 k w r3 r4 (n + 3) 0 = some true := by
  have e2 : skywaykeep3_ConfigKeeps.l0 k w r3 r4 (n + 1) 2 = some true := rfl
  have e1 : skywaykeep3_ConfigKeeps.l0 k w r3 r4 (n + 2) 1 = some true := by
    rw [← keeps_step k hk h4 (skywaykeep3_ConfigKeeps.l0 k w r3 r4 (n + 1) 2) (some false)] at e2
    rw [← e2, skywaykeep3_ConfigKeeps.l0_succ]
    cases h : (r4.2 != 0) <;> (unfold skywaykeep3_ConfigKeeps.l0b; rw [h]; rfl)
  rw [← keeps_step k hk h3 (skywaykeep3_ConfigKeeps.l0 k w r3 r4 (n + 2) 1) (some false)] at e1
  rw [← e1, skywaykeep3_ConfigKeeps.l0_succ]
  cases h : (r3.2 != 0) <;> (unfold skywaykeep3_ConfigKeeps.l0b; rw [h]; rfl)

theorem keeps_F (n : Nat) (l : List Gp) (a b : ByteArray) (names : List ByteArray) (hn : names.length < 1152921504606846976) (hk2 : names.length ≤ n) : skywaykeep3_ConfigKeeps.F (n + 64) l a b names = some true := by
  unfold skywaykeep3_ConfigKeeps.F
  rw [factF, Option.bind_some, Bool.not_true, cond_false]
  by_cases h : Gd (config_Check.nm (n + 64)) l
  · rw [names_ok _ (by omega) h, Option.bind_some, show ((0 : Int) != 0) = false from rfl, cond_false]
    have hC : ∃ r3, config_Combine.F (n + 64) l a b = some r3 ∧ (r3.2 = 0 → Gd (config_Check.nm (n + 64)) r3.1 ∧ strSort (flat r3.1) = strSort (flat l)) := by
      rcases combine_eq (n + 64) (by omega) h a b with ⟨xa, xb, r, h1, h2, h3⟩ | ⟨_, e, he, h2⟩
      · exact ⟨_, h2, fun _ => ⟨h3.gd, flat_sort h h3.gd (comb_flat h h1 h3)⟩⟩
      · exact ⟨_, h2, fun h => absurd h he⟩
    have hS : ∃ r4, config_Split.F (n + 64) l a b names = some r4 ∧ (r4.2 = 0 → Gd (config_Check.nm (n + 64)) r4.1 ∧ strSort (flat r4.1) = strSort (flat l)) := by
      rcases split_eq (n + 64) (by omega) h a b names hn (by omega) with ⟨xa, r, h1, h2, h3⟩ | ⟨_, e, he, h2⟩
      · exact ⟨_, h2, fun _ => ⟨h3.gd, flat_sort h h3.gd (split_flat h h1 h3)⟩⟩
      · exact ⟨_, h2, fun h => absurd h he⟩
    obtain ⟨r3, h3, h3'⟩ := hC
    obtain ⟨r4, h4, h4'⟩ := hS
    rw [h3, Option.bind_some, h4, Option.bind_some]
    exact keeps_loop (n + 64) (by omega) h3' h4' (n + 61)
  · obtain ⟨e, he, _, h2, _⟩ := names_bad (n + 64) (by omega) h
    rw [h2, Option.bind_some, show (e != 0) = true by simpa using he]
    rfl

theorem ConfigKeeps_law (x : DatPs (skywaykeep3_ConfigKeeps.C 0).ats) (h : FitPs (skywaykeep3_ConfigKeeps.C 0).ats x) : ∃ k, (skywaykeep3_ConfigKeeps.C k).F x = some true := by
  obtain ⟨l, a, b, names⟩ := x
  have hn : List.length names * 16 ≤ 140737488351232 := h.2.2.2.1
  exact ⟨List.length names + 64, keeps_F _ l a b names (by omega) (Nat.le_refl _)⟩

/-! ### Combining and splitting undo each other -/

theorem inverse1 (k : Nat) (hk : 20 ≤ k) {l r : List Gp} (h : Gd (config_Check.nm k) l) {a b : ByteArray} {names xa : List ByteArray} (hc : CanSplit (config_Check.nm k) l a b names xa) (hr : SplitR (config_Check.nm k) l a b names xa r) : config_Combine.F k r a b = some (l, 0) := by
  have hab : a ≠ b := fun e => hc.new _ hc.mem e
  obtain ⟨m, h1, h2⟩ := comb_can k hk hr.gd (a := a) (b := b) (xa := stays names xa) (xb := leaves names xa) ⟨(hr.mem _).2 (.inr (.inl rfl)), (hr.mem _).2 (.inr (.inr rfl)), hab⟩
  rw [h1]
  have hx : strSort (stays names xa ++ leaves names xa) = xa := by
    have hnd : (stays names xa ++ leaves names xa).Nodup := List.pairwise_append.2 ⟨(lt_nodup (h.sec _ hc.mem)).filter _, (lt_nodup (h.sec _ hc.mem)).filter _, fun x hx y hy e => by
      subst e
      exact (mem_stays.1 hx).2 (mem_leaves.1 hy).2⟩
    refine lt_ext (strSort_lt hnd) (h.sec _ hc.mem) fun s => ?_
    rw [srt_mem, mem_stays, mem_leaves]
    constructor
    · rintro (h | h)
      · exact h.1
      · exact h.1
    · intro h
      by_cases g : s ∈ names
      · exact .inr ⟨h, g⟩
      · exact .inl ⟨h, g⟩
  rw [ord_ext h2.gd.ord h.ord fun g => ?_]
  rw [h2.mem, hx]
  constructor
  · rintro (⟨h3, h4, h5⟩ | rfl)
    · rcases (hr.mem g).1 h3 with ⟨h6, _⟩ | rfl | rfl
      · exact h6
      · exact absurd rfl h4
      · exact absurd rfl h5
    · exact hc.mem
  · intro hg
    by_cases h3 : g.1 = a
    · exact .inr (h.pos_inj hg hc.mem h3)
    · exact .inl ⟨(hr.mem g).2 (.inl ⟨hg, h3⟩), h3, hc.new g hg⟩

theorem inverse2 (k : Nat) (hk : 20 ≤ k) {l m : List Gp} (h : Gd (config_Check.nm k) l) {a b : ByteArray} {xa xb : List ByteArray} (hc : CanComb l a b xa xb) (hr : CombR (config_Check.nm k) l a b xa xb m) : config_Split.F k m a b xb = some (l, 0) := by
  have hdis : ∀ s, s ∈ xa → s ∉ xb := fun s h1 h2 => hc.2.2 (congrArg Prod.fst (h.sec_inj hc.1 hc.2.1 h1 h2))
  have hb12 := h.sec12 hc.2.1
  dsimp only at hb12
  have hym : (a, strSort (xa ++ xb)) ∈ m := (hr.mem _).2 (.inr rfl)
  have hst : stays xb (strSort (xa ++ xb)) = xa := lt_ext ((hr.gd.sec _ hym).filter _) (h.sec _ hc.1) fun s => by
    rw [mem_stays, srt_mem]
    exact ⟨fun h => h.1.resolve_right h.2, fun h => ⟨.inl h, hdis s h⟩⟩
  have hle : leaves xb (strSort (xa ++ xb)) = xb := lt_ext ((hr.gd.sec _ hym).filter _) (h.sec _ hc.2.1) fun s => by
    rw [mem_leaves, srt_mem]
    exact ⟨fun h => h.2, fun h => ⟨.inr h, h⟩⟩
  have hs : CanSplit (config_Check.nm k) m a b xb (strSort (xa ++ xb)) := by
    refine ⟨hym, h.pos _ hc.2.1, fun g hg => ?_, fun s hs => srt_mem.2 (.inr hs), by rw [hst]; exact h.ne _ hc.1, by rw [hle]; exact h.ne _ hc.2.1⟩
    rcases (hr.mem g).1 hg with ⟨_, _, h3⟩ | rfl
    · exact h3
    · exact hc.2.2
  obtain ⟨n, h1, h2⟩ := split_can k hk hr.gd (by omega) (by omega) hs
  rw [h1]
  rw [ord_ext h2.gd.ord h.ord fun g => ?_]
  rw [h2.mem, hst, hle]
  constructor
  · rintro (⟨h3, h4⟩ | rfl | rfl)
    · rcases (hr.mem g).1 h3 with ⟨h6, _⟩ | rfl
      · exact h6
      · exact absurd rfl h4
    · exact hc.1
    · exact hc.2.1
  · intro hg
    by_cases h3 : g.1 = a
    · exact .inr (.inl (h.pos_inj hg hc.1 h3))
    · by_cases h4 : g.1 = b
      · exact .inr (.inr (h.pos_inj hg hc.2.1 h4))
      · exact .inl ⟨(hr.mem g).2 (.inl ⟨hg, h3, h4⟩), h3⟩

theorem inverts_F (n : Nat) (l : List Gp) (a b : ByteArray) (names : List ByteArray) (hn : names.length < 1152921504606846976) (hk2 : names.length ≤ n) : skywaykeep3_ConfigInverts.F (n + 64) l a b names = some true := by
  have hk : 20 ≤ n + 64 := by omega
  unfold skywaykeep3_ConfigInverts.F
  rw [factF, Option.bind_some, Bool.not_true, cond_false]
  by_cases h : Gd (config_Check.nm (n + 64)) l
  · have hl : ∀ s, skywaykeep3_ConfigInverts.l0 (n + 64) l s (n + 64) 0 = config_find.F (n + 64) l s := fun s => rfl
    -- what comes behind
    have hrest : ((config_Combine.F (n + 64) l a b).bind fun r9 => bif (r9.2 != 0) then some true else (skywaykeep3_ConfigInverts.l0 (n + 64) l b (n + 64) 0).bind fun x12 => bif (decide (x12 < 0)) then some false else bif (decide (0 ≤ x12) && decide (x12 < ((l.length : Nat) : Int))) then (config_Split.F (n + 64) r9.1 a b ((l.getD x12.toNat (ByteArray.empty, [])).2)).bind fun r13 => (config_Moves.F (n + 64) l r13.1).bind fun r14 => (bif (r13.2 == 0) then some (r14.2 == 0) else some false).bind fun b15 => (bif b15 then some (((r14.1.length : Nat) : Int) == 0) else some false).bind fun b16 => some b16 else none) = some true := by
      rcases combine_eq (n + 64) hk h a b with ⟨xa, xb, m, h1, h2, h3⟩ | ⟨_, e, he, h2⟩
      · rw [h2, Option.bind_some, show ((0 : Int) != 0) = false from rfl, cond_false, hl]
        obtain ⟨x, h4, h5⟩ := find_eq (n + 64) hk l b h.len
        rw [h4, Option.bind_some]
        rcases h5 with ⟨j, hj, rfl, hb⟩ | ⟨_, hb⟩
        · rw [gd_at hj] at hb
          have e1 : (l[j]) = (b, xb) := h.pos_inj (List.getElem_mem hj) h1.2.1 hb
          rw [decide_eq_false (p := (j : Int) < 0) (by omega), cond_false, in_idx hj, cond_true, getD_nat, show l.getD j (ByteArray.empty, []) = l[j] from gd_at hj, e1, inverse2 (n + 64) hk h h1 h3, Option.bind_some, moves_self (n + 64) hk h]
          rfl
        · exfalso
          obtain ⟨t, ht, e1⟩ := List.mem_iff_getElem.1 h1.2.1
          exact hb t ht (by rw [gd_at ht, e1])
      · rw [h2, Option.bind_some, show (e != 0) = true by simpa using he]
        rfl
    rcases split_eq (n + 64) hk h a b names hn (by omega) with ⟨xa, r, h1, h2, h3⟩ | ⟨_, e, he, h2⟩
    · rw [h2, Option.bind_some, show ((0 : Int) == 0) = true from rfl, cond_true, inverse1 (n + 64) hk h h1 h3, Option.bind_some, moves_self (n + 64) hk h]
      exact hrest
    · rw [h2, Option.bind_some, show (e == 0) = false by simpa using he, cond_false]
      exact hrest
  · obtain ⟨e, he, h2⟩ := split_bad (n + 64) hk h a b names
    obtain ⟨e', he', h3⟩ := combine_bad (n + 64) hk h a b
    rw [h2, Option.bind_some, show (e == 0) = false by simpa using he, cond_false]
    show (config_Combine.F (n + 64) l a b).bind _ = _
    rw [h3, Option.bind_some, show (e' != 0) = true by simpa using he']
    rfl

theorem ConfigInverts_law (x : DatPs (skywaykeep3_ConfigInverts.C 0).ats) (h : FitPs (skywaykeep3_ConfigInverts.C 0).ats x) : ∃ k, (skywaykeep3_ConfigInverts.C k).F x = some true := by
  obtain ⟨l, a, b, names⟩ := x
  have hn : List.length names * 16 ≤ 140737488351232 := h.2.2.2.1
  exact ⟨List.length names + 64, inverts_F _ l a b names (by omega) (Nat.le_refl _)⟩

/-! ### The moves -/

theorem mv_len (a b : List Gp) : ∀ xs : List ByteArray, (xs.filterMap (mv a b)).length = (xs.filterMap (mv b a)).length
  | [] => rfl
  | s :: xs => by
    rw [List.filterMap_cons, List.filterMap_cons]
    by_cases e : posOf a s = posOf b s
    · rw [show mv a b s = none from if_pos e, show mv b a s = none from if_pos e.symm]
      exact mv_len a b xs
    · rw [show mv a b s = some _ from if_neg e, show mv b a s = some _ from if_neg (Ne.symm e)]
      simp only [List.length_cons]
      rw [mv_len a b xs]

theorem mov_loop (k : Nat) (hk : 20 ≤ k) {a b : List Gp} (ha : Gd (config_Check.nm k) a) (hb : Gd (config_Check.nm k) b) {r2 r3 : List (ByteArray × ByteArray × ByteArray) × Int} {r5 : List ByteArray × Int} (hS : ∀ s ∈ r5.1, s ∈ flat a ∧ s ∈ flat b) (h12 : r5.1.length ≤ 12) : ∀ n i q : Nat, i ≤ r5.1.length → r5.1.length - i < n → q ≤ i → r2.1.drop q = (r5.1.drop i).filterMap (mv a b) → r3.1.drop q = (r5.1.drop i).filterMap (mv b a) → q ≤ r2.1.length →
    skywaykeep3_ConfigMovings.l0 k a b r2 r3 r5 n (q, i) = some true := by
  intro n
  induction n with
  | zero => intro i _ _ h; omega
  | succ n ih =>
    intro i q hi hm hq e2 e3 hq2
    rw [skywaykeep3_ConfigMovings.l0_succ]
    unfold skywaykeep3_ConfigMovings.l0b
    dsimp only
    by_cases hlt : i < r5.1.length
    · obtain ⟨s, hs⟩ : ∃ s, r5.1.getD i ByteArray.empty = s := ⟨_, rfl⟩
      have hsm : s ∈ r5.1 := by rw [← hs, show r5.1.getD i ByteArray.empty = r5.1[i] by simp [List.getD, hlt]]; exact List.getElem_mem hlt
      obtain ⟨x1, h1, z1⟩ := pos_eq k hk ha s
      obtain ⟨x2, h2, z2⟩ := pos_eq k hk hb s
      have z1 := z1 (hS s hsm).1
      have z2 := z2 (hS s hsm).2
      subst z1 z2
      rw [drop_cons hlt ByteArray.empty, hs, List.filterMap_cons] at e2 e3
      rw [in_idx hlt, decide_eq_true (p := (i : Int) < ((r5.1.length : Nat) : Int)) (by omega), w64_succ (by omega), w64_succ (by omega), getD_nat, hs, h1, h2]
      simp only [cond_true, Option.bind_some]
      rw [show ((0 : Int) != 0) = false from rfl, bytes_eq]
      simp only [cond_false, Option.bind_some]
      by_cases e : posOf a s = posOf b s
      · rw [show mv a b s = none from if_pos e] at e2
        rw [show mv b a s = none from if_pos e.symm] at e3
        rw [decide_eq_true e, cond_true]
        exact ih (i + 1) q (by omega) (by omega) (by omega) e2 e3 hq2
      · rw [show mv a b s = some (s, posOf a s, posOf b s) from if_neg e] at e2
        rw [show mv b a s = some (s, posOf b s, posOf a s) from if_neg (Ne.symm e)] at e3
        have l2 : q < r2.1.length := by
          rcases Nat.lt_or_ge q r2.1.length with h | h
          · exact h
          · rw [List.drop_eq_nil_of_le h] at e2; cases e2
        have l3 : q < r3.1.length := by
          rcases Nat.lt_or_ge q r3.1.length with h | h
          · exact h
          · rw [List.drop_eq_nil_of_le h] at e3; cases e3
        rw [drop_cons l2 (ByteArray.empty, (ByteArray.empty, ByteArray.empty))] at e2
        rw [drop_cons l3 (ByteArray.empty, (ByteArray.empty, ByteArray.empty))] at e3
        obtain ⟨g2, e2⟩ := List.cons.inj e2
        obtain ⟨g3, e3⟩ := List.cons.inj e3
        rw [decide_eq_false e, cond_false, show ((q : Int) == ((r2.1.length : Nat) : Int)) = false by simp; omega, in_idx l2, in_idx l3, getD_nat, getD_nat, g2, g3]
        simp only [ba_eq, decide_true, Bool.and_self, Bool.not_true, cond_true, cond_false, Option.bind_some]
        exact ih (i + 1) (q + 1) (by omega) (by omega) (by omega) e2 e3 (by omega)
    · rw [decide_eq_false (p := (i : Int) < ((r5.1.length : Nat) : Int)) (by omega)]
      rw [List.drop_eq_nil_of_le (show r5.1.length ≤ i by omega)] at e2
      have := List.drop_eq_nil_iff.1 e2
      rw [show ((q : Int) == ((r2.1.length : Nat) : Int)) = true by simp; omega]
      rfl

theorem movings_F (n : Nat) (a b : List Gp) : skywaykeep3_ConfigMovings.F (n + 64) a b = some true := by
  have hk : 20 ≤ n + 64 := by omega
  unfold skywaykeep3_ConfigMovings.F
  rw [factF, Option.bind_some, Bool.not_true, cond_false]
  by_cases h : Gd (config_Check.nm (n + 64)) a ∧ Gd (config_Check.nm (n + 64)) b
  · obtain ⟨ha, hb⟩ := h
    rw [moves_ok _ hk ha hb, moves_ok _ hk hb ha]
    simp only [Option.bind_some]
    by_cases e : strSort (flat a) = strSort (flat b)
    · rw [if_pos e, if_pos e.symm, ← e, names_ok _ hk ha]
      simp only [Option.bind_some]
      rw [show ((0 : Int) != 0) = false from rfl]
      simp only [cond_false, Option.bind_some]
      rw [show (((((strSort (flat a)).filterMap (mv a b)).length : Nat) : Int) != ((((strSort (flat a)).filterMap (mv b a)).length : Nat) : Int)) = false by rw [mv_len a b]; simp, cond_false]
      refine mov_loop (n + 64) hk ha hb (r2 := (_, 0)) (r3 := (_, 0)) (r5 := (strSort (flat a), 0)) (fun s hs => ⟨(strSort_perm _).mem_iff.1 hs, (strSort_perm _).mem_iff.1 (by rw [← e]; exact hs)⟩) (strSort_len12 ha) (n + 64) 0 0 (by omega) (by have := strSort_len12 ha; dsimp only; omega) (by omega) rfl rfl (by omega)
    · rw [if_neg e, if_neg (Ne.symm e)]
      rfl
  · obtain ⟨e, he, h2⟩ := moves_bad (n + 64) hk h
    obtain ⟨e', he', h3⟩ := moves_bad (n + 64) hk (fun g => h ⟨g.2, g.1⟩)
    rw [h2, h3]
    simp only [Option.bind_some]
    rw [show (e != 0) = true by simpa using he, show (e' != 0) = true by simpa using he']
    rfl

theorem ConfigMovings_law (x : DatPs (skywaykeep3_ConfigMovings.C 0).ats) (_ : FitPs (skywaykeep3_ConfigMovings.C 0).ats x) : ∃ k, (skywaykeep3_ConfigMovings.C k).F x = some true := by
  obtain ⟨a, b⟩ := x
  exact ⟨0 + 64, movings_F 0 a b⟩

end Go.Proofs.Ytkcphennphabgaa.RT
