/- What is proved here: plain laws of the search's recursion: it finds a best completion; later times of all change nothing but the times. They ask nothing. -/
import Derived.Test.YtlaejfnmhfkdpaaSqT
import Derived.Test.YtlaejfnmhfkdpaaSeqC
namespace Go.Proofs.Ytlaejfnmhfkdpaa.RT
open Go Go.R

/-! ### Later times of all -/

def Later (b : Int) (l l' : List Arr) : Prop := l'.length = l.length ∧ ∀ k, k < l.length → ar l' k = ((ar l k).1, (ar l k).2.1, (ar l k).2.2.1 + b, (ar l k).2.2.2 + b)

def lateS (b : Int) (s : SS) : SS := if s.1 = true then (true, s.2.1, s.2.2.1 + b, s.2.2.2) else s

theorem lateS_fst (b : Int) (s : SS) : (lateS b s).1 = s.1 := by
  unfold lateS
  split
  · rename_i h; exact h.symm
  · rfl
theorem lateS_true {b : Int} {s : SS} (h : s.1 = true) : lateS b s = (true, s.2.1, s.2.2.1 + b, s.2.2.2) := if_pos h
theorem lateS_false {b : Int} {s : SS} (h : s.1 = false) : lateS b s = s := if_neg (by rw [h]; decide)

theorem mx_add (a b c : Int) : mx (a + c) (b + c) = mx a b + c := by
  unfold mx
  by_cases h : b > a
  · rw [if_pos h, if_pos (by omega)]
  · rw [if_neg h, if_neg (by omega)]

theorem nxt_late {b : Int} {l l' : List Arr} {t : Tab} (h : Later b l l') {i x at_ at' : Int} (hx : 0 ≤ x ∧ x < l.length) (hi : i < l.length) (ha : 0 ≤ i → at' = at_ + b) : nxt l' t i x at' = nxt l t i x at_ + b := by
  unfold nxt
  rw [h.2 x.toNat (by omega)]
  by_cases hi0 : i < 0
  · rw [if_pos hi0, if_pos hi0]
  · rw [if_neg hi0, if_neg hi0, h.2 i.toNat (by omega), ha (by omega), ← mx_add]
    dsimp only
    congr 1
    omega

theorem better_late (b : Int) (s : SS) (o : List Int) (at_ dl : Int) : betterS (lateS b s) o (at_ + b) dl = betterS s o at_ dl := by
  unfold betterS
  cases h : s.1 with
  | false => rw [lateS_false h, h]; simp
  | true =>
    rw [lateS_true h]
    simp only [Bool.true_eq_false, false_or]
    by_cases g : at_ = s.2.2.1
    · rw [if_neg (show ¬ (at_ + b ≠ s.2.2.1 + b) by omega), if_neg (show ¬ (at_ ≠ s.2.2.1) by omega)]
    · rw [if_pos (show at_ + b ≠ s.2.2.1 + b by omega), if_pos (show at_ ≠ s.2.2.1 from g)]
      congr 1
      by_cases q : at_ < s.2.2.1
      · rw [decide_eq_true q, decide_eq_true (by omega)]
      · rw [decide_eq_false q, decide_eq_false (by omega)]

theorem step_late {b : Int} {l l' : List Arr} (h : Later b l l') (t : Tab) (pl : List Int) (sh : Int) : ∀ (d : Nat) (o : List Int) (last at_ at' dl : Int) (s : SS), last < l.length → (0 ≤ last → at' = at_ + b) → (0 ≤ last ∨ 1 ≤ d) →
    stepS l' t pl sh d o last at' dl (lateS b s) = lateS b (stepS l t pl sh d o last at_ dl s) := by
  intro d
  induction d with
  | zero =>
    intro o last at_ at' dl s hl ha hd
    have : at' = at_ + b := ha (by omega)
    subst this
    unfold stepS
    rw [better_late]
    split
    · rw [lateS_true rfl]
    · rfl
  | succ d ih =>
    intro o last at_ at' dl s hl ha _
    unfold stepS
    rw [h.1]
    have hks : ∀ k ∈ List.range l.length, k < l.length := fun k hk => List.mem_range.1 hk
    generalize List.range l.length = ks at hks
    induction ks generalizing s with
    | nil => rfl
    | cons k ks ihk =>
      rw [List.foldl_cons, List.foldl_cons]
      have hk := hks k (by simp)
      have e : roundS l' t pl sh (stepS l' t pl sh d) o last at' dl (lateS b s) k = lateS b (roundS l t pl sh (stepS l t pl sh d) o last at_ dl s k) := by
        unfold roundS
        by_cases c1 : (k : Int) ∈ o ∨ sh < mx ((o.length : Int) - pl.getD k 0) (pl.getD k 0 - (o.length : Int))
        · rw [if_pos c1, if_pos c1]
        · rw [if_neg c1, if_neg c1, nxt_late h (x := (k : Int)) (i := last) (at_ := at_) ⟨by omega, by omega⟩ hl ha, h.2 k hk]
          by_cases c2 : (ar l k).2.2.2 < nxt l t last k at_ ∨ (s.1 = true ∧ s.2.2.1 < nxt l t last k at_)
          · rw [if_pos c2, if_pos]
            rcases c2 with c2 | ⟨c2, c3⟩
            · left; dsimp only; omega
            · right; rw [lateS_true c2]; exact ⟨rfl, by dsimp only; omega⟩
          · rw [if_neg c2, if_neg]
            · dsimp only
              rw [show dl + (nxt l t last k at_ + b) - ((ar l k).2.2.1 + b) = dl + nxt l t last k at_ - (ar l k).2.2.1 by omega]
              exact ih _ _ _ _ _ _ (by omega) (fun _ => rfl) (.inl (by omega))
            · intro c3
              apply c2
              rcases c3 with c3 | ⟨c3, c4⟩
              · left; dsimp only at c3; omega
              · right
                rw [lateS_fst] at c3
                rw [lateS_true c3] at c4
                exact ⟨c3, by dsimp only at c4; omega⟩
      rw [e]
      exact ihk _ fun q hq => hks q (List.mem_cons_of_mem _ hq)

theorem times_late {b : Int} {l l' : List Arr} (h : Later b l l') (t : Tab) : ∀ (o : List Int) (last at_ at' : Int), (∀ x ∈ o, 0 ≤ x ∧ x < l.length) → last < l.length → (0 ≤ last → at' = at_ + b) → timesL l' t o last at' = (timesL l t o last at_).map (·.map (· + b)) := by
  intro o
  induction o with
  | nil => intro _ _ _ _ _ _; rfl
  | cons x r ih =>
    intro last at_ at' ho hl ha
    have hx := ho x (by simp)
    unfold timesL
    rw [nxt_late h hx hl ha, h.2 x.toNat (by omega)]
    dsimp only
    by_cases c : nxt l t last x at_ > (ar l x.toNat).2.2.2
    · rw [if_pos c, if_pos (by omega)]; rfl
    · rw [if_neg c, if_neg (by omega), ih x (nxt l t last x at_) _ (fun y hy => ho y (List.mem_cons_of_mem _ hy)) hx.2 (fun _ => rfl)]
      cases timesL l t r x (nxt l t last x at_) <;> simp

/-! ### What the search finds -/

/-- The last landing of an order that goes on from here; nothing, where it may not be. -/
def compS (l : List Arr) (t : Tab) (pl : List Int) (sh : Int) : List Int → List Int → Int → Int → Option Int
  | [], o, _, at_ => if o.length = l.length then some at_ else none
  | x :: r, o, last, at_ => if o.length < l.length ∧ (0 ≤ x ∧ x < l.length) ∧ x ∉ o ∧ mx ((o.length : Int) - pl.getD x.toNat 0) (pl.getD x.toNat 0 - (o.length : Int)) ≤ sh ∧ nxt l t last x at_ ≤ (ar l x.toNat).2.2.2 then compS l t pl sh r (o ++ [x]) x (nxt l t last x at_) else none

theorem compS_cons {l : List Arr} {t : Tab} {pl : List Int} {sh : Int} {x : Int} {r o : List Int} {last at_ T : Int} (h : compS l t pl sh (x :: r) o last at_ = some T) :
    (o.length < l.length ∧ (0 ≤ x ∧ x < l.length) ∧ x ∉ o ∧ mx ((o.length : Int) - pl.getD x.toNat 0) (pl.getD x.toNat 0 - (o.length : Int)) ≤ sh ∧ nxt l t last x at_ ≤ (ar l x.toNat).2.2.2) ∧ compS l t pl sh r (o ++ [x]) x (nxt l t last x at_) = some T := by
  unfold compS at h
  split at h
  · rename_i hc; exact ⟨hc, h⟩
  · cases h

theorem comp_ge {k : Nat} {l : List Arr} {t : Tab} (hl : ArrOk k l) (ht : TabOk t) {pl : List Int} {sh : Int} : ∀ (r o : List Int) (last at_ T : Int), 0 ≤ last → last < l.length → 0 ≤ at_ → at_ ≤ 200000 → compS l t pl sh r o last at_ = some T → at_ ≤ T := by
  intro r
  induction r with
  | nil =>
    intro o last at_ T _ _ _ _ h
    unfold compS at h
    split at h
    · cases h; exact Int.le_refl _
    · cases h
  | cons x r ih =>
    intro o last at_ T h0 h1 ha0 ha h
    obtain ⟨⟨_, hx, _, _, hm⟩, h⟩ := compS_cons h
    have hb := nxt_bounds hl ht hx h1 ⟨ha0, ha⟩
    have := (hl.each x.toNat (by omega)).most
    have := ih _ _ _ _ hx.1 hx.2 hb.2.1 (by omega) h
    have := (hb.2.2.2 h0).2
    omega

structure Found (l : List Arr) (t : Tab) (pl : List Int) (sh : Int) (C : List Int → Prop) (o : List Int) (last at_ : Int) (s s' : SS) : Prop where
  keep : s.1 = true → s'.1 = true ∧ s'.2.2.1 ≤ s.2.2.1
  all : ∀ r T, C r → compS l t pl sh r o last at_ = some T → s'.1 = true ∧ s'.2.2.1 ≤ T
  one : s'.1 = true → (s.1 = true ∧ s'.2.1 = s.2.1 ∧ s'.2.2.1 = s.2.2.1) ∨ ∃ r, compS l t pl sh r o last at_ = some s'.2.2.1 ∧ s'.2.1 = o ++ r

theorem step_found {k : Nat} {l : List Arr} {t : Tab} (hl : ArrOk k l) (ht : TabOk t) (pl : List Int) (sh : Int) : ∀ (d : Nat) (o : List Int) (last at_ dl : Int) (s : SS), o.length + d = l.length → last < l.length → 0 ≤ at_ → at_ ≤ 200000 →
    Found l t pl sh (fun _ => True) o last at_ s (stepS l t pl sh d o last at_ dl s) := by
  intro d
  induction d with
  | zero =>
    intro o last at_ dl s hod hlast ha0 ha
    have hone : ∀ r T, compS l t pl sh r o last at_ = some T → r = [] ∧ T = at_ := fun r T h => by
      cases r with
      | nil =>
        unfold compS at h
        rw [if_pos (by omega)] at h
        exact ⟨rfl, (Option.some.inj h).symm⟩
      | cons x r => have := (compS_cons h).1.1; omega
    have hnil : compS l t pl sh [] o last at_ = some at_ := by unfold compS; rw [if_pos (by omega)]
    unfold stepS
    split
    · rename_i hb
      refine ⟨fun h => ⟨rfl, ?_⟩, fun r T _ h => ⟨rfl, by rw [(hone r T h).2]; exact Int.le_refl _⟩, fun _ => .inr ⟨[], hnil, by simp⟩⟩
      unfold betterS at hb
      rw [h] at hb
      dsimp only
      split at hb
      · simpa using Int.le_of_lt (by simpa using hb : at_ < s.2.2.1)
      · rename_i hn
        simp only [Bool.true_eq_false, false_or, Decidable.not_not] at hn
        omega
    · rename_i hb
      have hs : s.1 = true ∧ s.2.2.1 ≤ at_ := by
        unfold betterS at hb
        cases h : s.1 with
        | false => rw [h] at hb; simp at hb
        | true =>
          rw [h] at hb
          refine ⟨rfl, ?_⟩
          split at hb
          · simpa using hb
          · rename_i hn
            simp only [Bool.true_eq_false, false_or, Decidable.not_not] at hn
            omega
      exact ⟨fun h => ⟨h, Int.le_refl _⟩, fun r T _ h => ⟨hs.1, by rw [(hone r T h).2]; exact hs.2⟩, fun h => .inl ⟨h, rfl, rfl⟩⟩
  | succ d ih =>
    intro o last at_ dl s hod hlast ha0 ha
    unfold stepS
    have gen : ∀ (ks : List Nat) (s : SS), (∀ q ∈ ks, q < l.length) → Found l t pl sh (fun r => ∃ x r', r = x :: r' ∧ x.toNat ∈ ks) o last at_ s (ks.foldl (fun s k => roundS l t pl sh (stepS l t pl sh d) o last at_ dl s k) s) := by
      intro ks
      induction ks with
      | nil => intro s _; exact ⟨fun h => ⟨h, Int.le_refl _⟩, fun r T ⟨x, r', _, h⟩ => by simp at h, fun h => .inl ⟨h, rfl, rfl⟩⟩
      | cons q ks ihk =>
        intro s hks
        rw [List.foldl_cons]
        have hq := hks q (by simp)
        have h1 : Found l t pl sh (fun r => ∃ x r', r = x :: r' ∧ x.toNat = q) o last at_ s (roundS l t pl sh (stepS l t pl sh d) o last at_ dl s q) := by
          have hx : ∀ r T, (∃ x r', r = x :: r' ∧ x.toNat = q) → compS l t pl sh r o last at_ = some T → (q : Int) ∉ o ∧ mx ((o.length : Int) - pl.getD q 0) (pl.getD q 0 - (o.length : Int)) ≤ sh ∧ nxt l t last q at_ ≤ (ar l q).2.2.2 ∧ ∃ r', compS l t pl sh r' (o ++ [(q : Int)]) q (nxt l t last q at_) = some T := by
            rintro r T ⟨x, r', rfl, rfl⟩ h
            obtain ⟨⟨_, c2, c3, c4, c5⟩, h⟩ := compS_cons h
            have e : ((x.toNat : Nat) : Int) = x := by omega
            rw [e]
            exact ⟨c3, c4, c5, r', h⟩
          unfold roundS
          by_cases c1 : (q : Int) ∈ o ∨ sh < mx ((o.length : Int) - pl.getD q 0) (pl.getD q 0 - (o.length : Int))
          · rw [if_pos c1]
            refine ⟨fun h => ⟨h, Int.le_refl _⟩, fun r T hr h => ?_, fun h => .inl ⟨h, rfl, rfl⟩⟩
            obtain ⟨g1, g2, _⟩ := hx r T hr h
            rcases c1 with c1 | c1
            · exact absurd c1 g1
            · omega
          rw [if_neg c1]
          have hb := nxt_bounds hl ht (x := (q : Int)) (i := last) (at_ := at_) ⟨by omega, by omega⟩ hlast ⟨ha0, ha⟩
          rw [Int.toNat_natCast] at hb
          have hm := (hl.each q hq).most
          by_cases c2 : (ar l q).2.2.2 < nxt l t last q at_ ∨ (s.1 = true ∧ s.2.2.1 < nxt l t last q at_)
          · rw [if_pos c2]
            refine ⟨fun h => ⟨h, Int.le_refl _⟩, fun r T hr h => ?_, fun h => .inl ⟨h, rfl, rfl⟩⟩
            obtain ⟨_, _, g3, r', g4⟩ := hx r T hr h
            rcases c2 with c2 | ⟨c2, c3⟩
            · omega
            · have := comp_ge hl ht r' _ _ _ _ (by omega) (by omega) hb.2.1 (by omega) g4
              exact ⟨c2, by omega⟩
          · rw [if_neg c2]
            have c3 : nxt l t last q at_ ≤ (ar l q).2.2.2 := Int.not_lt.1 fun h => c2 (.inl h)
            have hi := ih (o ++ [(q : Int)]) q (nxt l t last q at_) (dl + nxt l t last q at_ - (ar l q).2.2.1) s (by simp; omega) (by omega) hb.2.1 (by omega)
            refine ⟨hi.keep, fun r T hr h => ?_, fun h => ?_⟩
            · obtain ⟨_, _, _, r', g4⟩ := hx r T hr h
              exact hi.all r' T trivial g4
            · rcases hi.one h with g | ⟨r, g1, g2⟩
              · exact .inl g
              · refine .inr ⟨(q : Int) :: r, ?_, by rw [g2]; simp⟩
                unfold compS
                rw [if_pos, g1]
                refine ⟨by omega, ⟨by omega, by omega⟩, fun c => c1 (.inl c), ?_, ?_⟩
                · rw [Int.toNat_natCast]; exact Int.not_lt.1 fun c => c1 (.inr c)
                · rw [Int.toNat_natCast]; exact c3
        have h2 := ihk (roundS l t pl sh (stepS l t pl sh d) o last at_ dl s q) fun z hz => hks z (List.mem_cons_of_mem _ hz)
        refine ⟨fun h => ?_, fun r T ⟨x, r', hr, hm⟩ h => ?_, fun h => ?_⟩
        · have g1 := h1.keep h
          have g2 := h2.keep g1.1
          exact ⟨g2.1, by omega⟩
        · rcases List.mem_cons.1 hm with hm | hm
          · have g1 := h1.all r T ⟨x, r', hr, hm⟩ h
            have g2 := h2.keep g1.1
            exact ⟨g2.1, by omega⟩
          · exact h2.all r T ⟨x, r', hr, hm⟩ h
        · rcases h2.one h with ⟨g1, g2, g3⟩ | g
          · rcases h1.one g1 with ⟨g4, g5, g6⟩ | ⟨r, g4, g5⟩
            · exact .inl ⟨g4, g2.trans g5, g3.trans g6⟩
            · exact .inr ⟨r, by rw [g3]; exact g4, g2.trans g5⟩
          · exact .inr g
    have h := gen (List.range l.length) s fun q hq => List.mem_range.1 hq
    refine ⟨h.keep, fun r T _ hc => ?_, h.one⟩
    cases r with
    | nil =>
      unfold compS at hc
      rw [if_neg (by omega)] at hc
      cases hc
    | cons x r => exact h.all _ T ⟨x, r, rfl, List.mem_range.2 (by have := (compS_cons hc).1.2.1; omega)⟩ hc

theorem comp_mono {l : List Arr} {t : Tab} {pl : List Int} {sh sh' : Int} (hs : sh ≤ sh') : ∀ (r o : List Int) (last at_ T : Int), compS l t pl sh r o last at_ = some T → compS l t pl sh' r o last at_ = some T := by
  intro r
  induction r with
  | nil => intro o last at_ T h; exact h
  | cons x r ih =>
    intro o last at_ T h
    obtain ⟨⟨c1, c2, c3, c4, c5⟩, h⟩ := compS_cons h
    unfold compS
    rw [if_pos ⟨c1, c2, c3, by omega, c5⟩]
    exact ih _ _ _ _ h

/-- Its times. -/
theorem comp_times {l : List Arr} {t : Tab} {pl : List Int} {sh : Int} : ∀ (r o : List Int) (last at_ T : Int), compS l t pl sh r o last at_ = some T → ∃ out, timesL l t r last at_ = some out ∧ out.length = r.length ∧ out.getLastD at_ = T := by
  intro r
  induction r with
  | nil =>
    intro o last at_ T h
    unfold compS at h
    split at h
    · cases h; exact ⟨[], rfl, rfl, rfl⟩
    · cases h
  | cons x r ih =>
    intro o last at_ T h
    obtain ⟨⟨_, _, _, _, c5⟩, h⟩ := compS_cons h
    obtain ⟨out, h1, h2, h3⟩ := ih _ _ _ _ h
    refine ⟨nxt l t last x at_ :: out, ?_, by simp [h2], by rw [List.getLastD_cons]; exact h3⟩
    unfold timesL
    rw [if_neg (by omega), h1]
    rfl

/-- It is an order. -/
theorem comp_perm {l : List Arr} {t : Tab} {pl : List Int} {sh : Int} : ∀ (r o : List Int) (last at_ T : Int), (∀ x ∈ o, 0 ≤ x ∧ x < l.length) → o.Nodup → compS l t pl sh r o last at_ = some T → IsPerm (o ++ r) l.length := by
  intro r
  induction r with
  | nil =>
    intro o last at_ T h1 h2 h
    unfold compS at h
    split at h
    · rename_i hc; rw [List.append_nil]; exact ⟨hc, h1, h2⟩
    · cases h
  | cons x r ih =>
    intro o last at_ T h1 h2 h
    obtain ⟨⟨_, c2, c3, _, _⟩, h⟩ := compS_cons h
    have := ih (o ++ [x]) _ _ _ (fun y hy => by
      rcases List.mem_append.1 hy with hy | hy
      · exact h1 y hy
      · rw [List.mem_singleton.1 hy]; exact c2) (by
      rw [List.nodup_append]
      exact ⟨h2, by simp, fun a ha b hb e => c3 (by rw [← List.mem_singleton.1 hb, ← e]; exact ha)⟩) h
    simpa using this

/-- No place is shifted too far. -/
theorem comp_shift {l : List Arr} {t : Tab} {pl : List Int} {sh : Int} : ∀ (r o : List Int) (last at_ T : Int), compS l t pl sh r o last at_ = some T → ∀ p, p < r.length → mx (((o.length + p : Nat) : Int) - pl.getD (r.getD p 0).toNat 0) (pl.getD (r.getD p 0).toNat 0 - ((o.length + p : Nat) : Int)) ≤ sh := by
  intro r
  induction r with
  | nil => intro o last at_ T _ p hp; simp at hp
  | cons x r ih =>
    intro o last at_ T h p hp
    obtain ⟨⟨_, _, _, c4, _⟩, h⟩ := compS_cons h
    cases p with
    | zero => simpa using c4
    | succ p =>
      have := ih _ _ _ _ h p (by simpa using hp)
      rw [List.length_append, List.length_singleton] at this
      rw [List.getD_cons_succ, show o.length + (p + 1) = o.length + 1 + p by omega]
      exact this

/-- An order whose times are in time, with nothing shifted. -/
theorem comp_of_times {l : List Arr} {t : Tab} {pl : List Int} {sh : Int} (hsh : 0 ≤ sh) : ∀ (r o : List Int) (last at_ : Int) (out : List Int), IsPerm (o ++ r) l.length → (∀ p, p < r.length → pl.getD (r.getD p 0).toNat 0 = ((o.length + p : Nat) : Int)) → timesL l t r last at_ = some out → compS l t pl sh r o last at_ = some (out.getLastD at_) := by
  intro r
  induction r with
  | nil =>
    intro o last at_ out h1 _ h
    simp only [timesL, Option.some.injEq] at h
    subst h
    unfold compS
    rw [if_pos (by simpa using h1.1)]
    rfl
  | cons x r ih =>
    intro o last at_ out h1 h2 h
    unfold timesL at h
    split at h
    · cases h
    · rename_i hc
      cases hr : timesL l t r x (nxt l t last x at_) with
      | none => rw [hr] at h; cases h
      | some out' =>
        rw [hr] at h
        simp only [Option.map_some, Option.some.injEq] at h
        subst h
        have hx := h1.2.1 x (by simp)
        have hno : x ∉ o := fun hm => by
          have := (List.nodup_append.1 h1.2.2).2.2 x hm x (by simp)
          exact this rfl
        have h0 := h2 0 (by simp)
        simp only [List.getD_cons_zero, Nat.add_zero] at h0
        have hlen := h1.1
        simp only [List.length_append, List.length_cons] at hlen
        unfold compS
        rw [if_pos ⟨by omega, hx, hno, by rw [h0]; simp [mx]; omega, by omega⟩, ih (o ++ [x]) x _ out' (by simpa using h1) (fun p hp => by
          have := h2 (p + 1) (by simp; omega)
          rw [List.getD_cons_succ] at this
          rw [this, List.length_append, List.length_singleton]
          congr 1; omega) hr]
        rw [List.getLastD_cons]

end Go.Proofs.Ytlaejfnmhfkdpaa.RT
