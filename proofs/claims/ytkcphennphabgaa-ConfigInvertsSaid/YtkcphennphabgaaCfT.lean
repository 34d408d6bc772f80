/- What is proved here: the contracts of the functions that the laws ConfigKeeps, ConfigInverts, ConfigMovings reach: their calls do what the plain Lean functions '..F' say. They ask nothing but the evaluator's soundness. -/
import Derived.Test.YtkcphennphabgaaChecked
import Derived.Test.YtkcphennphabgaaRc
import Derived.Test.YtkcphennphabgaaCfV
import Derived.Test.YtkcphennphabgaaCfS
import Derived.Test.YtkcphennphabgaaCfX
set_option maxRecDepth 100000
namespace Go.Proofs.Ytkcphennphabgaa.RT
open Go Go.R
theorem mixed : Try.prog.follows .mixedOrders = true := by kernel_rfl
/-! ### chart_Name: function 29, skyway/chart.Name -/
noncomputable def chart_Name.l0b (_k : Nat) (a0 : ByteArray) (self5 : Int → Option Bool) (x4 : Int) : Option Bool :=
  bif (decide (x4 < (a0.size : Int))) then bif (decide (0 ≤ x4) && decide (x4 < ((a0.size : Nat) : Int))) then (bif (decide ((bt a0 x4) < 65)) then some true else some (decide ((bt a0 x4) > 90))).bind fun b6 => (bif b6 then (bif (decide ((bt a0 x4) < 48)) then some true else some (decide ((bt a0 x4) > 57))).bind fun b7 => some b7 else some false).bind fun b8 => bif b8 then some false else self5 (w64 (x4 + 1)) else none else some true
noncomputable def chart_Name.l0 (k : Nat) (a0 : ByteArray) (n : Nat) (x : Int) : Option Bool := iterT n (chart_Name.l0b k a0) x
theorem chart_Name.l0_succ (k : Nat) (a0 : ByteArray) (n : Nat) (x : Int) : chart_Name.l0 k a0 (n + 1) x = chart_Name.l0b k a0 (fun x => chart_Name.l0 k a0 n x) x := rfl
noncomputable def chart_Name.F (k : Nat) (a0 : ByteArray) : Option Bool :=
  (bif ((a0.size : Int) == 0) then some true else some (decide ((a0.size : Int) > 8))).bind fun b1 => (bif b1 then some true else bif (decide (0 ≤ 0) && decide (0 < ((a0.size : Nat) : Int))) then some (decide ((bt a0 (0 : Int)) < 65)) else none).bind fun b2 => (bif b2 then some true else bif (decide (0 ≤ 0) && decide (0 < ((a0.size : Nat) : Int))) then some (decide ((bt a0 (0 : Int)) > 90)) else none).bind fun b3 => bif b3 then some false else chart_Name.l0 k a0 k 0
noncomputable def chart_Name.C (k : Nat) : Cal := ⟨29, [.ro false (.str)], [⟨false, .bool, []⟩], fun x => chart_Name.F k x⟩
noncomputable def chart_Name.A : ACode := (.seq (.reg (.op .n .nil)) (.seq (.seq (.reg (.op .n (.op .n (.op .n (.op .n (.andor 3 (.op .n (.op .n (.op .n .nil))) (.op .n (.andor 3 (.op .n (.op .n (.op .n .nil))) (.op .n (.andor 3 (.op .n (.op .n (.op .n .nil))) .nil)))))))))) (.cond (.seq (.reg (.op .n .nil)) .u) .u)) (.seq (.seq (.reg (.op .n (.op .n (.op .n .nil)))) (.block (.loop ⟨[⟨.slot 25, false, .int .i64⟩], [], [2, 3, 4, 26, 27, 28, 29, 30, 31, 32, 33, 34, 35, 36, 37, 38, 39, 40, 41, 42, 43, 44, 45]⟩ (.seq (.reg (.op .n .nil)) (.seq (.cond .u .u) (.seq (.block (.seq (.reg (.op .n (.op .n .nil))) (.seq (.reg (.op .n (.op .n (.op .n (.op .n .nil))))) (.seq (.reg (.op .n (.op .n (.op .n (.andor 2 (.op .n (.op .n .nil)) (.op .n (.andor 6 (.op .n (.op .n (.op .n (.andor 2 (.op .n (.op .n .nil)) .nil)))) .nil))))))) (.cond (.seq (.reg (.op .n .nil)) .u) .u))))) (.reg (.op .n (.op .n .nil))))))))) (.seq (.reg (.op .n .nil)) .u))))
noncomputable def chart_Name.E (_k : Nat) : Env := ⟨[], [], [], [], [], []⟩
theorem chart_Name.ev (k : Nat) (x : DatPs (chart_Name.C k).ats) : evalFn (chart_Name.E k) k Try.f29 chart_Name.A (chart_Name.C k).ats (chart_Name.C k).rts x = (chart_Name.C k).F x := by kernel_rfl
theorem chart_Name.pok (k : Nat) : ProgOk Try.prog (chart_Name.E k) := ⟨⟨cs_nil, ms_nil, bs_nil, xs_nil⟩, fns_nil, mixed⟩
theorem chart_Name.chk (k : Nat) : (chkC Try.prog (chart_Name.E k) chart_Name.A (Try.f29.body.getD .skip) && chkRes Try.prog Try.f29.results.toList (chart_Name.C k).rts) = true := by kernel_rfl
theorem chart_Name.ok (k : Nat) : CalOk Try.prog [] (chart_Name.C k) := cal_sound (chart_Name.pok k) (draw_ok (chart_Name.pok k)) (chart_Name.ev k) Try.func29 rfl Try.call29 (chart_Name.chk k)

/-! ### sector_Name: function 22, skyway/sector.Name -/
noncomputable def sector_Name.F (k : Nat) (a0 : ByteArray) : Option Bool :=
  (chart_Name.F k a0).bind fun r1 => some r1
noncomputable def sector_Name.C (k : Nat) : Cal := ⟨22, [.ro false (.str)], [⟨false, .bool, []⟩], fun x => sector_Name.F k x⟩
noncomputable def sector_Name.A : ACode := (.seq (.reg (.op .n .nil)) (.seq (.reg (.op .n (.op (.pcall 0) (.op .n .nil)))) .u))
noncomputable def sector_Name.E (k : Nat) : Env := ⟨[chart_Name.C k], [], [], [], [], []⟩
theorem sector_Name.ev (k : Nat) (x : DatPs (sector_Name.C k).ats) : evalFn (sector_Name.E k) k Try.f22 sector_Name.A (sector_Name.C k).ats (sector_Name.C k).rts x = (sector_Name.C k).F x := by kernel_rfl
theorem sector_Name.pok (k : Nat) : ProgOk Try.prog (sector_Name.E k) := ⟨⟨(cs_cons (chart_Name.ok k) cs_nil), ms_nil, bs_nil, xs_nil⟩, fns_nil, mixed⟩
theorem sector_Name.chk (k : Nat) : (chkC Try.prog (sector_Name.E k) sector_Name.A (Try.f22.body.getD .skip) && chkRes Try.prog Try.f22.results.toList (sector_Name.C k).rts) = true := by kernel_rfl
theorem sector_Name.ok (k : Nat) : CalOk Try.prog [] (sector_Name.C k) := cal_sound (sector_Name.pok k) (draw_ok (sector_Name.pok k)) (sector_Name.ev k) Try.func22 rfl Try.call22 (sector_Name.chk k)

/-! ### slices_Index_string: function 30, slices.Index[[]string,string] -/
noncomputable def slices_Index_string.l0b (_k : Nat) (a0 : List ByteArray) (a1 : ByteArray) (self2 : Int → Option Int) (x1 : Int) : Option Int :=
  bif (decide (x1 < ((a0.length : Nat) : Int))) then bif (decide (0 ≤ x1) && decide (x1 < ((a0.length : Nat) : Int))) then bif (a1.toList == (a0.getD x1.toNat ByteArray.empty).toList) then some x1 else self2 (w64 (x1 + 1)) else none else some (-1)
noncomputable def slices_Index_string.l0 (k : Nat) (a0 : List ByteArray) (a1 : ByteArray) (n : Nat) (x : Int) : Option Int := iterT n (slices_Index_string.l0b k a0 a1) x
theorem slices_Index_string.l0_succ (k : Nat) (a0 : List ByteArray) (a1 : ByteArray) (n : Nat) (x : Int) : slices_Index_string.l0 k a0 a1 (n + 1) x = slices_Index_string.l0b k a0 a1 (fun x => slices_Index_string.l0 k a0 a1 n x) x := rfl
noncomputable def slices_Index_string.F (k : Nat) (a0 : List ByteArray) (a1 : ByteArray) : Option Int :=
  slices_Index_string.l0 k a0 a1 k 0
noncomputable def slices_Index_string.C (k : Nat) : Cal := ⟨30, [.ro false (.slice (.str)), .ro false (.str)], [⟨false, .int .i64, []⟩], fun x => slices_Index_string.F k x.1 x.2⟩
noncomputable def slices_Index_string.A : ACode := (.seq (.reg (.op .n .nil)) (.seq (.seq (.reg (.op .n (.op (.elem 9 (.str) 16) (.op .n .nil)))) (.block (.loop ⟨[⟨.slot 8, false, .int .i64⟩], [], [4, 5, 9, 10, 11, 12, 13, 14, 15, 16, 17, 18]⟩ (.seq (.reg (.op .n .nil)) (.seq (.cond .u .u) (.seq (.block (.seq (.reg (.op .n (.op .n .nil))) (.seq (.reg (.op .n (.op .n (.op .n (.op (.elem 9 (.str) 16) (.op (.load 1 false) (.op .n .nil))))))) (.cond (.seq (.reg (.op .n (.op .n .nil))) .u) .u)))) (.reg (.op .n (.op .n .nil))))))))) (.seq (.reg (.op .n .nil)) .u)))
noncomputable def slices_Index_string.E (_k : Nat) : Env := ⟨[], [], [], [], [], []⟩
theorem slices_Index_string.ev (k : Nat) (x : DatPs (slices_Index_string.C k).ats) : evalFn (slices_Index_string.E k) k Try.f30 slices_Index_string.A (slices_Index_string.C k).ats (slices_Index_string.C k).rts x = (slices_Index_string.C k).F x := by kernel_rfl
theorem slices_Index_string.pok (k : Nat) : ProgOk Try.prog (slices_Index_string.E k) := ⟨⟨cs_nil, ms_nil, bs_nil, xs_nil⟩, fns_nil, mixed⟩
theorem slices_Index_string.chk (k : Nat) : (chkC Try.prog (slices_Index_string.E k) slices_Index_string.A (Try.f30.body.getD .skip) && chkRes Try.prog Try.f30.results.toList (slices_Index_string.C k).rts) = true := by kernel_rfl
theorem slices_Index_string.ok (k : Nat) : CalOk Try.prog [] (slices_Index_string.C k) := cal_sound (slices_Index_string.pok k) (draw_ok (slices_Index_string.pok k)) (slices_Index_string.ev k) Try.func30 rfl Try.call30 (slices_Index_string.chk k)

/-! ### slices_Contains_string: function 23, slices.Contains[[]string,string] -/
noncomputable def slices_Contains_string.F (k : Nat) (a0 : List ByteArray) (a1 : ByteArray) : Option Bool :=
  (slices_Index_string.F k a0 a1).bind fun r1 => some (decide (r1 ≥ 0))
noncomputable def slices_Contains_string.C (k : Nat) : Cal := ⟨23, [.ro false (.slice (.str)), .ro false (.str)], [⟨false, .bool, []⟩], fun x => slices_Contains_string.F k x.1 x.2⟩
noncomputable def slices_Contains_string.A : ACode := (.seq (.reg (.op .n .nil)) (.seq (.reg (.op .n (.op .n (.op (.pcall 0) (.op .n (.op .n .nil)))))) .u))
noncomputable def slices_Contains_string.E (k : Nat) : Env := ⟨[slices_Index_string.C k], [], [], [], [], []⟩
theorem slices_Contains_string.ev (k : Nat) (x : DatPs (slices_Contains_string.C k).ats) : evalFn (slices_Contains_string.E k) k Try.f23 slices_Contains_string.A (slices_Contains_string.C k).ats (slices_Contains_string.C k).rts x = (slices_Contains_string.C k).F x := by kernel_rfl
theorem slices_Contains_string.pok (k : Nat) : ProgOk Try.prog (slices_Contains_string.E k) := ⟨⟨(cs_cons (slices_Index_string.ok k) cs_nil), ms_nil, bs_nil, xs_nil⟩, fns_nil, mixed⟩
theorem slices_Contains_string.chk (k : Nat) : (chkC Try.prog (slices_Contains_string.E k) slices_Contains_string.A (Try.f23.body.getD .skip) && chkRes Try.prog Try.f23.results.toList (slices_Contains_string.C k).rts) = true := by kernel_rfl
theorem slices_Contains_string.ok (k : Nat) : CalOk Try.prog [] (slices_Contains_string.C k) := cal_sound (slices_Contains_string.pok k) (draw_ok (slices_Contains_string.pok k)) (slices_Contains_string.ev k) Try.func23 rfl Try.call23 (slices_Contains_string.chk k)

/-! ### strings_Compare: function 33, strings.Compare -/
noncomputable def strings_Compare.F (_k : Nat) (a0 : ByteArray) (a1 : ByteArray) : Option Int := some (Lib.compareBytes a0.data.toList a1.data.toList)
noncomputable def strings_Compare.C (k : Nat) : Cal := ⟨33, [.ro false .str, .ro false .str], [⟨false, .int .i64, []⟩], fun x => strings_Compare.F k x.1 x.2⟩
theorem strings_Compare.ok (k : Nat) : CalOk Try.prog [] (strings_Compare.C k) := compare_ok Try.lay33

/-! ### config_order_1: function 32, skyway/config.order 1 -/
noncomputable def config_order_1.F (k : Nat) (a0 : ByteArray × List ByteArray) (a1 : ByteArray × List ByteArray) : Option Int :=
  (strings_Compare.F k a0.1 a1.1).bind fun r1 => some r1
noncomputable def config_order_1.C (k : Nat) : Cal := ⟨32, [.ro true (.pair (.str) (.slice (.str))), .ro true (.pair (.str) (.slice (.str)))], [⟨false, .int .i64, []⟩], fun x => config_order_1.F k x.1 x.2⟩
noncomputable def config_order_1.A : ACode := (.seq (.reg (.op .n (.op .n (.op .n .nil)))) (.seq (.reg (.op (.off 0) (.op (.load 1 false) (.op (.off 0) (.op (.load 1 false) (.op (.pcall 0) (.op .n .nil))))))) .u))
noncomputable def config_order_1.E (k : Nat) : Env := ⟨[strings_Compare.C k], [], [], [], [], []⟩
theorem config_order_1.ev (k : Nat) (x : DatPs (config_order_1.C k).ats) : evalFn (config_order_1.E k) k Try.f32 config_order_1.A (config_order_1.C k).ats (config_order_1.C k).rts x = (config_order_1.C k).F x := by kernel_rfl
theorem config_order_1.pok (k : Nat) : ProgOk Try.prog (config_order_1.E k) := ⟨⟨(cs_cons (strings_Compare.ok k) cs_nil), ms_nil, bs_nil, xs_nil⟩, fns_nil, mixed⟩
theorem config_order_1.chk (k : Nat) : (chkC Try.prog (config_order_1.E k) config_order_1.A (Try.f32.body.getD .skip) && chkRes Try.prog Try.f32.results.toList (config_order_1.C k).rts) = true := by kernel_rfl
theorem config_order_1.ok (k : Nat) : CalOk Try.prog [] (config_order_1.C k) := cal_sound (config_order_1.pok k) (draw_ok (config_order_1.pok k)) (config_order_1.ev k) Try.func32 rfl Try.call32 (config_order_1.chk k)

/-! ### config_Begin: function 16, skyway/config.Begin -/
noncomputable def config_Begin.l0b (k : Nat) (a0 : List ByteArray) (self2 : (Int × List (ByteArray × List ByteArray)) → Option ((List (ByteArray × List ByteArray)) ⊕ ((List (ByteArray × List ByteArray)) × Int))) (x1 : Int × List (ByteArray × List ByteArray)) : Option ((List (ByteArray × List ByteArray)) ⊕ ((List (ByteArray × List ByteArray)) × Int)) :=
  bif (decide (x1.1 < ((a0.length : Nat) : Int))) then bif (decide (0 ≤ x1.1) && decide (x1.1 < ((a0.length : Nat) : Int))) then (sector_Name.F k (a0.getD x1.1.toNat ByteArray.empty)).bind fun r3 => bif (!r3) then Option.map Sum.inr (some ([], 3)) else bif (decide (0 ≤ x1.1) && decide (x1.1 ≤ ((a0.length : Nat) : Int))) then (slices_Contains_string.F k (a0.take x1.1.toNat) (a0.getD x1.1.toNat ByteArray.empty)).bind fun r4 => bif r4 then Option.map Sum.inr (some ([], 7)) else bif (Nat.ble ((x1.2.length + 1) * 40) 140737488355328) then self2 (w64 (x1.1 + 1), (x1.2 ++ [((a0.getD x1.1.toNat ByteArray.empty), [(a0.getD x1.1.toNat ByteArray.empty)])])) else none else none else none else some (Sum.inl x1.2)
noncomputable def config_Begin.l0 (k : Nat) (a0 : List ByteArray) (n : Nat) (x : Int × List (ByteArray × List ByteArray)) : Option ((List (ByteArray × List ByteArray)) ⊕ ((List (ByteArray × List ByteArray)) × Int)) := iterT n (config_Begin.l0b k a0) x
theorem config_Begin.l0_succ (k : Nat) (a0 : List ByteArray) (n : Nat) (x : Int × List (ByteArray × List ByteArray)) : config_Begin.l0 k a0 (n + 1) x = config_Begin.l0b k a0 (fun x => config_Begin.l0 k a0 n x) x := rfl
noncomputable def config_Begin.F (k : Nat) (a0 : List ByteArray) : Option ((List (ByteArray × List ByteArray)) × Int) :=
  bif (decide (((a0.length : Nat) : Int) > 12)) then some ([], 2) else (config_Begin.l0 k a0 k (0, [])).bind fun y => match y with | Sum.inl x5 => (sortO (fun a b => config_order_1.F k a b) x5).bind fun r7 => some (r7, 0) | Sum.inr y6 => some y6
noncomputable def config_Begin.C (k : Nat) : Cal := ⟨16, [.ro false (.slice (.str))], [⟨false, .slice (.pair (.str) (.slice (.str))), [40]⟩, ⟨false, .int .i64, []⟩], fun x => config_Begin.F k x⟩
noncomputable def config_Begin.A : ACode := (.seq (.reg (.op .n (.op .n .nil))) (.seq (.seq (.reg (.op .n (.op (.elem 9 (.str) 16) (.op .n .nil)))) (.cond (.seq (.reg (.op .n (.op .n .nil))) .u) .u)) (.seq (.reg (.op .n .nil)) (.seq (.seq (.reg (.op .n (.op (.elem 9 (.str) 16) (.op .n .nil)))) (.join ⟨[], [⟨40, .pair (.str) (.slice (.str)), [.slot 4], false⟩], [2, 3, 5, 6, 12, 13, 14, 15, 16, 17, 18, 19, 20, 21, 22, 23, 24, 25, 26, 27, 28, 29, 30, 31, 32]⟩ [] (.block (.loop ⟨[⟨.slot 12, false, .int .i64⟩], [⟨40, .pair (.str) (.slice (.str)), [.slot 4], false⟩], [2, 3, 5, 6, 13, 14, 15, 16, 17, 18, 19, 20, 21, 22, 23, 24, 25, 26, 27, 28, 29, 30, 31, 32]⟩ (.seq (.reg (.op .n .nil)) (.seq (.cond .u .u) (.seq (.block (.seq (.reg (.op .n (.op (.elem 9 (.str) 16) (.op (.load 1 false) (.op .n (.op .n .nil)))))) (.seq (.seq (.reg (.op .n (.op (.pcall 0) (.op .n .nil)))) (.cond (.seq (.reg (.op .n (.op .n .nil))) .u) .u)) (.seq (.seq (.reg (.op .n (.op .n (.op (.elem 9 (.str) 16) (.op .n (.op (.pcall 1) .nil)))))) (.cond (.seq (.reg (.op .n (.op .n .nil))) .u) .u)) (.reg (.op .n (.op .n (.op .n (.op (.elem 9 (.str) 16) (.op (.build [.str ByteArray.empty, .nils] [(0, 1), (1, 1)]) (.op (.elem 40 (.pair (.str) (.slice (.str))) 40) (.op (.elem 40 (.pair (.str) (.slice (.str))) 40) (.op .n .nil))))))))))))) (.reg (.op .n (.op .n .nil)))))))))) (.seq (.reg (.op .n (.icall 0 (.reg (.op .n (.op (.mcall 0) .nil))) .nil))) (.seq (.reg (.op .n (.op .n (.op .n .nil)))) .u))))))
noncomputable def config_Begin.E (k : Nat) : Env := ⟨[sector_Name.C k, slices_Contains_string.C k], [], [(24, Try.f24)], [sortCal 31 40 true (.pair (.str) (.slice (.str))) 32 [] (config_order_1.C k).F], [], []⟩
theorem config_Begin.ev (k : Nat) (x : DatPs (config_Begin.C k).ats) : evalFn (config_Begin.E k) k Try.f16 config_Begin.A (config_Begin.C k).ats (config_Begin.C k).rts x = (config_Begin.C k).F x := by kernel_rfl
theorem config_Begin.pok (k : Nat) : ProgOk Try.prog (config_Begin.E k) := ⟨⟨(cs_cons (sector_Name.ok k) (cs_cons (slices_Contains_string.ok k) cs_nil)), (ms_cons (sortK_ok Try.lay31 (e := 40) Try.isAgg40 Try.sizeOf40 (config_order_1.ok k) rfl) ms_nil), bs_nil, xs_nil⟩, (fns_cons Try.func24 Try.call24 fns_nil), mixed⟩
theorem config_Begin.chk (k : Nat) : (chkC Try.prog (config_Begin.E k) config_Begin.A (Try.f16.body.getD .skip) && chkRes Try.prog Try.f16.results.toList (config_Begin.C k).rts) = true := by kernel_rfl
theorem config_Begin.ok (k : Nat) : CalOk Try.prog [] (config_Begin.C k) := cal_sound (config_Begin.pok k) (draw_ok (config_Begin.pok k)) (config_Begin.ev k) Try.func16 rfl Try.call16 (config_Begin.chk k)

/-! ### config_Check: function 11, skyway/config.Check: a walk by hand -/
theorem gD {α : Type} (l : List α) (k : Nat) (d : α) (h : k < l.length) : l[k]? = some (l.getD k d) := by simp [List.getD, h]
theorem kept_mem {M : Mem} {w w' : World} (hM : MemOk M w) (hk : Kept w w') : MemOk M w' := fun b o v hm o' => by
  have hlt := hM.lt hm
  rw [hk.below.cell (p := ⟨b, o', none⟩) hlt]
  exact hM b o v hm o'
theorem kp_kept {w w' : World} (h : Kp w w' (· ∈ ([] : List Nat))) : Kept w w' := ⟨⟨h.os, h.tape, h.output, h.size, fun k hk => h.block k hk (by simp)⟩, h.drawn⟩
theorem kept_kp {w w' : World} (h : Kept w w') : Kp w w' (· ∈ ([] : List Nat)) := ⟨h.below.os, h.below.tape, h.below.output, h.below.size, h.drawn, fun k hk _ => h.below.block k hk⟩

/-- Positions in memory. -/
theorem gps_of {M : Mem} {w : World} (hM : MemOk M w) {l : List Gp} {v : Value} (h : RepS M (.slice (.pair .str (.slice .str))) l [v]) :
    ∃ A c, v = .slice A l.length c ∧ (l.length = 0 ∨ ∃ b off ad cp, A = some ⟨b, off, none⟩ ∧ GpIn w b off l ad cp ∧ ∀ j, j < l.length → RepS M (.slice .str) (l.getD j (ByteArray.empty, [])).2 [.slice (ad j) (l.getD j (ByteArray.empty, [])).2.length (cp j)]) := by
  simp only [RepS] at h
  obtain ⟨A, c, h1, _, h3⟩ := h
  obtain rfl : v = .slice A l.length c := by simpa using h1
  refine ⟨A, c, rfl, ?_⟩
  rcases Nat.eq_zero_or_pos l.length with hz | hp
  · exact .inl hz
  right
  have g0 : ∀ j, j < l.length → l[j]? = some (l.getD j (ByteArray.empty, [])) := fun j hj => by simp [List.getD, hj]
  obtain ⟨ad0, _, hA, hs, _⟩ := h3 0 _ (g0 0 hp)
  subst hA
  obtain ⟨b, off, sp⟩ := ad0
  obtain rfl : sp = none := hs
  -- each position
  have key : ∀ j, j < l.length → ∃ a2 c2, w.cell? ⟨b, off + j * 2, none⟩ = some (.string (l.getD j (ByteArray.empty, [])).1) ∧ w.cell? ⟨b, off + j * 2 + 1, none⟩ = some (.slice a2 (l.getD j (ByteArray.empty, [])).2.length c2) ∧
      RepS M (.slice .str) (l.getD j (ByteArray.empty, [])).2 [.slice a2 (l.getD j (ByteArray.empty, [])).2.length c2] ∧
      ∀ k, k < (l.getD j (ByteArray.empty, [])).2.length → ∃ bj oj, a2 = some ⟨bj, oj, none⟩ ∧ ∀ k, k < (l.getD j (ByteArray.empty, [])).2.length → w.cell? ⟨bj, oj + k, none⟩ = some (.string ((l.getD j (ByteArray.empty, [])).2.getD k ByteArray.empty)) := fun j hj => by
    obtain ⟨ad, cs, e, _, hr, hc⟩ := h3 j _ (g0 j hj)
    cases e
    obtain ⟨v1, v2, rfl, rfl, a2, c2, rfl, h4, h5⟩ := hr
    have q0 := hM.at (hc 0 (.string (l.getD j (ByteArray.empty, [])).1) rfl)
    have q1 := hM.at (hc 1 (.slice a2 (l.getD j (ByteArray.empty, [])).2.length c2) rfl)
    refine ⟨a2, c2, q0, q1, ?_, fun k hk => ?_⟩
    · simp only [RepS]
      exact ⟨a2, c2, rfl, h4, h5⟩
    · have e0 : (l.getD j (ByteArray.empty, [])).2[k]? = some ((l.getD j (ByteArray.empty, [])).2.getD k ByteArray.empty) := gD _ _ _ hk
      obtain ⟨ad2, _, hA2, hs2, _⟩ := h5 k _ e0
      obtain ⟨bj, oj, sp⟩ := ad2
      obtain rfl : sp = none := hs2
      refine ⟨bj, oj, hA2, fun k hk => ?_⟩
      have e1 : (l.getD j (ByteArray.empty, [])).2[k]? = some ((l.getD j (ByteArray.empty, [])).2.getD k ByteArray.empty) := gD _ _ _ hk
      obtain ⟨ad3, cs3, hA3, _, hr3, hc3⟩ := h5 k _ e1
      rw [hA2] at hA3
      cases hA3
      subst hr3
      have := hM.at (hc3 0 _ rfl)
      simpa [Ty.sz] using this
  classical
  refine ⟨b, off, fun j => if h : j < l.length then (key j h).choose else none, fun j => if h : j < l.length then (key j h).choose_spec.choose else 0, rfl, ⟨fun j hj => (key j hj).choose_spec.choose_spec.1, fun j hj => ?_, fun j hj k hk => ?_⟩, fun j hj => ?_⟩
  · simp only [dif_pos hj]; exact (key j hj).choose_spec.choose_spec.2.1
  · simp only [dif_pos hj]; exact (key j hj).choose_spec.choose_spec.2.2.2 k hk
  · simp only [dif_pos hj]; exact (key j hj).choose_spec.choose_spec.2.2.1

theorem cf_loop (k : Nat) (s : ByteArray) (hs : s.size ≤ 8) : ∀ n i : Nat, i ≤ s.size → s.size - i < n → ∃ b, chart_Name.l0 k s n i = some b := by
  intro n
  induction n with
  | zero => intro i _ h; omega
  | succ n ih =>
    intro i hi hm
    rw [chart_Name.l0_succ]
    unfold chart_Name.l0b
    by_cases hlt : i < s.size
    · rw [decide_eq_true (p := (i : Int) < (s.size : Int)) (by omega), decide_eq_true (p := 0 ≤ (i : Int)) (by omega), show w64 ((i : Int) + 1) = ((i + 1 : Nat) : Int) by rw [w64, IntKind.wrap_i64]; omega]
      simp only [Bool.and_self, cond_true]
      obtain ⟨b, h⟩ := ih (i + 1) (by omega) (by omega)
      cases decide (bt s i < 65) <;> cases decide (bt s i > 90) <;> cases decide (bt s i < 48) <;> cases decide (bt s i > 57) <;> first | exact ⟨b, h⟩ | exact ⟨false, rfl⟩
    · rw [decide_eq_false (p := (i : Int) < (s.size : Int)) (by omega)]
      exact ⟨true, rfl⟩
theorem cf_name (k : Nat) (hk : 10 ≤ k) (s : ByteArray) : ∃ b, sector_Name.F k s = some b ∧ (b = true → s.size ≤ 8) := by
  have : ∃ b, chart_Name.F k s = some b ∧ (b = true → s.size ≤ 8) := by
    unfold chart_Name.F
    by_cases h0 : s.size = 0
    · rw [show ((s.size : Int) == 0) = true by simp [h0]]
      exact ⟨false, rfl, fun h => by cases h⟩
    rw [show ((s.size : Int) == 0) = false by simpa using h0]
    by_cases h8 : 8 < s.size
    · rw [decide_eq_true (p := (s.size : Int) > 8) (by omega)]
      exact ⟨false, rfl, fun h => by cases h⟩
    rw [decide_eq_false (p := (s.size : Int) > 8) (by omega), decide_eq_true (p := (0 : Int) < (s.size : Int)) (by omega)]
    obtain ⟨b, hb⟩ := cf_loop k s (by omega) k 0 (by omega) (by omega)
    rw [show ((0 : Nat) : Int) = 0 from rfl] at hb
    cases decide (bt s 0 < 65) <;> cases decide (bt s 0 > 90) <;> first | exact ⟨b, hb, fun _ => by omega⟩ | exact ⟨false, rfl, fun h => by cases h⟩
  obtain ⟨b, h1, h2⟩ := this
  refine ⟨b, ?_, h2⟩
  unfold sector_Name.F
  rw [h1]
  rfl

noncomputable def config_Check.nm (k : Nat) (s : ByteArray) : Bool := (sector_Name.F k s).getD false
noncomputable def config_Check.F (k : Nat) (a0 : List (ByteArray × List ByteArray)) : Option Int := bif Nat.ble 10 k then some (chk (config_Check.nm k) a0) else none
noncomputable def config_Check.C (k : Nat) : Cal := ⟨11, [.ro false (.slice (.pair .str (.slice .str)))], [⟨false, .int .i64, []⟩], fun x => config_Check.F k x⟩
theorem config_Check.ok (k : Nat) : CalOk Try.prog [] (config_Check.C k) := by
  refine ⟨Try.call11, fun M w x vs gs r hM hG hA _ hF => ?_⟩
  obtain ⟨v, rfl, rfl, us, rfl, h1, hr⟩ := hA
  have hk : 10 ≤ k := by
    rcases Nat.lt_or_ge k 10 with h | h
    · exfalso
      change config_Check.F k x = some r at hF
      unfold config_Check.F at hF
      rw [show Nat.ble 10 k = false by rw [← Bool.not_eq_true, Nat.ble_eq]; omega] at hF
      cases hF
    · exact h
  have hF' : r = chk (config_Check.nm k) x := by
    change config_Check.F k x = some r at hF
    unfold config_Check.F at hF
    rw [Nat.ble_eq_true_of_le hk] at hF
    exact (Option.some.inj hF).symm
  obtain ⟨v, rfl⟩ : ∃ v, us = [v] := by
    match us, h1 rfl with
    | [v], _ => exact ⟨v, rfl⟩
  have hnm : ∀ (s : ByteArray) (w1 : World), Kept w w1 → Calls Try.prog 22 #[.string s] w1 fun e w' => e = .returned (.bool (config_Check.nm k s)) ∧ Kept w1 w' := fun s w1 h => by
    obtain ⟨b, hb, _⟩ := cf_name k hk s
    refine ((sector_Name.ok k).run M w1 s [.string s] [] b (kept_mem hM h) hG ⟨_, rfl, rfl, [.string s], rfl, fun _ => rfl, by simp [RepS]⟩ List.nodup_nil hb).mono ?_
    rintro e w' ⟨v', M', rfl, hr⟩
    obtain ⟨vs, hs, rfl, _, v2, rfl, us2, rfl, _, rfl, _⟩ := hr.out
    refine ⟨?_, kp_kept hr.kp⟩
    unfold config_Check.nm
    rw [hb]
    rfl
  have fin : ∀ {e : Ending} {w' : World}, e = .returned (.int .i64 r) ∧ Kept w w' → ∃ v M', e = .returned v ∧ RetOk M w [] M' w' (config_Check.C k).rts r v := by
    rintro e w' ⟨rfl, hk⟩
    exact ⟨_, M, rfl, ⟨Mem.le_refl _, kept_mem hM hk, kept_kp hk, fun _ _ _ h => .inl h, [.int .i64 r], [], rfl, List.nodup_nil, _, rfl, [.int .i64 r], rfl, fun _ => rfl, rfl, rfl, rfl⟩⟩
  obtain ⟨A, c, rfl, hz | ⟨b, off, ad, cp, rfl, hg, _⟩⟩ := gps_of hM hr
  · have hx : x = [] := List.eq_nil_of_length_eq_zero hz
    subst hx
    refine (chk_none A c w).mono fun e w' h => fin ?_
    rw [hF', show chk (config_Check.nm k) [] = 0 by unfold chk; rw [show Nat.ble 13 ([] : List Gp).length = false from rfl]; unfold chkG; rfl]
    exact h
  · refine (chk_walk (config_Check.nm k) (fun s hs => ?_) x b off c ad cp w hnm hg).mono fun e w' h => fin ?_
    · obtain ⟨b, hb, h2⟩ := cf_name k hk s
      refine h2 ?_
      unfold config_Check.nm at hs
      rw [hb] at hs
      exact hs
    · rw [hF']
      exact h

/-! ### config_find: function 19, skyway/config.find -/
noncomputable def config_find.l0b (_k : Nat) (a0 : List (ByteArray × List ByteArray)) (a1 : ByteArray) (self2 : Int → Option Int) (x1 : Int) : Option Int :=
  bif (decide (x1 < ((a0.length : Nat) : Int))) then bif (decide (0 ≤ x1) && decide (x1 < ((a0.length : Nat) : Int))) then bif (((a0.getD x1.toNat (ByteArray.empty, [])).1).toList == a1.toList) then some x1 else self2 (w64 (x1 + 1)) else none else some (-1)
noncomputable def config_find.l0 (k : Nat) (a0 : List (ByteArray × List ByteArray)) (a1 : ByteArray) (n : Nat) (x : Int) : Option Int := iterT n (config_find.l0b k a0 a1) x
theorem config_find.l0_succ (k : Nat) (a0 : List (ByteArray × List ByteArray)) (a1 : ByteArray) (n : Nat) (x : Int) : config_find.l0 k a0 a1 (n + 1) x = config_find.l0b k a0 a1 (fun x => config_find.l0 k a0 a1 n x) x := rfl
noncomputable def config_find.F (k : Nat) (a0 : List (ByteArray × List ByteArray)) (a1 : ByteArray) : Option Int :=
  config_find.l0 k a0 a1 k 0
noncomputable def config_find.C (k : Nat) : Cal := ⟨19, [.ro false (.slice (.pair (.str) (.slice (.str)))), .ro false (.str)], [⟨false, .int .i64, []⟩], fun x => config_find.F k x.1 x.2⟩
noncomputable def config_find.A : ACode := (.seq (.reg (.op .n (.op .n .nil))) (.seq (.reg (.op .n (.op .n (.icall 1 (.seq (.reg (.op .n .nil)) (.seq (.seq (.reg (.op .n (.op (.elem 40 (.pair (.str) (.slice (.str))) 40) (.op .n .nil)))) (.block (.loop ⟨[⟨.slot 8, false, .int .i64⟩], [], [4, 5, 9, 10, 11, 12, 13, 14, 15, 16, 17, 18]⟩ (.seq (.reg (.op .n .nil)) (.seq (.cond .u .u) (.seq (.block (.seq (.reg (.op .n (.op .n .nil))) (.seq (.reg (.op .n (.op .n (.op .n (.op (.elem 40 (.pair (.str) (.slice (.str))) 40) (.op (.load 2 true) (.icall 0 (.seq (.reg (.op .n (.op .n .nil))) (.seq (.reg (.op (.off 0) (.op (.load 1 false) (.op (.load 1 false) (.op .n (.op .n .nil)))))) .u)) .nil))))))) (.cond (.seq (.reg (.op .n (.op .n .nil))) .u) .u)))) (.reg (.op .n (.op .n .nil))))))))) (.seq (.reg (.op .n .nil)) .u))) (.op .n .nil))))) .u))
noncomputable def config_find.E (_k : Nat) : Env := ⟨[], [], [(27, Try.f27), (13, Try.f13)], [], [], []⟩
theorem config_find.ev (k : Nat) (x : DatPs (config_find.C k).ats) : evalFn (config_find.E k) k Try.f19 config_find.A (config_find.C k).ats (config_find.C k).rts x = (config_find.C k).F x := by kernel_rfl
theorem config_find.pok (k : Nat) : ProgOk Try.prog (config_find.E k) := ⟨⟨cs_nil, ms_nil, bs_nil, xs_nil⟩, (fns_cons Try.func27 Try.call27 (fns_cons Try.func13 Try.call13 fns_nil)), mixed⟩
theorem config_find.chk (k : Nat) : (chkC Try.prog (config_find.E k) config_find.A (Try.f19.body.getD .skip) && chkRes Try.prog Try.f19.results.toList (config_find.C k).rts) = true := by kernel_rfl
theorem config_find.ok (k : Nat) : CalOk Try.prog [] (config_find.C k) := cal_sound (config_find.pok k) (draw_ok (config_find.pok k)) (config_find.ev k) Try.func19 rfl Try.call19 (config_find.chk k)

/-! ### slices_Clone_string: function 28, slices.Clone[[]string,string] -/
noncomputable def slices_Clone_string.F (_k : Nat) (a0 : List ByteArray) : Option (List ByteArray) :=
  bif (Nat.ble ((0 + a0.length) * 16) 140737488355328) then some (([] : List ByteArray) ++ a0) else none
noncomputable def slices_Clone_string.C (k : Nat) : Cal := ⟨28, [.ro false (.slice (.str))], [⟨false, .slice (.str), [9]⟩], fun x => slices_Clone_string.F k x⟩
noncomputable def slices_Clone_string.A : ACode := (.seq (.reg (.op .n .nil)) (.seq (.seq (.reg (.op .n (.op (.eqt (.slice .unit)) .nil))) (.cond (.seq (.reg (.op .n .nil)) .u) .u)) (.seq (.reg (.op (.elem 9 (.str) 16) (.op .n (.op (.elem 9 (.str) 16) (.op .n .nil))))) .u)))
noncomputable def slices_Clone_string.E (_k : Nat) : Env := ⟨[], [], [], [], [], []⟩
theorem slices_Clone_string.ev0 (k : Nat) : evalFnV (slices_Clone_string.E k) k Try.f28 slices_Clone_string.A (slices_Clone_string.C k).rts [.nils] = slices_Clone_string.F k [] := by kernel_rfl
theorem slices_Clone_string.ev1 (k : Nat) (xs : List ByteArray) : evalFnV (slices_Clone_string.E k) k Try.f28 slices_Clone_string.A (slices_Clone_string.C k).rts [.ro 1 (.str) xs] = slices_Clone_string.F k xs := by kernel_rfl
theorem slices_Clone_string.pok (k : Nat) : ProgOk Try.prog (slices_Clone_string.E k) := ⟨⟨cs_nil, ms_nil, bs_nil, xs_nil⟩, fns_nil, mixed⟩
theorem slices_Clone_string.chk (k : Nat) : (chkC Try.prog (slices_Clone_string.E k) slices_Clone_string.A (Try.f28.body.getD .skip) && chkRes Try.prog Try.f28.results.toList (slices_Clone_string.C k).rts) = true := by kernel_rfl
theorem slices_Clone_string.ok (k : Nat) : CalOk Try.prog [] (slices_Clone_string.C k) := nil_sound (slices_Clone_string.pok k) (draw_ok (slices_Clone_string.pok k)) (slices_Clone_string.ev0 k) (slices_Clone_string.ev1 k) Try.func28 rfl Try.call28 (slices_Clone_string.chk k)

/-! ### config_clone: function 20, skyway/config.clone: a walk by hand -/
theorem kp_block {w w' : World} {b : Nat} (h : Kp w w' (· ∈ ([] : List Nat))) (hb : b < w.heap.size) : w'.heap[b]? = w.heap[b]? := h.block b hb (by simp)

/-- Positions of the call's own as data: their names become data that is only read. -/
theorem whole_row {M : Mem} {w : World} {base g cap : Nat} {l : List Gp} {hc : Nat → Nat × Nat} (hM : MemOk M w) (hb : ∀ b o v, M b o = some v → b < base) (h : Whole w base l g cap hc) :
    ∃ M', M.le M' ∧ MemOk M' w ∧ (∀ b o u, M' b o = some u → M b o = some u ∨ base ≤ b) ∧ (∀ o, M' g o = none) ∧ RowV M' w (fun x => base ≤ x) 40 (.pair .str (.slice .str)) l (.slice (some ⟨g, 0, none⟩) l.length cap) [g] := by
  classical
  have hMg : ∀ b, base ≤ b → ∀ o, M b o = none := fun b h o => by
    cases e : M b o with
    | none => rfl
    | some v => have := hb b o v e; omega
  obtain ⟨M', hM'⟩ : ∃ M' : Mem, M' = fun b o => if ∃ j, j < l.length ∧ (hc j).1 = b then w.cell? ⟨b, o, none⟩ else M b o := ⟨_, rfl⟩
  have h1 : ∀ b, base ≤ b → (∃ j, j < l.length ∧ (hc j).1 = b) → ∀ o, M' b o = w.cell? ⟨b, o, none⟩ := fun b _ hj o => by rw [hM']; exact if_pos hj
  have h2 : ∀ b, (¬ ∃ j, j < l.length ∧ (hc j).1 = b) → ∀ o, M' b o = M b o := fun b hj o => by rw [hM']; exact if_neg hj
  have hin : ∀ b, (∃ j, j < l.length ∧ (hc j).1 = b) → base ≤ b := by
    rintro b ⟨j, hj, rfl⟩
    exact (h.names j hj).1
  have hle : M.le M' := fun b o v hv o' => h2 b (fun hj => by have := hb b o v hv; have := hin b hj; omega) o'
  have hok : MemOk M' w := fun b o v hv o' => by
    by_cases hj : ∃ j, j < l.length ∧ (hc j).1 = b
    · rw [h1 b (hin b hj) hj]
    · rw [h2 b hj] at hv ⊢
      exact hM b o v hv o'
  have hg : ∀ o, M' g o = none := fun o => by
    rw [h2 g (fun ⟨j, hj, e⟩ => (h.names j hj).2.1 e)]
    exact hMg g h.ge o
  refine ⟨M', hle, hok, fun b o u hu => ?_, hg, some ⟨g, 0, none⟩, cap, rfl, ?_⟩
  · by_cases hj : ∃ j, j < l.length ∧ (hc j).1 = b
    · exact .inr (hin b hj)
    · rw [h2 b hj] at hu; exact .inl hu
  obtain ⟨cur, q1, q2, q3, q4, q5⟩ := h.row
  refine .inr ⟨g, cur, rfl, rfl, h.ge, hg, by simp [Ty.sz], q1, q3, q4, by simpa [Ty.sz] using q2, fun i x hx => ?_⟩
  obtain ⟨hi, rfl⟩ := List.getElem?_eq_some_iff.1 hx
  obtain ⟨q6, q7⟩ := q5 i hi
  have hgd : l.getD i gp0 = l[i] := by simp [List.getD, hi]
  rw [hgd] at q6 q7
  obtain ⟨_, _, hn⟩ := h.names i hi
  rw [hgd] at hn
  obtain ⟨c2, p1, p2, p3, p4, p5⟩ := hn.row
  refine ⟨[.string (l[i]).1, .slice (some ⟨(hc i).1, 0, none⟩) (l[i]).2.length (hc i).2], ?_, fun j u hu => ?_⟩
  · simp only [RepS]
    refine ⟨[.string (l[i]).1], [.slice (some ⟨(hc i).1, 0, none⟩) (l[i]).2.length (hc i).2], rfl, rfl, _, _, rfl, ⟨p3, fun h => by cases h⟩, fun t y hy => ?_⟩
    obtain ⟨ht, rfl⟩ := List.getElem?_eq_some_iff.1 hy
    refine ⟨_, [.string ((l[i]).2[t])], rfl, rfl, rfl, fun s u hu => ?_⟩
    have hs : s = 0 := by have := (List.getElem?_eq_some_iff.1 hu).1; simpa using this
    subst hs
    obtain rfl : Value.string ((l[i]).2[t]) = u := by simpa using hu
    have := p5 t ht
    rw [show (l[i]).2.getD t ByteArray.empty = (l[i]).2[t] by simp [List.getD, ht]] at this
    rw [h1 _ (h.names i hi).1 ⟨i, hi, rfl⟩]
    unfold World.cell?
    rw [p1]
    simpa [Ty.sz] using this
  · have hj : j < 2 := (List.getElem?_eq_some_iff.1 hu).1
    match j, hj with
    | 0, _ => obtain rfl : Value.string (l[i]).1 = u := by simpa using hu
              simpa [Ty.sz] using q6
    | 1, _ => obtain rfl : Value.slice (some ⟨(hc i).1, 0, none⟩) (l[i]).2.length (hc i).2 = u := by simpa using hu
              simpa [Ty.sz] using q7

/-- What the copy of names does. -/
theorem cln_hcl (k : Nat) {M : Mem} {w : World} (hM : MemOk M w) (hG : GlobOk M []) {l : List Gp} {ad : Nat → Option Addr} {cp : Nat → Nat} (hr : ∀ j, j < l.length → RepS M (.slice .str) (l.getD j (ByteArray.empty, [])).2 [.slice (ad j) (l.getD j (ByteArray.empty, [])).2.length (cp j)])
    (hn : ∀ j, j < l.length → 0 < (l.getD j gp0).2.length ∧ (l.getD j gp0).2.length ≤ 1000) (j : Nat) (w1 : World) (hj : j < l.length) (hk : Kept w w1) :
    Calls Try.prog 28 #[.slice (ad j) (l.getD j gp0).2.length (cp j)] w1 fun e w' => ∃ q : Nat × Nat, e = .returned (.slice (some ⟨q.1, 0, none⟩) (l.getD j gp0).2.length q.2) ∧ SecAt w' w1.heap.size (l.getD j gp0).2 q ∧ Kept w1 w' := by
  obtain ⟨h0, h1⟩ := hn j hj
  have hF : (slices_Clone_string.C k).F (l.getD j gp0).2 = some (l.getD j gp0).2 := by
    change slices_Clone_string.F k _ = _
    unfold slices_Clone_string.F
    rw [show Nat.ble ((0 + (l.getD j gp0).2.length) * 16) 140737488355328 = true from Nat.ble_eq_true_of_le (by omega)]
    rfl
  refine ((slices_Clone_string.ok k).run M w1 (l.getD j gp0).2 [.slice (ad j) (l.getD j gp0).2.length (cp j)] [] _ (kept_mem hM hk) hG ⟨_, rfl, rfl, [.slice (ad j) (l.getD j gp0).2.length (cp j)], rfl, fun _ => rfl, hr j hj⟩ List.nodup_nil hF).mono ?_
  rintro e w' ⟨v', M', rfl, hr⟩
  obtain ⟨vs, hs, rfl, _, v2, rfl, us2, rfl, hu, ho⟩ := hr.out
  obtain ⟨e9, v3, he, rfl, hrow⟩ := ho
  obtain rfl : 9 = e9 := by simpa using he
  obtain ⟨A, c, rfl, ⟨_, h2, _⟩ | ⟨g, cur, rfl, _, h3, _, _, h4, h5, h6, h7, h8⟩⟩ := hrow
  · exfalso; rw [h2] at h0; exact absurd h0 (by simp)
  refine ⟨(g, c), rfl, ⟨by simpa using h3, cur, h4, by simpa [Ty.sz] using h7, h5, h6, fun i hi => ?_⟩, kp_kept hr.kp⟩
  obtain ⟨cs, h9, h10⟩ := h8 i ((l.getD j gp0).2.getD i ByteArray.empty) (gD _ _ _ hi)
  simp only [RepS] at h9
  subst h9
  simpa [Ty.sz] using h10 0 _ rfl

noncomputable def config_clone.F (_k : Nat) (a0 : List (ByteArray × List ByteArray)) : Option (List (ByteArray × List ByteArray)) := bif Nat.ble a0.length 1000 && a0.all (fun g => Nat.ble 1 g.2.length && Nat.ble g.2.length 1000) then some a0 else none
noncomputable def config_clone.C (k : Nat) : Cal := ⟨20, [.ro false (.slice (.pair .str (.slice .str)))], [⟨false, .slice (.pair .str (.slice .str)), [40]⟩], fun x => config_clone.F k x⟩
theorem config_clone.ok (k : Nat) : CalOk Try.prog [] (config_clone.C k) := by
  refine ⟨Try.call20, fun M w (x : List Gp) vs gs (r : List Gp) hM hG hA _ hF => ?_⟩
  obtain ⟨v, rfl, rfl, us, rfl, h1, hr⟩ := hA
  change config_clone.F k x = some r at hF
  unfold config_clone.F at hF
  cases hc : (Nat.ble x.length 1000 && x.all (fun g => Nat.ble 1 g.2.length && Nat.ble g.2.length 1000)) with
  | false => rw [hc] at hF; cases hF
  | true =>
  rw [hc] at hF
  obtain rfl : x = r := Option.some.inj hF
  simp only [Bool.and_eq_true, List.all_eq_true] at hc
  obtain ⟨hl, ha⟩ := hc
  have hl := Nat.le_of_ble_eq_true hl
  have hn : ∀ j, j < x.length → 0 < (x.getD j gp0).2.length ∧ (x.getD j gp0).2.length ≤ 1000 := fun j hj => by
    have h2 := ha x[j] (List.getElem_mem hj)
    rw [show x.getD j gp0 = x[j] by simp [List.getD, hj]]
    exact ⟨Nat.le_of_ble_eq_true h2.1, Nat.le_of_ble_eq_true h2.2⟩
  obtain ⟨v, rfl⟩ : ∃ v, us = [v] := by
    match us, h1 rfl with
    | [v], _ => exact ⟨v, rfl⟩
  have hbase : ∀ b o v, M b o = some v → b < w.heap.size := fun b o v h => hM.lt h
  have fin : ∀ (hp : 0 < x.length) {e : Ending} {w' : World}, (∃ v gc, e = .returned v ∧ Copies w' w.heap.size x gc v ∧ Kept w w') → ∃ v M', e = .returned v ∧ RetOk M w [] M' w' (config_clone.C k).rts x v := by
    rintro hp e w' ⟨v, gc, rfl, hcp, hk⟩
    obtain ⟨g, cap, rfl, hw⟩ := hcp.whole hp
    obtain ⟨M', m1, m2, m3, m4, m5⟩ := whole_row (kept_mem hM hk) hbase hw
    have h6 : RowV M' w' (fun g => w.heap.size ≤ g ∨ g ∈ ([] : List Nat)) 40 (.pair .str (.slice .str)) x (.slice (some ⟨g, 0, none⟩) x.length cap) [g] := by
      obtain ⟨A, c, e1, h | ⟨g', cur, e2, e3, e4, e5⟩⟩ := m5
      · exact absurd h.2.2 (by simp)
      · exact ⟨A, c, e1, .inr ⟨g', cur, e2, e3, .inl e4, e5⟩⟩
    exact ⟨_, M', rfl, ⟨m1, m2, kept_kp hk, fun b o u hu => (m3 b o u hu).imp id .inl, [_], [g], rfl, by simp, _, rfl, [_], rfl, fun _ => rfl, 40, _, rfl, rfl, h6⟩⟩
  obtain ⟨A, c, rfl, hz | ⟨b, off, ad, cp, rfl, hg, hrs⟩⟩ := gps_of hM hr
  · have hx : x = [] := List.eq_nil_of_length_eq_zero hz
    subst hx
    refine (clone_none A c w).mono ?_
    rintro e w' ⟨rfl, hk⟩
    exact ⟨_, M, rfl, ⟨Mem.le_refl _, kept_mem hM hk, kept_kp hk, fun _ _ _ h => .inl h, [.slice none 0 0], [], rfl, List.nodup_nil, _, rfl, [.slice none 0 0], rfl, fun _ => rfl, 40, _, rfl, rfl, none, 0, rfl, .inl ⟨rfl, rfl, rfl⟩⟩⟩
  · rcases Nat.eq_zero_or_pos x.length with hz | hp
    · have hx : x = [] := List.eq_nil_of_length_eq_zero hz
      subst hx
      refine (clone_none _ c w).mono ?_
      rintro e w' ⟨rfl, hk⟩
      exact ⟨_, M, rfl, ⟨Mem.le_refl _, kept_mem hM hk, kept_kp hk, fun _ _ _ h => .inl h, [.slice none 0 0], [], rfl, List.nodup_nil, _, rfl, [.slice none 0 0], rfl, fun _ => rfl, 40, _, rfl, rfl, none, 0, rfl, .inl ⟨rfl, rfl, rfl⟩⟩⟩
    exact (clone_walk x b off c ad cp w (cln_hcl k hM hG hrs hn) hg hl fun j hj => (hn j hj).1).mono fun e w' h => fin hp h

/-! ### slices_Delete_api_ConfigGroup: function 21, slices.Delete[[]skyway/api.ConfigGroup,skyway/api.ConfigGroup] -/
noncomputable def slices_Delete_api_ConfigGroup.F (_k : Nat) (a0 : List (ByteArray × List ByteArray)) (a1 : Int) (a2 : Int) : Option (List (ByteArray × List ByteArray)) :=
  bif (decide (0 ≤ a1) && decide (a1 ≤ a2) && decide (a2 ≤ ((a0.length : Nat) : Int)) && decide (((a0.length : Nat) : Int) ≤ ((a0.length : Nat) : Int))) then bif (a1 == a2) then some a0 else bif (decide (0 ≤ a1) && decide (a1 ≤ ((a0.length : Nat) : Int))) then bif (decide (0 ≤ a2) && decide (a2 ≤ ((a0.length : Nat) : Int))) then bif (Nat.ble (a1.toNat + (a0.drop a2.toNat).length) a0.length) then bif (decide (0 ≤ ((((a1.toNat + (a0.drop a2.toNat).length) - 0) : Nat) : Int)) && decide (((((a1.toNat + (a0.drop a2.toNat).length) - 0) : Nat) : Int) ≤ ((a0.length : Nat) : Int)) && decide (((a0.length : Nat) : Int) ≤ ((((a0.take a1.toNat ++ (a0.drop a2.toNat) ++ a0.drop (a1.toNat + (a0.drop a2.toNat).length)).length - 0) : Nat) : Int))) then some (((a0.take a1.toNat ++ (a0.drop a2.toNat) ++ a0.drop (a1.toNat + (a0.drop a2.toNat).length)).take (((((a1.toNat + (a0.drop a2.toNat).length) - 0) : Nat) : Int).toNat) ++ List.replicate (((a0.length : Nat) : Int).toNat - ((((a1.toNat + (a0.drop a2.toNat).length) - 0) : Nat) : Int).toNat) (ByteArray.empty, []) ++ (a0.take a1.toNat ++ (a0.drop a2.toNat) ++ a0.drop (a1.toNat + (a0.drop a2.toNat).length)).drop (((a0.length : Nat) : Int).toNat)).take (a1.toNat + (a0.drop a2.toNat).length)) else none else none else none else none else none
noncomputable def slices_Delete_api_ConfigGroup.C (k : Nat) : Cal := ⟨21, [.mv 40 (.pair (.str) (.slice (.str))), .ro false (.int .i64), .ro false (.int .i64)], [⟨false, .slice (.pair (.str) (.slice (.str))), [40]⟩], fun x => slices_Delete_api_ConfigGroup.F k x.1 x.2.1 x.2.2⟩
noncomputable def slices_Delete_api_ConfigGroup.A : ACode := (.seq (.reg (.op .n .nil)) (.seq (.reg (.op .n (.op .n (.op .n (.op .n (.op (.elem 40 (.pair (.str) (.slice (.str))) 40) (.op (.cut 40 2) .nil))))))) (.seq (.seq (.reg (.op .n (.op .n (.op .n .nil)))) (.cond (.seq (.reg (.op .n (.op .n .nil))) .u) .u)) (.seq (.reg (.op .n (.op (.elem 40 (.pair (.str) (.slice (.str))) 40) (.op .n .nil)))) (.seq (.reg (.op .n (.op .n (.op (.elem 40 (.pair (.str) (.slice (.str))) 40) (.op .n (.op .n (.op (.elem 40 (.pair (.str) (.slice (.str))) 40) (.op (.room 40 (.pair (.str) (.slice (.str))) 40) (.op .n .nil))))))))) (.seq (.reg (.op .n (.op .n (.op (.elem 40 (.pair (.str) (.slice (.str))) 40) (.op .n (.op (.elem 40 (.pair (.str) (.slice (.str))) 40) (.op (.elem 40 (.pair (.str) (.slice (.str))) 40) .nil))))))) (.seq (.reg (.op .n (.op .n .nil))) .u)))))))
noncomputable def slices_Delete_api_ConfigGroup.E (_k : Nat) : Env := ⟨[], [], [], [], [], []⟩
theorem slices_Delete_api_ConfigGroup.ev (k : Nat) (x : DatPs (slices_Delete_api_ConfigGroup.C k).ats) : evalFn (slices_Delete_api_ConfigGroup.E k) k Try.f21 slices_Delete_api_ConfigGroup.A (slices_Delete_api_ConfigGroup.C k).ats (slices_Delete_api_ConfigGroup.C k).rts x = (slices_Delete_api_ConfigGroup.C k).F x := by kernel_rfl
theorem slices_Delete_api_ConfigGroup.pok (k : Nat) : ProgOk Try.prog (slices_Delete_api_ConfigGroup.E k) := ⟨⟨cs_nil, ms_nil, bs_nil, xs_nil⟩, fns_nil, mixed⟩
theorem slices_Delete_api_ConfigGroup.chk (k : Nat) : (chkC Try.prog (slices_Delete_api_ConfigGroup.E k) slices_Delete_api_ConfigGroup.A (Try.f21.body.getD .skip) && chkRes Try.prog Try.f21.results.toList (slices_Delete_api_ConfigGroup.C k).rts) = true := by kernel_rfl
theorem slices_Delete_api_ConfigGroup.ok (k : Nat) : CalOk Try.prog [] (slices_Delete_api_ConfigGroup.C k) := cal_sound (slices_Delete_api_ConfigGroup.pok k) (draw_ok (slices_Delete_api_ConfigGroup.pok k)) (slices_Delete_api_ConfigGroup.ev k) Try.func21 rfl Try.call21 (slices_Delete_api_ConfigGroup.chk k)

/-! ### config_Combine: function 8, skyway/config.Combine: a walk by hand -/
theorem chkS_len (nm : ByteArray → Bool) : ∀ (xs acc : List ByteArray) (pv : Option ByteArray) (a : List ByteArray), chkS nm acc pv xs = .inr a → a = acc ++ xs ∧ (xs ≠ [] → a.length ≤ 12)
  | [], acc, pv, a, h => by
    cases h
    exact ⟨(List.append_nil _).symm, fun h => absurd rfl h⟩
  | s :: r, acc, pv, a, h => by
    unfold chkS at h
    cases h1 : (!nm s) with
    | true => rw [h1] at h; cases h
    | false =>
      rw [h1] at h
      simp only [cond_false] at h
      generalize (mem acc s || _) = b2 at h
      cases b2 with
      | true => cases h
      | false =>
        simp only [cond_false] at h
        cases h3 : Nat.ble 13 (acc.length + 1) with
        | true => rw [h3] at h; cases h
        | false =>
          rw [h3] at h
          obtain ⟨h4, h5⟩ := chkS_len nm r (acc ++ [s]) (some s) a h
          refine ⟨by rw [h4]; simp, fun _ => ?_⟩
          cases r with
          | nil =>
            rw [h4]
            have : ¬ 13 ≤ acc.length + 1 := fun h => by rw [Nat.ble_eq_true_of_le h] at h3; cases h3
            simp
            omega
          | cons a b => exact h5 (by simp)
theorem chkS_inl (nm : ByteArray → Bool) : ∀ (xs acc : List ByteArray) (pv : Option ByteArray) (e : Int), chkS nm acc pv xs = .inl e → e ≠ 0
  | [], acc, pv, e, h => by cases h
  | s :: r, acc, pv, e, h => by
    unfold chkS at h
    cases h1 : (!nm s) with
    | true => rw [h1] at h; cases h; decide
    | false =>
      rw [h1] at h
      simp only [cond_false] at h
      generalize (mem acc s || _) = b2 at h
      cases b2 with
      | true => cases h; decide
      | false =>
        simp only [cond_false] at h
        cases h3 : Nat.ble 13 (acc.length + 1) with
        | true => rw [h3] at h; cases h; decide
        | false => rw [h3] at h; exact chkS_inl nm r _ _ e h
theorem chkG_cons (nm : ByteArray → Bool) (acc : List ByteArray) (pv : Option ByteArray) (p : Gp) (r : List Gp) : chkG nm acc pv (p :: r) = bif !nm p.1 then (3 : Int) else bif (match pv with | some q => leB p.1 q | none => false) then 7 else bif p.2.isEmpty then 8 else chkK nm p.1 r (chkS nm acc none p.2) := by
  rw [chkG.eq_def]
  cases pv <;> rfl
theorem chkG_len (nm : ByteArray → Bool) : ∀ (l : List Gp) (acc : List ByteArray) (pv : Option ByteArray), chkG nm acc pv l = 0 → ∀ g ∈ l, 0 < g.2.length ∧ g.2.length ≤ 12
  | [], _, _, _, _, hg => by cases hg
  | p :: r, acc, pv, h, g, hg => by
    rw [chkG_cons] at h
    cases h1 : (!nm p.1) with
    | true => rw [h1] at h; cases h
    | false =>
      rw [h1] at h
      simp only [cond_false] at h
      revert h
      generalize (match pv with | some q => leB p.1 q | none => false) = b2
      intro h
      cases b2 with
      | true => cases h
      | false =>
        simp only [cond_false] at h
        cases h3 : p.2.isEmpty with
        | true => rw [h3] at h; cases h
        | false =>
          rw [h3] at h
          simp only [cond_false] at h
          cases h4 : chkS nm acc none p.2 with
          | inl e =>
            exfalso
            rw [h4, chkK_inl] at h
            exact chkS_inl nm _ _ _ _ h4 h
          | inr a =>
            rw [h4, chkK_inr] at h
            obtain ⟨h5, h6⟩ := chkS_len nm p.2 acc none a h4
            have hne : p.2 ≠ [] := fun e => by rw [e] at h3; cases h3
            rcases List.mem_cons.1 hg with rfl | hg
            · have := h6 hne
              rw [h5, List.length_append] at this
              exact ⟨List.length_pos_iff.2 hne, by omega⟩
            · exact chkG_len nm r a _ h g hg
theorem chk_len {nm : ByteArray → Bool} {l : List Gp} (h : chk nm l = 0) : l.length ≤ 12 ∧ ∀ j, j < l.length → 0 < (l.getD j gp0).2.length ∧ (l.getD j gp0).2.length ≤ 12 := by
  unfold chk at h
  cases h1 : Nat.ble 13 l.length with
  | true => rw [h1] at h; cases h
  | false =>
    rw [h1] at h
    refine ⟨Nat.le_of_not_lt fun h => (by rw [Nat.ble_eq_true_of_le h] at h1; cases h1), fun j hj => ?_⟩
    rw [show l.getD j gp0 = l[j] by simp [List.getD, hj]]
    exact chkG_len nm l [] none h _ (List.getElem_mem hj)

theorem find_loop (k : Nat) (l : List Gp) (s : ByteArray) (hl : l.length ≤ 12) : ∀ n i : Nat, i ≤ l.length → l.length - i < n → ∃ b, config_find.l0 k l s n i = some b ∧ b < l.length := by
  intro n
  induction n with
  | zero => intro i _ h; omega
  | succ n ih =>
    intro i hi hm
    rw [config_find.l0_succ]
    unfold config_find.l0b
    by_cases hlt : i < l.length
    · rw [decide_eq_true (p := (i : Int) < ((l.length : Nat) : Int)) (by omega), decide_eq_true (p := 0 ≤ (i : Int)) (by omega), show w64 ((i : Int) + 1) = ((i + 1 : Nat) : Int) by rw [w64, IntKind.wrap_i64]; omega]
      simp only [Bool.and_self, cond_true]
      obtain ⟨b, h⟩ := ih (i + 1) (by omega) (by omega)
      cases (((l.getD (i : Int).toNat (ByteArray.empty, [])).1).toList == s.toList) with
      | true => exact ⟨i, rfl, by omega⟩
      | false => exact ⟨b, h⟩
    · rw [decide_eq_false (p := (i : Int) < ((l.length : Nat) : Int)) (by omega)]
      exact ⟨-1, rfl, by omega⟩
theorem find_some (k : Nat) (hk : 20 ≤ k) (l : List Gp) (s : ByteArray) (hl : l.length ≤ 12) : ∃ b, config_find.F k l s = some b ∧ b < l.length := find_loop k l s hl k 0 (by omega) (by omega)

theorem del_eq (k : Nat) (l : List Gp) (j : Nat) (hj : j < l.length) : slices_Delete_api_ConfigGroup.F k l (j : Int) ((j : Int) + 1) = some (l.take j ++ l.drop (j + 1)) := by
  unfold slices_Delete_api_ConfigGroup.F
  have e1 : ((j : Int) + 1).toNat = j + 1 := by omega
  have e0 : (j : Int).toNat = j := by omega
  have hd : (l.drop (j + 1)).length = l.length - (j + 1) := List.length_drop
  have hX : (l.take j ++ l.drop (j + 1)).length = j + (l.drop (j + 1)).length := by rw [List.length_append, List.length_take, Nat.min_eq_left (by omega)]
  rw [e0, e1, decide_eq_true (p := 0 ≤ (j : Int)) (by omega), decide_eq_true (p := (j : Int) ≤ (j : Int) + 1) (by omega), decide_eq_true (p := (j : Int) + 1 ≤ ((l.length : Nat) : Int)) (by omega), decide_eq_true (p := ((l.length : Nat) : Int) ≤ ((l.length : Nat) : Int)) (by omega),
    show ((j : Int) == (j : Int) + 1) = false by simp; omega, decide_eq_true (p := (j : Int) ≤ ((l.length : Nat) : Int)) (by omega), decide_eq_true (p := 0 ≤ (j : Int) + 1) (by omega), Nat.ble_eq_true_of_le (show j + (l.drop (j + 1)).length ≤ l.length by omega)]
  simp only [Bool.and_self, cond_true, cond_false, Nat.sub_zero]
  rw [decide_eq_true (p := 0 ≤ ((j + (l.drop (j + 1)).length : Nat) : Int)) (by omega), decide_eq_true (p := ((j + (l.drop (j + 1)).length : Nat) : Int) ≤ ((l.length : Nat) : Int)) (by omega), decide_eq_true (p := ((l.length : Nat) : Int) ≤ (((l.take j ++ l.drop (j + 1) ++ l.drop (j + (l.drop (j + 1)).length)).length : Nat) : Int)) (by rw [List.length_append, hX, List.length_drop, List.length_drop]; omega)]
  simp only [Bool.and_self, cond_true, Int.toNat_natCast]
  rw [← hX]
  generalize l.take j ++ l.drop (j + 1) = X
  simp [List.append_assoc]
noncomputable def config_Combine.F (k : Nat) (a0 : List (ByteArray × List ByteArray)) (a1 a2 : ByteArray) : Option ((List (ByteArray × List ByteArray)) × Int) :=
  bif Nat.ble 20 k then (config_Check.F k a0).bind fun ec => bif (ec != 0) then some ([], ec) else (config_find.F k a0 a1).bind fun i => (config_find.F k a0 a2).bind fun j => bif (decide (i < 0) || decide (j < 0)) then some ([], 8) else bif (i == j) then some ([], 1) else
    (slices_Delete_api_ConfigGroup.F k (a0.set i.toNat ((a0.getD i.toNat (ByteArray.empty, [])).1, strSort ((a0.getD i.toNat (ByteArray.empty, [])).2 ++ (a0.getD j.toNat (ByteArray.empty, [])).2))) j (j + 1)).bind fun r => some (r, 0) else none
noncomputable def config_Combine.C (k : Nat) : Cal := ⟨8, [.ro false (.slice (.pair .str (.slice .str))), .ro false .str, .ro false .str], [⟨false, .slice (.pair .str (.slice .str)), [40]⟩, ⟨false, .int .i64, []⟩], fun x => config_Combine.F k x.1 x.2.1 x.2.2⟩
theorem config_Combine.ok (k : Nat) : CalOk Try.prog [] (config_Combine.C k) := by
  refine ⟨Try.call8, fun M w (x : List Gp × ByteArray × ByteArray) vs gs (r : List Gp × Int) hM hG hA _ hF => ?_⟩
  obtain ⟨l, to_, from_⟩ := x
  obtain ⟨v1, vs1, g1, g1', rfl, rfl, ⟨rfl, us1, rfl, hu1, hr⟩, v2, vs2, g2, g2', rfl, rfl, ⟨rfl, us2, rfl, hu2, hr2⟩, v3, rfl, ⟨rfl, us3, rfl, hu3, hr3⟩⟩ := hA
  simp only [RepS] at hr2 hr3
  subst hr2 hr3
  obtain ⟨S, rfl⟩ : ∃ v, us1 = [v] := by
    match us1, hu1 rfl with
    | [v], _ => exact ⟨v, rfl⟩
  change RepS M (.slice (.pair .str (.slice .str))) l [S] at hr
  change Calls Try.prog 8 #[S, .string to_, .string from_] w _
  change config_Combine.F k l to_ from_ = some r at hF
  unfold config_Combine.F at hF
  cases hk0 : Nat.ble 20 k with
  | false => rw [hk0] at hF; cases hF
  | true =>
  rw [hk0] at hF
  have hk : 20 ≤ k := Nat.le_of_ble_eq_true hk0
  have hck : config_Check.F k l = some (chk (config_Check.nm k) l) := by
    unfold config_Check.F
    rw [Nat.ble_eq_true_of_le (show 10 ≤ k by omega)]
    rfl
  rw [hck] at hF
  simp only [cond_true, Option.bind_some] at hF
  obtain ⟨ec, hec⟩ : ∃ ec, chk (config_Check.nm k) l = ec := ⟨_, rfl⟩
  rw [hec] at hF hck
  have hl0 : ∀ w', Kept w w' → MemOk M w' := fun w' h => kept_mem hM h
  have hbase : ∀ b o v, M b o = some v → b < w.heap.size := fun b o v h => hM.lt h
  -- what is told of each call
  have hchk : ∀ w', Kept w w' → Calls Try.prog 11 #[S] w' fun e w'' => e = .returned (.int .i64 ec) ∧ Kept w' w'' := fun w' h => by
    refine ((config_Check.ok k).run M w' l [S] [] ec (hl0 w' h) hG ⟨_, rfl, rfl, [S], rfl, fun _ => rfl, hr⟩ List.nodup_nil hck).mono ?_
    rintro e w'' ⟨v', M', rfl, hr⟩
    obtain ⟨vs, hs, rfl, _, v2, rfl, us2, rfl, _, rfl, _⟩ := hr.out
    exact ⟨rfl, kp_kept hr.kp⟩
  have hfs : ec = 0 → ∀ s, ∃ b, config_find.F k l s = some b ∧ b < l.length := fun h s => find_some k hk l s (chk_len (hec.trans h)).1
  have hfd : ec = 0 → ∀ s, config_find.F k l s = some ((config_find.F k l s).getD (-1)) ∧ (config_find.F k l s).getD (-1) < l.length := fun h s => by
    obtain ⟨b, h1, h2⟩ := hfs h s
    rw [h1]
    exact ⟨rfl, h2⟩
  have hfind : ec = 0 → ∀ s w', Kept w w' → Calls Try.prog 19 #[S, .string s] w' fun e w'' => e = .returned (.int .i64 ((config_find.F k l s).getD (-1))) ∧ Kept w' w'' := fun h0 s w' h => by
    refine ((config_find.ok k).run M w' (l, s) [S, .string s] [] _ (hl0 w' h) hG ⟨_, _, [], [], rfl, rfl, ⟨rfl, [S], rfl, fun _ => rfl, hr⟩, _, rfl, rfl, [.string s], rfl, fun _ => rfl, by simp [RepS]⟩ List.nodup_nil (hfd h0 s).1).mono ?_
    rintro e w'' ⟨v', M', rfl, hr⟩
    obtain ⟨vs, hs, rfl, _, v2, rfl, us2, rfl, _, rfl, _⟩ := hr.out
    exact ⟨rfl, kp_kept hr.kp⟩
  have hsort : ∀ xs g c w', xs.length ≤ 24 → Kept w w' → w.heap.size ≤ g → NamesAt w' xs g c → Calls Try.prog 18 #[.slice (some ⟨g, 0, none⟩) xs.length c] w' fun e w'' => e = .returned (.tuple #[]) ∧ NamesAt w'' (strSort xs) g c ∧ (strSort xs).length = xs.length ∧ w'.grownBy w'' (some g) ∧ w'.drawn ≤ w''.drawn := fun xs g c w' hlen h hg hn => by
    have hMg : ∀ o, M g o = none := fun o => by
      cases e : M g o with
      | none => rfl
      | some v => have := hbase g o v e; omega
    obtain ⟨cur, q1, q2, q3, q4, q5⟩ := hn.row
    have hrow : RowV M w' (fun _ => True) 9 .str xs (.slice (some ⟨g, 0, none⟩) xs.length c) [g] := by
      refine ⟨_, c, rfl, .inr ⟨g, cur, rfl, rfl, trivial, hMg, by simp [Ty.sz], q1, q3, q4, by simpa [Ty.sz] using q2, fun i x hx => ?_⟩⟩
      obtain ⟨hi, rfl⟩ := List.getElem?_eq_some_iff.1 hx
      refine ⟨[.string xs[i]], by simp [RepS], fun j u hu => ?_⟩
      have hj : j = 0 := by have := (List.getElem?_eq_some_iff.1 hu).1; simpa using this
      subst hj
      obtain rfl : Value.string xs[i] = u := by simpa using hu
      have := q5 i hi
      rw [show xs.getD i ByteArray.empty = xs[i] by simp [List.getD, hi]] at this
      simpa [Ty.sz] using this
    have hs : strSortO xs = some (strSort xs) := by
      unfold strSortO
      rw [show Nat.blt xs.length 4611686018427387904 = true by simp [Nat.blt]; omega]
      rfl
    refine ((sortS_ok Try.lay18 (gt := []) (e := 9)).run M w' xs () _ [] [g] (strSort xs) (hl0 w' h) hG hrow ⟨rfl, rfl⟩ hs).mono ?_
    rintro e w'' ⟨rfl, h2, h3, A, c', h4, ⟨_, h5, h6⟩ | ⟨g', cur', h5, h6, _, _, _, h7, h8, h9, h10, h11⟩⟩
    · cases h6
    · have h4 : Value.slice (some ⟨g, 0, none⟩) xs.length c = Value.slice A (strSort xs).length c' := h4
      rw [strSort_length] at h4
      cases h4
      obtain rfl : g = g' := by simpa using h6
      refine ⟨rfl, ⟨cur', h7, by have h10 : cur'.size = c * 1 := h10; omega, h8, h9, fun i hi => ?_⟩, strSort_length xs, ⟨h3.os, h3.tape, h3.output, h3.size, fun b hb hb2 => h3.block b hb fun h => ?_⟩, h3.drawn⟩
      · obtain ⟨cs, h12, h13⟩ := h11 i _ (gD (strSort xs) i ByteArray.empty hi)
        have h12 : cs = [.string ((strSort xs).getD i ByteArray.empty)] := h12
        subst h12
        have h13 : cur'[i * 1 + 0]? = _ := h13 0 _ rfl
        rw [Nat.mul_one] at h13
        exact h13
      · simp only [List.mem_singleton] at h
        exact hb2 (by rw [h])
  have hdel : ∀ (i j : Nat) (w' : World) (g cap : Nat) (hc : Nat → Nat × Nat), (config_find.F k l to_).getD (-1) = i → (config_find.F k l from_).getD (-1) = j → i < l.length → j < l.length → i ≠ j → Kept w w' → Whole w' w.heap.size (l.set i ((l.getD i gp0).1, strSort ((l.getD i gp0).2 ++ (l.getD j gp0).2))) g cap hc →
      Calls Try.prog 21 #[.slice (some ⟨g, 0, none⟩) l.length cap, .int .i64 j, .int .i64 (j + 1)] w' fun e w'' => ∃ v', e = .returned v' ∧ (ec = 0 → ∃ M', RetOk M w [] M' w'' (config_Combine.C k).rts r (.tuple #[v', .int .i64 0])) := fun i j w' g cap hc hi hj hil hjl hij h hW => by
    obtain ⟨M1, m1, m2, m3, m4, m5⟩ := whole_row (hl0 w' h) hbase hW
    have hr5 : RowV M1 w' (fun _ => True) 40 (.pair .str (.slice .str)) (l.set i ((l.getD i gp0).1, strSort ((l.getD i gp0).2 ++ (l.getD j gp0).2))) (.slice (some ⟨g, 0, none⟩) l.length cap) [g] := by
      obtain ⟨A, c, e1, h | ⟨g', cur, e2, e3, e4, e5⟩⟩ := m5
      · exact absurd h.2.2 (by simp)
      · exact ⟨A, c, by rw [← e1, List.length_set], .inr ⟨g', cur, e2, e3, trivial, e5⟩⟩
    have hdF : (slices_Delete_api_ConfigGroup.C k).F (l.set i ((l.getD i gp0).1, strSort ((l.getD i gp0).2 ++ (l.getD j gp0).2)), (j : Int), (j : Int) + 1) = some ((l.set i ((l.getD i gp0).1, strSort ((l.getD i gp0).2 ++ (l.getD j gp0).2))).take j ++ (l.set i ((l.getD i gp0).1, strSort ((l.getD i gp0).2 ++ (l.getD j gp0).2))).drop (j + 1)) := del_eq k _ j (by rw [List.length_set]; exact hjl)
    refine ((slices_Delete_api_ConfigGroup.ok k).run M1 w' (l.set i ((l.getD i gp0).1, strSort ((l.getD i gp0).2 ++ (l.getD j gp0).2)), (j : Int), (j : Int) + 1) [.slice (some ⟨g, 0, none⟩) l.length cap, .int .i64 j, .int .i64 ((j : Int) + 1)] [g] _ m2 (fun q c hq => ?_) ⟨_, _, [g], [], rfl, rfl, hr5, _, _, [], [], rfl, rfl, ⟨rfl, [.int .i64 j], rfl, fun _ => rfl, by simp [RepS]⟩, _, rfl, rfl, [.int .i64 ((j : Int) + 1)], rfl, fun _ => rfl, by simp [RepS]⟩ (by simp) hdF).mono ?_
    · cases hq
    rintro e w'' ⟨v', M', rfl, hr⟩
    refine ⟨v', rfl, fun h0 => ⟨M', ?_⟩⟩
    rw [show (ec != 0) = false by simpa using h0, (hfd h0 to_).1, (hfd h0 from_).1, hi, hj] at hF
    simp only [cond_false, Option.bind_some] at hF
    rw [show (decide ((i : Int) < 0) || decide ((j : Int) < 0)) = false by simp, show ((i : Int) == (j : Int)) = false by simp; omega, show (i : Int).toNat = i from rfl, show (j : Int).toNat = j from rfl] at hF
    simp only [cond_false] at hF
    change (((slices_Delete_api_ConfigGroup.C k).F (l.set i ((l.getD i gp0).1, strSort ((l.getD i gp0).2 ++ (l.getD j gp0).2)), (j : Int), (j : Int) + 1)).bind fun r => some (r, 0)) = some r at hF
    rw [hdF] at hF
    obtain rfl := Option.some.inj hF
    have hgw : w.heap.size ≤ g := hW.ge
    refine ⟨Mem.le_trans m1 hr.le, hr.mem, ⟨hr.kp.os.trans h.below.os, hr.kp.tape.trans h.below.tape, hr.kp.output.trans h.below.output, Nat.le_trans h.below.size hr.kp.size, Nat.le_trans h.drawn hr.kp.drawn, fun b hb _ => ?_⟩, fun b o u hu => ?_, ?_⟩
    · rw [hr.kp.block b (Nat.lt_of_lt_of_le hb h.below.size) (by simp only [List.mem_singleton]; omega), h.below.block b hb]
    · rcases hr.new b o u hu with h1 | h1 | h1
      · exact (m3 b o u h1).imp id .inl
      · exact .inr (.inl (Nat.le_trans h.below.size h1))
      · simp only [List.mem_singleton] at h1; exact .inr (.inl (by omega))
    · obtain ⟨vs, hs, hv, hnd, v2, rfl, us2, hv2, hu2, e9, v3, he, rfl, A, c, hrow⟩ := hr.out
      obtain rfl : 40 = e9 := by simpa using he
      obtain rfl : v3 = v' := by rw [hv, hv2]; rfl
      refine ⟨[v3, .int .i64 0], hs, rfl, hnd, v3, [.int .i64 0], hs, [], rfl, by simp, ⟨[v3], rfl, fun _ => rfl, 40, v3, rfl, rfl, A, c, hrow.1, ?_⟩, _, rfl, [.int .i64 0], rfl, fun _ => rfl, rfl, rfl, rfl⟩
      obtain ⟨hv3, ⟨z1, z2, z3⟩ | ⟨g', cur, z1, z2, z3, z4⟩⟩ := hrow
      · exact .inl ⟨z1, z2, z3⟩
      · refine .inr ⟨g', cur, z1, z2, ?_, z4⟩
        rcases z3 with z3 | z3
        · exact .inl (Nat.le_trans h.below.size z3)
        · simp only [List.mem_singleton] at z3; exact .inl (by omega)
  refine (combine_walk S l to_ from_ ec (fun s => (config_find.F k l s).getD (-1)) strSort w (fun v' w'' => ec = 0 → ∃ M', RetOk M w [] M' w'' (config_Combine.C k).rts r (.tuple #[v', .int .i64 0])) (fun h s => (hfd h s).2) (fun h => (chk_len (hec.trans h)).1) (fun h => (chk_len (hec.trans h)).2) hchk hfind hsort hdel ?_).mono ?_
  · intro w' h h0 hp
    obtain ⟨A, c, rfl, hz | ⟨b, off, ad, cp, rfl, hg, hrs⟩⟩ := gps_of hM hr
    · omega
    obtain ⟨hl12, hne⟩ := chk_len (hec.trans h0)
    exact clone_walk l b off c ad cp w' (cln_hcl k (hl0 w' h) hG hrs fun j hj => ⟨(hne j hj).1, Nat.le_trans (hne j hj).2 (by omega)⟩) (hg.kept h) (by omega) fun j hj => (hne j hj).1
  have nil_ret : ∀ {w' : World} {e : Int}, Kept w w' → RetOk M w [] M w' (config_Combine.C k).rts ([], e) (.tuple #[.slice none 0 0, .int .i64 e]) := fun {w' e} hk =>
    ⟨Mem.le_refl _, kept_mem hM hk, kept_kp hk, fun _ _ _ h => .inl h, [.slice none 0 0, .int .i64 e], [], rfl, List.nodup_nil, _, _, [], [], rfl, rfl, ⟨[.slice none 0 0], rfl, fun _ => rfl, 40, _, rfl, rfl, none, 0, rfl, .inl ⟨rfl, rfl, rfl⟩⟩, _, rfl, [.int .i64 e], rfl, fun _ => rfl, rfl, rfl, rfl⟩
  rintro e w' (⟨h0, rfl, hk2⟩ | ⟨h0, h1, rfl, hk2⟩ | ⟨h0, h1, h2, rfl, hk2⟩ | ⟨h0, h1, h2, v', rfl, hfin⟩)
  · rw [show (ec != 0) = true by simpa using h0] at hF
    obtain rfl : ([], ec) = r := Option.some.inj hF
    exact ⟨_, M, rfl, nil_ret hk2⟩
  · rw [show (ec != 0) = false by simpa using h0, (hfd h0 to_).1, (hfd h0 from_).1] at hF
    simp only [cond_false, Option.bind_some] at hF
    rw [show (decide ((config_find.F k l to_).getD (-1) < 0) || decide ((config_find.F k l from_).getD (-1) < 0)) = true by simpa using h1] at hF
    obtain rfl : ([], 8) = r := Option.some.inj hF
    exact ⟨_, M, rfl, nil_ret hk2⟩
  · rw [show (ec != 0) = false by simpa using h0, (hfd h0 to_).1, (hfd h0 from_).1] at hF
    simp only [cond_false, Option.bind_some] at hF
    rw [show (decide ((config_find.F k l to_).getD (-1) < 0) || decide ((config_find.F k l from_).getD (-1) < 0)) = false by simpa using h1, show ((config_find.F k l to_).getD (-1) == (config_find.F k l from_).getD (-1)) = true by simpa using h2] at hF
    obtain rfl : ([], 1) = r := Option.some.inj hF
    exact ⟨_, M, rfl, nil_ret hk2⟩
  · obtain ⟨M', h⟩ := hfin h0
    exact ⟨_, M', rfl, h⟩

/-! ### config_Split: function 9, skyway/config.Split -/
noncomputable def config_Split.l0b (k : Nat) (a0 : List (ByteArray × List ByteArray)) (a3 : List ByteArray) (r2 : Int) (self6 : Int → Option (Unit ⊕ ((List (ByteArray × List ByteArray)) × Int))) (x5 : Int) : Option (Unit ⊕ ((List (ByteArray × List ByteArray)) × Int)) :=
  bif (decide (x5 < ((a3.length : Nat) : Int))) then bif (decide (0 ≤ x5) && decide (x5 < ((a3.length : Nat) : Int))) then bif (decide (0 ≤ r2) && decide (r2 < ((a0.length : Nat) : Int))) then (slices_Contains_string.F k ((a0.getD r2.toNat (ByteArray.empty, [])).2) (a3.getD x5.toNat ByteArray.empty)).bind fun r7 => bif (!r7) then Option.map Sum.inr (some ([], 6)) else self6 (w64 (x5 + 1)) else none else none else some (Sum.inl ())
noncomputable def config_Split.l0 (k : Nat) (a0 : List (ByteArray × List ByteArray)) (a3 : List ByteArray) (r2 : Int) (n : Nat) (x : Int) : Option (Unit ⊕ ((List (ByteArray × List ByteArray)) × Int)) := iterT n (config_Split.l0b k a0 a3 r2) x
theorem config_Split.l0_succ (k : Nat) (a0 : List (ByteArray × List ByteArray)) (a3 : List ByteArray) (r2 : Int) (n : Nat) (x : Int) : config_Split.l0 k a0 a3 r2 (n + 1) x = config_Split.l0b k a0 a3 r2 (fun x => config_Split.l0 k a0 a3 r2 n x) x := rfl
noncomputable def config_Split.l1b (k : Nat) (a0 : List (ByteArray × List ByteArray)) (a3 : List ByteArray) (r2 : Int) (self11 : (Int × (List ByteArray) × List ByteArray) → Option (((List ByteArray) × List ByteArray) ⊕ ((List (ByteArray × List ByteArray)) × Int))) (x10 : Int × (List ByteArray) × List ByteArray) : Option (((List ByteArray) × List ByteArray) ⊕ ((List (ByteArray × List ByteArray)) × Int)) :=
  bif (decide (x10.1 < ((((a0.getD r2.toNat (ByteArray.empty, [])).2).length : Nat) : Int))) then bif (decide (0 ≤ x10.1) && decide (x10.1 < ((((a0.getD r2.toNat (ByteArray.empty, [])).2).length : Nat) : Int))) then (slices_Contains_string.F k a3 (((a0.getD r2.toNat (ByteArray.empty, [])).2).getD x10.1.toNat ByteArray.empty)).bind fun r12 => bif r12 then bif (Nat.ble ((x10.2.2.length + 1) * 16) 140737488355328) then self11 (w64 (x10.1 + 1), x10.2.1, (x10.2.2 ++ [(((a0.getD r2.toNat (ByteArray.empty, [])).2).getD x10.1.toNat ByteArray.empty)])) else none else bif (Nat.ble ((x10.2.1.length + 1) * 16) 140737488355328) then self11 (w64 (x10.1 + 1), (x10.2.1 ++ [(((a0.getD r2.toNat (ByteArray.empty, [])).2).getD x10.1.toNat ByteArray.empty)]), x10.2.2) else none else none else some (Sum.inl (x10.2.1, x10.2.2))
noncomputable def config_Split.l1 (k : Nat) (a0 : List (ByteArray × List ByteArray)) (a3 : List ByteArray) (r2 : Int) (n : Nat) (x : Int × (List ByteArray) × List ByteArray) : Option (((List ByteArray) × List ByteArray) ⊕ ((List (ByteArray × List ByteArray)) × Int)) := iterT n (config_Split.l1b k a0 a3 r2) x
theorem config_Split.l1_succ (k : Nat) (a0 : List (ByteArray × List ByteArray)) (a3 : List ByteArray) (r2 : Int) (n : Nat) (x : Int × (List ByteArray) × List ByteArray) : config_Split.l1 k a0 a3 r2 (n + 1) x = config_Split.l1b k a0 a3 r2 (fun x => config_Split.l1 k a0 a3 r2 n x) x := rfl
noncomputable def config_Split.F (k : Nat) (a0 : List (ByteArray × List ByteArray)) (a1 : ByteArray) (a2 : ByteArray) (a3 : List ByteArray) : Option ((List (ByteArray × List ByteArray)) × Int) :=
  (config_Check.F k a0).bind fun r1 => bif (r1 != 0) then some ([], r1) else (config_find.F k a0 a1).bind fun r2 => bif (decide (r2 < 0)) then some ([], 8) else (sector_Name.F k a2).bind fun r3 => bif (!r3) then some ([], 3) else (config_find.F k a0 a2).bind fun r4 => bif (decide (r4 ≥ 0)) then some ([], 7) else (config_Split.l0 k a0 a3 r2 k 0).bind fun y => match y with | Sum.inl _x8 => (bif (decide (0 ≤ r2) && decide (r2 < ((a0.length : Nat) : Int))) then (config_Split.l1 k a0 a3 r2 k (0, [], [])).bind fun y => match y with | Sum.inl x13 => (bif (((x13.1.length : Nat) : Int) == 0) then some true else some (((x13.2.length : Nat) : Int) == 0)).bind fun b15 => bif b15 then some ([], 11) else (config_clone.F k a0).bind fun r16 => bif (decide (0 ≤ r2) && decide (r2 < ((r16.length : Nat) : Int))) then bif (Nat.ble (((r16.set r2.toNat ((r16.getD r2.toNat (ByteArray.empty, [])).1, x13.1)).length + 1) * 40) 140737488355328) then (sortO (fun a b => config_order_1.F k a b) ((r16.set r2.toNat ((r16.getD r2.toNat (ByteArray.empty, [])).1, x13.1)) ++ [(a2, x13.2)])).bind fun r17 => some (r17, 0) else none else none | Sum.inr y14 => some y14 else none) | Sum.inr y9 => some y9
noncomputable def config_Split.C (k : Nat) : Cal := ⟨9, [.ro false (.slice (.pair (.str) (.slice (.str)))), .ro false (.str), .ro false (.str), .ro false (.slice (.str))], [⟨false, .slice (.pair (.str) (.slice (.str))), [40]⟩, ⟨false, .int .i64, []⟩], fun x => config_Split.F k x.1 x.2.1 x.2.2.1 x.2.2.2⟩
noncomputable def config_Split.A : ACode := (.seq (.reg (.op .n (.op .n .nil))) (.seq (.seq (.reg (.op .n (.op (.pcall 0) (.op .n .nil)))) (.seq (.reg (.op .n (.op .n .nil))) (.cond (.seq (.reg (.op .n (.op .n (.op .n .nil)))) .u) .u))) (.seq (.reg (.op .n (.op .n (.op (.pcall 1) (.op .n .nil))))) (.seq (.seq (.reg (.op .n (.op .n .nil))) (.cond (.seq (.reg (.op .n (.op .n .nil))) .u) .u)) (.seq (.seq (.reg (.op .n (.op (.pcall 2) (.op .n .nil)))) (.cond (.seq (.reg (.op .n (.op .n .nil))) .u) .u)) (.seq (.seq (.reg (.op .n (.op .n (.op (.pcall 1) (.op .n .nil))))) (.cond (.seq (.reg (.op .n (.op .n .nil))) .u) .u)) (.seq (.reg (.op .n (.op .n .nil))) (.seq (.seq (.reg (.op .n (.op (.elem 9 (.str) 16) (.op .n .nil)))) (.join ⟨[], [], [8, 9, 15, 38, 39, 40, 41, 42, 43, 44, 45, 46, 47, 48, 49, 50]⟩ [] (.block (.loop ⟨[⟨.slot 38, false, .int .i64⟩], [], [8, 9, 15, 39, 40, 41, 42, 43, 44, 45, 46, 47, 48, 49, 50]⟩ (.seq (.reg (.op .n .nil)) (.seq (.cond .u .u) (.seq (.block (.seq (.reg (.op (.elem 9 (.str) 16) (.op (.load 1 false) (.op .n .nil)))) (.seq (.reg (.op .n (.op .n (.op (.elem 40 (.pair (.str) (.slice (.str))) 40) (.op (.off 1) (.op (.load 1 false) (.op .n (.op (.pcall 3) (.op .n .nil))))))))) (.cond (.seq (.reg (.op .n (.op .n .nil))) .u) .u)))) (.reg (.op .n (.op .n .nil)))))))))) (.seq (.seq (.reg (.op .n (.op .n (.op (.elem 40 (.pair (.str) (.slice (.str))) 40) (.op (.off 1) (.op (.load 1 false) (.op (.elem 9 (.str) 16) (.op .n .nil)))))))) (.join ⟨[], [⟨9, .str, [.slot 12], false⟩, ⟨9, .str, [.slot 13], false⟩], [17, 57, 58, 59, 60, 61, 62, 63, 64, 65, 66, 67, 68, 69, 70, 71, 72]⟩ [] (.block (.loop ⟨[⟨.slot 57, false, .int .i64⟩], [⟨9, .str, [.slot 12], false⟩, ⟨9, .str, [.slot 13], false⟩], [17, 58, 59, 60, 61, 62, 63, 64, 65, 66, 67, 68, 69, 70, 71, 72]⟩ (.seq (.reg (.op .n .nil)) (.seq (.cond .u .u) (.seq (.block (.seq (.reg (.op (.elem 9 (.str) 16) (.op (.load 1 false) (.op .n .nil)))) (.seq (.reg (.op .n (.op .n (.op (.pcall 3) .nil)))) (.cond (.reg (.op .n (.op .n (.op (.elem 9 (.str) 16) (.op (.elem 9 (.str) 16) (.op .n .nil)))))) (.reg (.op .n (.op .n (.op (.elem 9 (.str) 16) (.op (.elem 9 (.str) 16) (.op .n .nil)))))))))) (.reg (.op .n (.op .n .nil)))))))))) (.seq (.seq (.reg (.op .n (.op (.elem 9 (.str) 16) (.op .n (.op .n (.andor 3 (.op .n (.op (.elem 9 (.str) 16) (.op .n .nil))) .nil)))))) (.cond (.seq (.reg (.op .n (.op .n .nil))) .u) .u)) (.seq (.reg (.op .n (.op (.pcall 4) (.op .n .nil)))) (.seq (.reg (.op .n (.op .n (.op .n (.op (.elem 40 (.pair (.str) (.slice (.str))) 40) (.op (.off 1) (.op (.store 1) .nil))))))) (.seq (.reg (.op .n (.op .n (.op .n (.op (.build [.str ByteArray.empty, .nils] [(0, 1), (1, 1)]) (.op (.elem 40 (.pair (.str) (.slice (.str))) 40) (.op (.elem 40 (.pair (.str) (.slice (.str))) 40) (.op .n .nil)))))))) (.seq (.reg (.op .n (.icall 0 (.reg (.op .n (.op (.mcall 0) .nil))) .nil))) (.seq (.reg (.op .n (.op .n (.op .n .nil)))) .u)))))))))))))))
noncomputable def config_Split.E (k : Nat) : Env := ⟨[config_Check.C k, config_find.C k, sector_Name.C k, slices_Contains_string.C k, config_clone.C k], [], [(24, Try.f24)], [sortCal 31 40 true (.pair (.str) (.slice (.str))) 32 [] (config_order_1.C k).F], [], []⟩
theorem config_Split.ev (k : Nat) (x : DatPs (config_Split.C k).ats) : evalFn (config_Split.E k) k Try.f9 config_Split.A (config_Split.C k).ats (config_Split.C k).rts x = (config_Split.C k).F x := by kernel_rfl
theorem config_Split.pok (k : Nat) : ProgOk Try.prog (config_Split.E k) := ⟨⟨(cs_cons (config_Check.ok k) (cs_cons (config_find.ok k) (cs_cons (sector_Name.ok k) (cs_cons (slices_Contains_string.ok k) (cs_cons (config_clone.ok k) cs_nil))))), (ms_cons (sortK_ok Try.lay31 (e := 40) Try.isAgg40 Try.sizeOf40 (config_order_1.ok k) rfl) ms_nil), bs_nil, xs_nil⟩, (fns_cons Try.func24 Try.call24 fns_nil), mixed⟩
theorem config_Split.chk (k : Nat) : (chkC Try.prog (config_Split.E k) config_Split.A (Try.f9.body.getD .skip) && chkRes Try.prog Try.f9.results.toList (config_Split.C k).rts) = true := by kernel_rfl
theorem config_Split.ok (k : Nat) : CalOk Try.prog [] (config_Split.C k) := cal_sound (config_Split.pok k) (draw_ok (config_Split.pok k)) (config_Split.ev k) Try.func9 rfl Try.call9 (config_Split.chk k)

/-! ### config_Position: function 15, skyway/config.Position -/
noncomputable def config_Position.l0b (k : Nat) (a0 : List (ByteArray × List ByteArray)) (a1 : ByteArray) (self3 : Int → Option (ByteArray × Int)) (x2 : Int) : Option (ByteArray × Int) :=
  bif (decide (x2 < ((a0.length : Nat) : Int))) then bif (decide (0 ≤ x2) && decide (x2 < ((a0.length : Nat) : Int))) then (slices_Contains_string.F k ((a0.getD x2.toNat (ByteArray.empty, [])).2) a1).bind fun r4 => bif r4 then some ((a0.getD x2.toNat (ByteArray.empty, [])).1, 0) else self3 (w64 (x2 + 1)) else none else some ((⟨#[]⟩ : ByteArray), 8)
noncomputable def config_Position.l0 (k : Nat) (a0 : List (ByteArray × List ByteArray)) (a1 : ByteArray) (n : Nat) (x : Int) : Option (ByteArray × Int) := iterT n (config_Position.l0b k a0 a1) x
theorem config_Position.l0_succ (k : Nat) (a0 : List (ByteArray × List ByteArray)) (a1 : ByteArray) (n : Nat) (x : Int) : config_Position.l0 k a0 a1 (n + 1) x = config_Position.l0b k a0 a1 (fun x => config_Position.l0 k a0 a1 n x) x := rfl
noncomputable def config_Position.F (k : Nat) (a0 : List (ByteArray × List ByteArray)) (a1 : ByteArray) : Option (ByteArray × Int) :=
  (config_Check.F k a0).bind fun r1 => bif (r1 != 0) then some ((⟨#[]⟩ : ByteArray), r1) else config_Position.l0 k a0 a1 k 0
noncomputable def config_Position.C (k : Nat) : Cal := ⟨15, [.ro false (.slice (.pair (.str) (.slice (.str)))), .ro false (.str)], [⟨false, .str, []⟩, ⟨false, .int .i64, []⟩], fun x => config_Position.F k x.1 x.2⟩
noncomputable def config_Position.A : ACode := (.seq (.reg (.op .n (.op .n .nil))) (.seq (.seq (.reg (.op .n (.op (.pcall 0) (.op .n .nil)))) (.seq (.reg (.op .n (.op .n .nil))) (.cond (.seq (.reg (.op .n (.op .n (.op .n .nil)))) .u) .u))) (.seq (.seq (.reg (.op .n (.op (.elem 40 (.pair (.str) (.slice (.str))) 40) (.op .n .nil)))) (.block (.loop ⟨[⟨.slot 16, false, .int .i64⟩], [], [4, 5, 8, 17, 18, 19, 20, 21, 22, 23, 24, 25, 26]⟩ (.seq (.reg (.op .n .nil)) (.seq (.cond .u .u) (.seq (.block (.seq (.reg (.op (.elem 40 (.pair (.str) (.slice (.str))) 40) (.op (.load 2 true) (.op (.cells [.str ByteArray.empty, .nils]) (.op (.store 2) .nil))))) (.seq (.reg (.op (.off 1) (.op (.load 1 false) (.op .n (.op (.pcall 1) .nil))))) (.cond (.seq (.reg (.op (.off 0) (.op (.load 1 false) (.op .n (.op .n .nil))))) .u) .u)))) (.reg (.op .n (.op .n .nil))))))))) (.seq (.reg (.op .n (.op .n .nil))) .u))))
noncomputable def config_Position.E (k : Nat) : Env := ⟨[config_Check.C k, slices_Contains_string.C k], [], [], [], [], []⟩
theorem config_Position.ev (k : Nat) (x : DatPs (config_Position.C k).ats) : evalFn (config_Position.E k) k Try.f15 config_Position.A (config_Position.C k).ats (config_Position.C k).rts x = (config_Position.C k).F x := by kernel_rfl
theorem config_Position.pok (k : Nat) : ProgOk Try.prog (config_Position.E k) := ⟨⟨(cs_cons (config_Check.ok k) (cs_cons (slices_Contains_string.ok k) cs_nil)), ms_nil, bs_nil, xs_nil⟩, fns_nil, mixed⟩
theorem config_Position.chk (k : Nat) : (chkC Try.prog (config_Position.E k) config_Position.A (Try.f15.body.getD .skip) && chkRes Try.prog Try.f15.results.toList (config_Position.C k).rts) = true := by kernel_rfl
theorem config_Position.ok (k : Nat) : CalOk Try.prog [] (config_Position.C k) := cal_sound (config_Position.pok k) (draw_ok (config_Position.pok k)) (config_Position.ev k) Try.func15 rfl Try.call15 (config_Position.chk k)

/-! ### config_Names: function 7, skyway/config.Names -/
noncomputable def config_Names.l0b (_k : Nat) (a0 : List (ByteArray × List ByteArray)) (self3 : (Int × List ByteArray) → Option ((List ByteArray) ⊕ ((List ByteArray) × Int))) (x2 : Int × List ByteArray) : Option ((List ByteArray) ⊕ ((List ByteArray) × Int)) :=
  bif (decide (x2.1 < ((a0.length : Nat) : Int))) then bif (decide (0 ≤ x2.1) && decide (x2.1 < ((a0.length : Nat) : Int))) then bif (Nat.ble ((x2.2.length + ((a0.getD x2.1.toNat (ByteArray.empty, [])).2).length) * 16) 140737488355328) then self3 (w64 (x2.1 + 1), (x2.2 ++ (a0.getD x2.1.toNat (ByteArray.empty, [])).2)) else none else none else some (Sum.inl x2.2)
noncomputable def config_Names.l0 (k : Nat) (a0 : List (ByteArray × List ByteArray)) (n : Nat) (x : Int × List ByteArray) : Option ((List ByteArray) ⊕ ((List ByteArray) × Int)) := iterT n (config_Names.l0b k a0) x
theorem config_Names.l0_succ (k : Nat) (a0 : List (ByteArray × List ByteArray)) (n : Nat) (x : Int × List ByteArray) : config_Names.l0 k a0 (n + 1) x = config_Names.l0b k a0 (fun x => config_Names.l0 k a0 n x) x := rfl
noncomputable def config_Names.F (k : Nat) (a0 : List (ByteArray × List ByteArray)) : Option ((List ByteArray) × Int) :=
  (config_Check.F k a0).bind fun r1 => bif (r1 != 0) then some ([], r1) else (config_Names.l0 k a0 k (0, [])).bind fun y => match y with | Sum.inl x4 => (strSortO x4).bind fun r6 => some (r6, 0) | Sum.inr y5 => some y5
noncomputable def config_Names.C (k : Nat) : Cal := ⟨7, [.ro false (.slice (.pair (.str) (.slice (.str))))], [⟨false, .slice (.str), [9]⟩, ⟨false, .int .i64, []⟩], fun x => config_Names.F k x⟩
noncomputable def config_Names.A : ACode := (.seq (.reg (.op .n (.op .n .nil))) (.seq (.seq (.reg (.op .n (.op (.pcall 0) (.op .n .nil)))) (.seq (.reg (.op .n (.op .n .nil))) (.cond (.seq (.reg (.op .n (.op .n (.op .n .nil)))) .u) .u))) (.seq (.reg (.op .n .nil)) (.seq (.seq (.reg (.op .n (.op (.elem 40 (.pair (.str) (.slice (.str))) 40) (.op .n .nil)))) (.join ⟨[], [⟨9, .str, [.slot 5], false⟩], [7, 15, 16, 17, 18, 19, 20, 21, 22, 23]⟩ [] (.block (.loop ⟨[⟨.slot 15, false, .int .i64⟩], [⟨9, .str, [.slot 5], false⟩], [7, 16, 17, 18, 19, 20, 21, 22, 23]⟩ (.seq (.reg (.op .n .nil)) (.seq (.cond .u .u) (.seq (.block (.seq (.reg (.op (.elem 40 (.pair (.str) (.slice (.str))) 40) (.op (.load 2 true) (.op (.cells [.str ByteArray.empty, .nils]) (.op (.store 2) .nil))))) (.reg (.op .n (.op (.off 1) (.op (.load 1 false) (.op (.elem 9 (.str) 16) (.op .n .nil)))))))) (.reg (.op .n (.op .n .nil)))))))))) (.seq (.reg (.op .n (.op (.mcall 0) .nil))) (.seq (.reg (.op .n (.op .n (.op .n .nil)))) .u))))))
noncomputable def config_Names.E (k : Nat) : Env := ⟨[config_Check.C k], [], [], [sortSCal 18 9], [], []⟩
theorem config_Names.ev (k : Nat) (x : DatPs (config_Names.C k).ats) : evalFn (config_Names.E k) k Try.f7 config_Names.A (config_Names.C k).ats (config_Names.C k).rts x = (config_Names.C k).F x := by kernel_rfl
theorem config_Names.pok (k : Nat) : ProgOk Try.prog (config_Names.E k) := ⟨⟨(cs_cons (config_Check.ok k) cs_nil), (ms_cons (sortS_ok Try.lay18) ms_nil), bs_nil, xs_nil⟩, fns_nil, mixed⟩
theorem config_Names.chk (k : Nat) : (chkC Try.prog (config_Names.E k) config_Names.A (Try.f7.body.getD .skip) && chkRes Try.prog Try.f7.results.toList (config_Names.C k).rts) = true := by kernel_rfl
theorem config_Names.ok (k : Nat) : CalOk Try.prog [] (config_Names.C k) := cal_sound (config_Names.pok k) (draw_ok (config_Names.pok k)) (config_Names.ev k) Try.func7 rfl Try.call7 (config_Names.chk k)

/-! ### slices_Equal_string: function 10, slices.Equal[[]string,string] -/
noncomputable def slices_Equal_string.l0b (_k : Nat) (a0 : List ByteArray) (a1 : List ByteArray) (self2 : Int → Option Bool) (x1 : Int) : Option Bool :=
  bif (decide (x1 < ((a0.length : Nat) : Int))) then bif (decide (0 ≤ x1) && decide (x1 < ((a0.length : Nat) : Int))) then bif (decide (0 ≤ x1) && decide (x1 < ((a1.length : Nat) : Int))) then bif (!((a0.getD x1.toNat ByteArray.empty).toList == (a1.getD x1.toNat ByteArray.empty).toList)) then some false else self2 (w64 (x1 + 1)) else none else none else some true
noncomputable def slices_Equal_string.l0 (k : Nat) (a0 : List ByteArray) (a1 : List ByteArray) (n : Nat) (x : Int) : Option Bool := iterT n (slices_Equal_string.l0b k a0 a1) x
theorem slices_Equal_string.l0_succ (k : Nat) (a0 : List ByteArray) (a1 : List ByteArray) (n : Nat) (x : Int) : slices_Equal_string.l0 k a0 a1 (n + 1) x = slices_Equal_string.l0b k a0 a1 (fun x => slices_Equal_string.l0 k a0 a1 n x) x := rfl
noncomputable def slices_Equal_string.F (k : Nat) (a0 : List ByteArray) (a1 : List ByteArray) : Option Bool :=
  bif (((a0.length : Nat) : Int) != ((a1.length : Nat) : Int)) then some false else slices_Equal_string.l0 k a0 a1 k 0
noncomputable def slices_Equal_string.C (k : Nat) : Cal := ⟨10, [.ro false (.slice (.str)), .ro false (.slice (.str))], [⟨false, .bool, []⟩], fun x => slices_Equal_string.F k x.1 x.2⟩
noncomputable def slices_Equal_string.A : ACode := (.seq (.reg (.op .n .nil)) (.seq (.seq (.reg (.op .n (.op (.elem 9 (.str) 16) (.op .n (.op (.elem 9 (.str) 16) (.op .n .nil)))))) (.cond (.seq (.reg (.op .n .nil)) .u) .u)) (.seq (.seq (.reg (.op .n (.op (.elem 9 (.str) 16) (.op .n .nil)))) (.block (.loop ⟨[⟨.slot 13, false, .int .i64⟩], [], [4, 5, 14, 15, 16, 17, 18, 19, 20, 21, 22, 23, 24, 25]⟩ (.seq (.reg (.op .n .nil)) (.seq (.cond .u .u) (.seq (.block (.seq (.reg (.op .n (.op .n .nil))) (.seq (.reg (.op .n (.op .n (.op (.elem 9 (.str) 16) (.op (.load 1 false) (.op .n (.op .n (.op (.elem 9 (.str) 16) (.op (.load 1 false) (.op .n .nil)))))))))) (.cond (.seq (.reg (.op .n .nil)) .u) .u)))) (.reg (.op .n (.op .n .nil))))))))) (.seq (.reg (.op .n .nil)) .u))))
noncomputable def slices_Equal_string.E (_k : Nat) : Env := ⟨[], [], [], [], [], []⟩
theorem slices_Equal_string.ev (k : Nat) (x : DatPs (slices_Equal_string.C k).ats) : evalFn (slices_Equal_string.E k) k Try.f10 slices_Equal_string.A (slices_Equal_string.C k).ats (slices_Equal_string.C k).rts x = (slices_Equal_string.C k).F x := by kernel_rfl
theorem slices_Equal_string.pok (k : Nat) : ProgOk Try.prog (slices_Equal_string.E k) := ⟨⟨cs_nil, ms_nil, bs_nil, xs_nil⟩, fns_nil, mixed⟩
theorem slices_Equal_string.chk (k : Nat) : (chkC Try.prog (slices_Equal_string.E k) slices_Equal_string.A (Try.f10.body.getD .skip) && chkRes Try.prog Try.f10.results.toList (slices_Equal_string.C k).rts) = true := by kernel_rfl
theorem slices_Equal_string.ok (k : Nat) : CalOk Try.prog [] (slices_Equal_string.C k) := cal_sound (slices_Equal_string.pok k) (draw_ok (slices_Equal_string.pok k)) (slices_Equal_string.ev k) Try.func10 rfl Try.call10 (slices_Equal_string.chk k)

/-! ### config_Moves: function 12, skyway/config.Moves -/
noncomputable def config_Moves.l0b (k : Nat) (a0 : List (ByteArray × List ByteArray)) (a1 : List (ByteArray × List ByteArray)) (r1 : (List ByteArray) × Int) (self5 : (Int × List (ByteArray × ByteArray × ByteArray)) → Option ((List (ByteArray × ByteArray × ByteArray)) × Int)) (x4 : Int × List (ByteArray × ByteArray × ByteArray)) : Option ((List (ByteArray × ByteArray × ByteArray)) × Int) :=
  bif (decide (x4.1 < ((r1.1.length : Nat) : Int))) then bif (decide (0 ≤ x4.1) && decide (x4.1 < ((r1.1.length : Nat) : Int))) then (config_Position.F k a0 (r1.1.getD x4.1.toNat ByteArray.empty)).bind fun r6 => (config_Position.F k a1 (r1.1.getD x4.1.toNat ByteArray.empty)).bind fun r7 => bif (!(r6.1.toList == r7.1.toList)) then bif (Nat.ble ((x4.2.length + 1) * 48) 140737488355328) then self5 (w64 (x4.1 + 1), (x4.2 ++ [((r1.1.getD x4.1.toNat ByteArray.empty), (r6.1, r7.1))])) else none else self5 (w64 (x4.1 + 1), x4.2) else none else some (x4.2, 0)
noncomputable def config_Moves.l0 (k : Nat) (a0 : List (ByteArray × List ByteArray)) (a1 : List (ByteArray × List ByteArray)) (r1 : (List ByteArray) × Int) (n : Nat) (x : Int × List (ByteArray × ByteArray × ByteArray)) : Option ((List (ByteArray × ByteArray × ByteArray)) × Int) := iterT n (config_Moves.l0b k a0 a1 r1) x
theorem config_Moves.l0_succ (k : Nat) (a0 : List (ByteArray × List ByteArray)) (a1 : List (ByteArray × List ByteArray)) (r1 : (List ByteArray) × Int) (n : Nat) (x : Int × List (ByteArray × ByteArray × ByteArray)) : config_Moves.l0 k a0 a1 r1 (n + 1) x = config_Moves.l0b k a0 a1 r1 (fun x => config_Moves.l0 k a0 a1 r1 n x) x := rfl
noncomputable def config_Moves.F (k : Nat) (a0 : List (ByteArray × List ByteArray)) (a1 : List (ByteArray × List ByteArray)) : Option ((List (ByteArray × ByteArray × ByteArray)) × Int) :=
  (config_Names.F k a0).bind fun r1 => bif (r1.2 != 0) then some ([], r1.2) else (config_Names.F k a1).bind fun r2 => bif (r2.2 != 0) then some ([], r2.2) else (slices_Equal_string.F k r1.1 r2.1).bind fun r3 => bif (!r3) then some ([], 19) else config_Moves.l0 k a0 a1 r1 k (0, [])
noncomputable def config_Moves.C (k : Nat) : Cal := ⟨12, [.ro false (.slice (.pair (.str) (.slice (.str)))), .ro false (.slice (.pair (.str) (.slice (.str))))], [⟨false, .slice (.pair (.str) (.pair (.str) (.str))), [45]⟩, ⟨false, .int .i64, []⟩], fun x => config_Moves.F k x.1 x.2⟩
noncomputable def config_Moves.A : ACode := (.seq (.reg (.op .n (.op .n .nil))) (.seq (.reg (.op .n (.op (.pcall 0) (.op .n (.op .n (.op .n (.op .n (.op .n .nil)))))))) (.seq (.seq (.reg (.op .n (.op .n .nil))) (.cond (.seq (.reg (.op .n (.op .n (.op .n .nil)))) .u) .u)) (.seq (.reg (.op .n (.op (.pcall 0) (.op .n (.op .n (.op .n (.op .n (.op .n .nil)))))))) (.seq (.seq (.reg (.op .n (.op .n .nil))) (.cond (.seq (.reg (.op .n (.op .n (.op .n .nil)))) .u) .u)) (.seq (.seq (.reg (.op .n (.op .n (.op (.pcall 1) (.op .n .nil))))) (.cond (.seq (.reg (.op .n (.op .n .nil))) .u) .u)) (.seq (.reg (.op .n .nil)) (.seq (.seq (.reg (.op .n (.op (.elem 9 (.str) 16) (.op .n .nil)))) (.block (.loop ⟨[⟨.slot 38, false, .int .i64⟩], [⟨45, .pair (.str) (.pair (.str) (.str)), [.slot 9], false⟩], [11, 12, 13, 14, 15, 39, 40, 41, 42, 43, 44, 45, 46, 47, 48, 49, 50, 51, 52, 53, 54, 55, 56, 57, 58, 59, 60, 61, 62, 63, 64]⟩ (.seq (.reg (.op .n .nil)) (.seq (.cond .u .u) (.seq (.block (.seq (.reg (.op (.elem 9 (.str) 16) (.op (.load 1 false) (.op .n .nil)))) (.seq (.reg (.op .n (.op .n (.op (.pcall 2) (.op .n (.op .n (.op .n (.op .n (.op .n .nil))))))))) (.seq (.reg (.op .n (.op .n (.op (.pcall 2) (.op .n (.op .n (.op .n (.op .n (.op .n .nil))))))))) (.seq (.reg (.op .n (.op .n (.op .n .nil)))) (.cond (.reg (.op .n (.op .n (.op .n (.op .n (.op (.build [.str ByteArray.empty, .str ByteArray.empty, .str ByteArray.empty] [(0, 1), (1, 1), (2, 1)]) (.op (.elem 45 (.pair (.str) (.pair (.str) (.str))) 48) (.op (.elem 45 (.pair (.str) (.pair (.str) (.str))) 48) (.op .n .nil))))))))) .u)))))) (.reg (.op .n (.op .n .nil))))))))) (.seq (.reg (.op .n (.op .n (.op .n .nil)))) .u)))))))))
noncomputable def config_Moves.E (k : Nat) : Env := ⟨[config_Names.C k, slices_Equal_string.C k, config_Position.C k], [], [], [], [], []⟩
theorem config_Moves.ev (k : Nat) (x : DatPs (config_Moves.C k).ats) : evalFn (config_Moves.E k) k Try.f12 config_Moves.A (config_Moves.C k).ats (config_Moves.C k).rts x = (config_Moves.C k).F x := by kernel_rfl
theorem config_Moves.pok (k : Nat) : ProgOk Try.prog (config_Moves.E k) := ⟨⟨(cs_cons (config_Names.ok k) (cs_cons (slices_Equal_string.ok k) (cs_cons (config_Position.ok k) cs_nil))), ms_nil, bs_nil, xs_nil⟩, fns_nil, mixed⟩
theorem config_Moves.chk (k : Nat) : (chkC Try.prog (config_Moves.E k) config_Moves.A (Try.f12.body.getD .skip) && chkRes Try.prog Try.f12.results.toList (config_Moves.C k).rts) = true := by kernel_rfl
theorem config_Moves.ok (k : Nat) : CalOk Try.prog [] (config_Moves.C k) := cal_sound (config_Moves.pok k) (draw_ok (config_Moves.pok k)) (config_Moves.ev k) Try.func12 rfl Try.call12 (config_Moves.chk k)

/-! ### slices_Equal_api_ConfigMove: function 17, slices.Equal[[]skyway/api.ConfigMove,skyway/api.ConfigMove] -/
noncomputable def slices_Equal_api_ConfigMove.l0b (_k : Nat) (a0 : List (ByteArray × ByteArray × ByteArray)) (a1 : List (ByteArray × ByteArray × ByteArray)) (self2 : Int → Option Bool) (x1 : Int) : Option Bool :=
  bif (decide (x1 < ((a0.length : Nat) : Int))) then bif (decide (0 ≤ x1) && decide (x1 < ((a0.length : Nat) : Int))) then bif (decide (0 ≤ x1) && decide (x1 < ((a1.length : Nat) : Int))) then bif (!(((a0.getD x1.toNat (ByteArray.empty, (ByteArray.empty, ByteArray.empty))).1 == (a1.getD x1.toNat (ByteArray.empty, (ByteArray.empty, ByteArray.empty))).1) && ((((a0.getD x1.toNat (ByteArray.empty, (ByteArray.empty, ByteArray.empty))).2).1 == ((a1.getD x1.toNat (ByteArray.empty, (ByteArray.empty, ByteArray.empty))).2).1) && (((a0.getD x1.toNat (ByteArray.empty, (ByteArray.empty, ByteArray.empty))).2).2 == ((a1.getD x1.toNat (ByteArray.empty, (ByteArray.empty, ByteArray.empty))).2).2)))) then some false else self2 (w64 (x1 + 1)) else none else none else some true
noncomputable def slices_Equal_api_ConfigMove.l0 (k : Nat) (a0 : List (ByteArray × ByteArray × ByteArray)) (a1 : List (ByteArray × ByteArray × ByteArray)) (n : Nat) (x : Int) : Option Bool := iterT n (slices_Equal_api_ConfigMove.l0b k a0 a1) x
theorem slices_Equal_api_ConfigMove.l0_succ (k : Nat) (a0 : List (ByteArray × ByteArray × ByteArray)) (a1 : List (ByteArray × ByteArray × ByteArray)) (n : Nat) (x : Int) : slices_Equal_api_ConfigMove.l0 k a0 a1 (n + 1) x = slices_Equal_api_ConfigMove.l0b k a0 a1 (fun x => slices_Equal_api_ConfigMove.l0 k a0 a1 n x) x := rfl
noncomputable def slices_Equal_api_ConfigMove.F (k : Nat) (a0 : List (ByteArray × ByteArray × ByteArray)) (a1 : List (ByteArray × ByteArray × ByteArray)) : Option Bool :=
  bif (((a0.length : Nat) : Int) != ((a1.length : Nat) : Int)) then some false else slices_Equal_api_ConfigMove.l0 k a0 a1 k 0
noncomputable def slices_Equal_api_ConfigMove.C (k : Nat) : Cal := ⟨17, [.ro false (.slice (.pair (.str) (.pair (.str) (.str)))), .ro false (.slice (.pair (.str) (.pair (.str) (.str))))], [⟨false, .bool, []⟩], fun x => slices_Equal_api_ConfigMove.F k x.1 x.2⟩
noncomputable def slices_Equal_api_ConfigMove.A : ACode := (.seq (.reg (.op .n .nil)) (.seq (.seq (.reg (.op .n (.op (.elem 45 (.pair (.str) (.pair (.str) (.str))) 48) (.op .n (.op (.elem 45 (.pair (.str) (.pair (.str) (.str))) 48) (.op .n .nil)))))) (.cond (.seq (.reg (.op .n .nil)) .u) .u)) (.seq (.seq (.reg (.op .n (.op (.elem 45 (.pair (.str) (.pair (.str) (.str))) 48) (.op .n .nil)))) (.block (.loop ⟨[⟨.slot 13, false, .int .i64⟩], [], [4, 5, 14, 15, 16, 17, 18, 19, 20, 21, 22, 23, 24, 25]⟩ (.seq (.reg (.op .n .nil)) (.seq (.cond .u .u) (.seq (.block (.seq (.reg (.op .n (.op .n .nil))) (.seq (.reg (.op .n (.op .n (.op (.elem 45 (.pair (.str) (.pair (.str) (.str))) 48) (.op (.load 3 true) (.op .n (.op .n (.op (.elem 45 (.pair (.str) (.pair (.str) (.str))) 48) (.op (.load 3 true) (.op (.eqs (.pair (.str) (.pair (.str) (.str)))) .nil)))))))))) (.cond (.seq (.reg (.op .n .nil)) .u) .u)))) (.reg (.op .n (.op .n .nil))))))))) (.seq (.reg (.op .n .nil)) .u))))
noncomputable def slices_Equal_api_ConfigMove.E (_k : Nat) : Env := ⟨[], [], [], [], [], []⟩
theorem slices_Equal_api_ConfigMove.ev (k : Nat) (x : DatPs (slices_Equal_api_ConfigMove.C k).ats) : evalFn (slices_Equal_api_ConfigMove.E k) k Try.f17 slices_Equal_api_ConfigMove.A (slices_Equal_api_ConfigMove.C k).ats (slices_Equal_api_ConfigMove.C k).rts x = (slices_Equal_api_ConfigMove.C k).F x := by kernel_rfl
theorem slices_Equal_api_ConfigMove.pok (k : Nat) : ProgOk Try.prog (slices_Equal_api_ConfigMove.E k) := ⟨⟨cs_nil, ms_nil, bs_nil, xs_nil⟩, fns_nil, mixed⟩
theorem slices_Equal_api_ConfigMove.chk (k : Nat) : (chkC Try.prog (slices_Equal_api_ConfigMove.E k) slices_Equal_api_ConfigMove.A (Try.f17.body.getD .skip) && chkRes Try.prog Try.f17.results.toList (slices_Equal_api_ConfigMove.C k).rts) = true := by kernel_rfl
theorem slices_Equal_api_ConfigMove.ok (k : Nat) : CalOk Try.prog [] (slices_Equal_api_ConfigMove.C k) := cal_sound (slices_Equal_api_ConfigMove.pok k) (draw_ok (slices_Equal_api_ConfigMove.pok k)) (slices_Equal_api_ConfigMove.ev k) Try.func17 rfl Try.call17 (slices_Equal_api_ConfigMove.chk k)

/-! ### skywaykeep3_configFact: function 6, skyway/skywaykeep3.configFact -/
noncomputable def skywaykeep3_configFact.F (k : Nat) : Option Bool :=
  (config_Begin.F k [(⟨#[66]⟩ : ByteArray), (⟨#[65]⟩ : ByteArray)]).bind fun r1 => (config_Combine.F k r1.1 (⟨#[65]⟩ : ByteArray) (⟨#[66]⟩ : ByteArray)).bind fun r2 => (config_Split.F k r2.1 (⟨#[65]⟩ : ByteArray) (⟨#[66]⟩ : ByteArray) [(⟨#[66]⟩ : ByteArray)]).bind fun r3 => (config_Position.F k r2.1 (⟨#[66]⟩ : ByteArray)).bind fun r4 => (config_Names.F k r2.1).bind fun r5 => (config_Moves.F k r1.1 r2.1).bind fun r6 => (bif (r1.2 == 0) then some (r2.2 == 0) else some false).bind fun b7 => (bif b7 then some (r3.2 == 0) else some false).bind fun b8 => (bif b8 then some (r4.2 == 0) else some false).bind fun b9 => (bif b9 then some (r5.2 == 0) else some false).bind fun b10 => (bif b10 then some (r6.2 == 0) else some false).bind fun b11 => (bif b11 then some (((r1.1.length : Nat) : Int) == 2) else some false).bind fun b12 => (bif b12 then some (((r2.1.length : Nat) : Int) == 1) else some false).bind fun b13 => (bif b13 then some (((r3.1.length : Nat) : Int) == 2) else some false).bind fun b14 => (bif b14 then bif (decide (0 ≤ 0) && decide (0 < ((r1.1.length : Nat) : Int))) then some (((r1.1.getD 0 (ByteArray.empty, [])).1).toList == (⟨#[65]⟩ : ByteArray).toList) else none else some false).bind fun b15 => (bif b15 then bif (decide (0 ≤ 1) && decide (1 < ((r3.1.length : Nat) : Int))) then some (((r3.1.getD 1 (ByteArray.empty, [])).1).toList == (⟨#[66]⟩ : ByteArray).toList) else none else some false).bind fun b16 => (bif b16 then bif (decide (0 ≤ 0) && decide (0 < ((r2.1.length : Nat) : Int))) then (slices_Equal_string.F k ((r2.1.getD 0 (ByteArray.empty, [])).2) [(⟨#[65]⟩ : ByteArray), (⟨#[66]⟩ : ByteArray)]).bind fun r17 => some r17 else none else some false).bind fun b18 => (bif b18 then some (r4.1.toList == (⟨#[65]⟩ : ByteArray).toList) else some false).bind fun b19 => (bif b19 then (slices_Equal_string.F k r5.1 [(⟨#[65]⟩ : ByteArray), (⟨#[66]⟩ : ByteArray)]).bind fun r20 => some r20 else some false).bind fun b21 => (bif b21 then (slices_Equal_api_ConfigMove.F k r6.1 [((⟨#[66]⟩ : ByteArray), ((⟨#[66]⟩ : ByteArray), (⟨#[65]⟩ : ByteArray)))]).bind fun r22 => some r22 else some false).bind fun b23 => (bif b23 then (config_Check.F k [((⟨#[65]⟩ : ByteArray), [])]).bind fun r24 => some (r24 == 8) else some false).bind fun b25 => some b25
noncomputable def skywaykeep3_configFact.C (k : Nat) : Cal := ⟨6, [], [⟨false, .bool, []⟩], fun _x => skywaykeep3_configFact.F k⟩
noncomputable def skywaykeep3_configFact.A : ACode := (.seq (.reg (.op .n .nil)) (.seq (.reg (.op (.elem 9 (.str) 16) (.op (.pcall 0) (.op .n (.op .n (.op .n (.op .fz (.op .n .nil)))))))) (.seq (.reg (.op .n (.op (.pcall 1) (.op .n (.op .n (.op .n (.op .fz (.op .n .nil)))))))) (.seq (.reg (.op .n (.op (.elem 9 (.str) 16) (.op (.pcall 2) (.op .n (.op .n (.op .n (.op .fz (.op .n .nil))))))))) (.seq (.reg (.op .n (.op (.pcall 3) (.op .n (.op .n (.op .n (.op .n (.op .n .nil)))))))) (.seq (.reg (.op .n (.op (.pcall 4) (.op .n (.op .n (.op .n (.op .fz (.op .n .nil)))))))) (.seq (.reg (.op .n (.op .n (.op (.pcall 5) (.op .n (.op .n (.op .n (.op .fz (.op .n .nil))))))))) (.seq (.reg (.op .n (.op .n (.op .n (.andor 2 (.op .n (.op .n .nil)) (.op .n (.andor 2 (.op .n (.op .n .nil)) (.op .n (.andor 2 (.op .n (.op .n .nil)) (.op .n (.andor 2 (.op .n (.op .n .nil)) (.op .n (.andor 2 (.op .n (.op .n .nil)) (.op .n (.andor 3 (.op .n (.op (.elem 40 (.pair (.str) (.slice (.str))) 40) (.op .n .nil))) (.op .n (.andor 3 (.op .n (.op (.elem 40 (.pair (.str) (.slice (.str))) 40) (.op .n .nil))) (.op .n (.andor 3 (.op .n (.op (.elem 40 (.pair (.str) (.slice (.str))) 40) (.op .n .nil))) (.op .n (.andor 5 (.op .n (.op (.elem 40 (.pair (.str) (.slice (.str))) 40) (.op (.off 0) (.op (.load 1 false) (.op .n .nil))))) (.op .n (.andor 5 (.op .n (.op (.elem 40 (.pair (.str) (.slice (.str))) 40) (.op (.off 0) (.op (.load 1 false) (.op .n .nil))))) (.op .n (.andor 6 (.op .n (.op (.elem 40 (.pair (.str) (.slice (.str))) 40) (.op (.off 1) (.op (.load 1 false) (.op (.elem 9 (.str) 16) (.op (.pcall 6) .nil)))))) (.op .n (.andor 2 (.op .n (.op .n .nil)) (.op .n (.andor 3 (.op .n (.op (.elem 9 (.str) 16) (.op (.pcall 6) .nil))) (.op .n (.andor 4 (.op .n (.op (.build [.str ByteArray.empty, .str ByteArray.empty, .str ByteArray.empty] [(0, 1), (1, 1), (2, 1)]) (.op (.elem 45 (.pair (.str) (.pair (.str) (.str))) 48) (.op (.pcall 7) .nil)))) (.op .n (.andor 4 (.op (.build [.str ByteArray.empty, .nils] [(0, 1), (1, 1)]) (.op (.elem 40 (.pair (.str) (.slice (.str))) 40) (.op (.pcall 8) (.op .n .nil)))) (.op .n .nil)))))))))))))))))))))))))))))))))) .u))))))))
noncomputable def skywaykeep3_configFact.E (k : Nat) : Env := ⟨[config_Begin.C k, config_Combine.C k, config_Split.C k, config_Position.C k, config_Names.C k, config_Moves.C k, slices_Equal_string.C k, slices_Equal_api_ConfigMove.C k, config_Check.C k], [], [], [], [], []⟩
theorem skywaykeep3_configFact.ev (k : Nat) (x : DatPs (skywaykeep3_configFact.C k).ats) : evalFn (skywaykeep3_configFact.E k) k Try.f6 skywaykeep3_configFact.A (skywaykeep3_configFact.C k).ats (skywaykeep3_configFact.C k).rts x = (skywaykeep3_configFact.C k).F x := by kernel_rfl
theorem skywaykeep3_configFact.pok (k : Nat) : ProgOk Try.prog (skywaykeep3_configFact.E k) := ⟨⟨(cs_cons (config_Begin.ok k) (cs_cons (config_Combine.ok k) (cs_cons (config_Split.ok k) (cs_cons (config_Position.ok k) (cs_cons (config_Names.ok k) (cs_cons (config_Moves.ok k) (cs_cons (slices_Equal_string.ok k) (cs_cons (slices_Equal_api_ConfigMove.ok k) (cs_cons (config_Check.ok k) cs_nil))))))))), ms_nil, bs_nil, xs_nil⟩, fns_nil, mixed⟩
theorem skywaykeep3_configFact.chk (k : Nat) : (chkC Try.prog (skywaykeep3_configFact.E k) skywaykeep3_configFact.A (Try.f6.body.getD .skip) && chkRes Try.prog Try.f6.results.toList (skywaykeep3_configFact.C k).rts) = true := by kernel_rfl
theorem skywaykeep3_configFact.ok (k : Nat) : CalOk Try.prog [] (skywaykeep3_configFact.C k) := cal_sound (skywaykeep3_configFact.pok k) (draw_ok (skywaykeep3_configFact.pok k)) (skywaykeep3_configFact.ev k) Try.func6 rfl Try.call6 (skywaykeep3_configFact.chk k)

/-! ### skywaykeep3_ConfigKeeps: function 3, skyway/skywaykeep3.ConfigKeeps -/
noncomputable def skywaykeep3_ConfigKeeps.l0b (k : Nat) (r2 : (List ByteArray) × Int) (r3 : (List (ByteArray × List ByteArray)) × Int) (r4 : (List (ByteArray × List ByteArray)) × Int) (self6 : Int → Option Bool) (x5 : Int) : Option Bool :=
  bif (decide (x5 < 2)) then bif (decide (0 ≤ x5) && decide (x5 < (([r3.1, r4.1].length : Nat) : Int))) then (bif (x5 == 0) then some (r3.2 != 0) else some false).bind fun b7 => (bif b7 then some true else (bif (x5 == 1) then some (r4.2 != 0) else some false).bind fun b8 => some b8).bind fun b9 => bif b9 then self6 (w64 (x5 + 1)) else (config_Names.F k ([r3.1, r4.1].getD x5.toNat [])).bind fun r10 => (bif (r10.2 != 0) then some true else (slices_Equal_string.F k r10.1 r2.1).bind fun r11 => some (!r11)).bind fun b12 => (bif b12 then some true else (config_Check.F k ([r3.1, r4.1].getD x5.toNat [])).bind fun r13 => some (r13 != 0)).bind fun b14 => bif b14 then some false else self6 (w64 (x5 + 1)) else none else some true
noncomputable def skywaykeep3_ConfigKeeps.l0 (k : Nat) (r2 : (List ByteArray) × Int) (r3 : (List (ByteArray × List ByteArray)) × Int) (r4 : (List (ByteArray × List ByteArray)) × Int) (n : Nat) (x : Int) : Option Bool := iterT n (skywaykeep3_ConfigKeeps.l0b k r2 r3 r4) x
theorem skywaykeep3_ConfigKeeps.l0_succ (k : Nat) (r2 : (List ByteArray) × Int) (r3 : (List (ByteArray × List ByteArray)) × Int) (r4 : (List (ByteArray × List ByteArray)) × Int) (n : Nat) (x : Int) : skywaykeep3_ConfigKeeps.l0 k r2 r3 r4 (n + 1) x = skywaykeep3_ConfigKeeps.l0b k r2 r3 r4 (fun x => skywaykeep3_ConfigKeeps.l0 k r2 r3 r4 n x) x := rfl
noncomputable def skywaykeep3_ConfigKeeps.F (k : Nat) (a0 : List (ByteArray × List ByteArray)) (a1 : ByteArray) (a2 : ByteArray) (a3 : List ByteArray) : Option Bool :=
  (skywaykeep3_configFact.F k).bind fun r1 => bif (!r1) then some false else (config_Names.F k a0).bind fun r2 => bif (r2.2 != 0) then some true else (config_Combine.F k a0 a1 a2).bind fun r3 => (config_Split.F k a0 a1 a2 a3).bind fun r4 => skywaykeep3_ConfigKeeps.l0 k r2 r3 r4 k 0
noncomputable def skywaykeep3_ConfigKeeps.C (k : Nat) : Cal := ⟨3, [.ro false (.slice (.pair (.str) (.slice (.str)))), .ro false (.str), .ro false (.str), .ro false (.slice (.str))], [⟨false, .bool, []⟩], fun x => skywaykeep3_ConfigKeeps.F k x.1 x.2.1 x.2.2.1 x.2.2.2⟩
noncomputable def skywaykeep3_ConfigKeeps.A : ACode := (.seq (.reg (.op .n .nil)) (.seq (.seq (.reg (.op (.pcall 0) (.op .n .nil))) (.cond (.seq (.reg (.op .n .nil)) .u) .u)) (.seq (.reg (.op .n (.op (.pcall 1) (.op .n (.op .n (.op .n (.op .n (.op .n .nil)))))))) (.seq (.seq (.reg (.op .n (.op .n .nil))) (.cond (.seq (.reg (.op .n .nil)) .u) .u)) (.seq (.reg (.op .n (.op .n (.op .n (.op (.pcall 2) (.op .n (.op .n (.op .n (.op .n (.op .n .nil)))))))))) (.seq (.reg (.op .n (.op .n (.op .n (.op .n (.op (.pcall 3) (.op .n (.op .n (.op .n (.op .n (.op .n .nil))))))))))) (.seq (.seq (.reg (.op .n (.op .n (.op (.elem 22 (.slice (.pair (.str) (.slice (.str)))) 24) (.op (.elem 22 (.slice (.pair (.str) (.slice (.str)))) 24) (.op .n .nil)))))) (.block (.loop ⟨[⟨.slot 46, false, .int .i64⟩], [], [8, 14, 15, 16, 17, 47, 48, 49, 50, 51, 52, 53, 54, 55, 56, 57, 58, 59, 60, 61, 62, 63, 64, 65, 66, 67, 68, 69, 70, 71, 72, 73, 74, 75, 76, 77, 78, 79, 80, 81, 82, 83]⟩ (.seq (.reg (.op .n .nil)) (.seq (.cond .u .u) (.seq (.block (.seq (.reg (.op .n (.op (.elem 22 (.slice (.pair (.str) (.slice (.str)))) 24) (.op (.load 1 false) (.op .n (.op .n .nil)))))) (.seq (.seq (.reg (.op .n (.op .n (.op .n (.andor 2 (.op .n (.op .n .nil)) (.op .n (.andor 6 (.op .n (.op .n (.op .n (.andor 2 (.op .n (.op .n .nil)) .nil)))) .nil))))))) (.cond .u .u)) (.seq (.reg (.op .n (.op (.pcall 1) (.op .n (.op .n (.op .n (.op .n (.op .n .nil)))))))) (.seq (.reg (.op .n (.op .n (.op .n (.andor 4 (.op .n (.op .n (.op (.pcall 4) (.op .n .nil)))) (.op .n (.andor 3 (.op .n (.op (.pcall 5) (.op .n .nil))) .nil))))))) (.cond (.seq (.reg (.op .n .nil)) .u) .u)))))) (.reg (.op .n (.op .n .nil))))))))) (.seq (.reg (.op .n .nil)) .u))))))))
noncomputable def skywaykeep3_ConfigKeeps.E (k : Nat) : Env := ⟨[skywaykeep3_configFact.C k, config_Names.C k, config_Combine.C k, config_Split.C k, slices_Equal_string.C k, config_Check.C k], [], [], [], [], []⟩
theorem skywaykeep3_ConfigKeeps.ev (k : Nat) (x : DatPs (skywaykeep3_ConfigKeeps.C k).ats) : evalFn (skywaykeep3_ConfigKeeps.E k) k Try.f3 skywaykeep3_ConfigKeeps.A (skywaykeep3_ConfigKeeps.C k).ats (skywaykeep3_ConfigKeeps.C k).rts x = (skywaykeep3_ConfigKeeps.C k).F x := by kernel_rfl
theorem skywaykeep3_ConfigKeeps.pok (k : Nat) : ProgOk Try.prog (skywaykeep3_ConfigKeeps.E k) := ⟨⟨(cs_cons (skywaykeep3_configFact.ok k) (cs_cons (config_Names.ok k) (cs_cons (config_Combine.ok k) (cs_cons (config_Split.ok k) (cs_cons (slices_Equal_string.ok k) (cs_cons (config_Check.ok k) cs_nil)))))), ms_nil, bs_nil, xs_nil⟩, fns_nil, mixed⟩
theorem skywaykeep3_ConfigKeeps.chk (k : Nat) : (chkC Try.prog (skywaykeep3_ConfigKeeps.E k) skywaykeep3_ConfigKeeps.A (Try.f3.body.getD .skip) && chkRes Try.prog Try.f3.results.toList (skywaykeep3_ConfigKeeps.C k).rts) = true := by kernel_rfl
theorem skywaykeep3_ConfigKeeps.ok (k : Nat) : CalOk Try.prog [] (skywaykeep3_ConfigKeeps.C k) := cal_sound (skywaykeep3_ConfigKeeps.pok k) (draw_ok (skywaykeep3_ConfigKeeps.pok k)) (skywaykeep3_ConfigKeeps.ev k) Try.func3 rfl Try.call3 (skywaykeep3_ConfigKeeps.chk k)

/-! ### skywaykeep3_ConfigInverts: function 4, skyway/skywaykeep3.ConfigInverts -/
noncomputable def skywaykeep3_ConfigInverts.l0b (_k : Nat) (a0 : List (ByteArray × List ByteArray)) (a2 : ByteArray) (self11 : Int → Option Int) (x10 : Int) : Option Int :=
  bif (decide (x10 < ((a0.length : Nat) : Int))) then bif (decide (0 ≤ x10) && decide (x10 < ((a0.length : Nat) : Int))) then bif (((a0.getD x10.toNat (ByteArray.empty, [])).1).toList == a2.toList) then some x10 else self11 (w64 (x10 + 1)) else none else some (-1)
noncomputable def skywaykeep3_ConfigInverts.l0 (k : Nat) (a0 : List (ByteArray × List ByteArray)) (a2 : ByteArray) (n : Nat) (x : Int) : Option Int := iterT n (skywaykeep3_ConfigInverts.l0b k a0 a2) x
theorem skywaykeep3_ConfigInverts.l0_succ (k : Nat) (a0 : List (ByteArray × List ByteArray)) (a2 : ByteArray) (n : Nat) (x : Int) : skywaykeep3_ConfigInverts.l0 k a0 a2 (n + 1) x = skywaykeep3_ConfigInverts.l0b k a0 a2 (fun x => skywaykeep3_ConfigInverts.l0 k a0 a2 n x) x := rfl
noncomputable def skywaykeep3_ConfigInverts.F (k : Nat) (a0 : List (ByteArray × List ByteArray)) (a1 : ByteArray) (a2 : ByteArray) (a3 : List ByteArray) : Option Bool :=
  (skywaykeep3_configFact.F k).bind fun r1 => bif (!r1) then some false else (config_Split.F k a0 a1 a2 a3).bind fun r2 => (bif (r2.2 == 0) then (config_Combine.F k r2.1 a1 a2).bind fun r3 => (config_Moves.F k a0 r3.1).bind fun r4 => (bif (r3.2 != 0) then some true else some (r4.2 != 0)).bind fun b5 => (bif b5 then some true else some (decide (((r4.1.length : Nat) : Int) > 0))).bind fun b6 => bif b6 then Option.map Sum.inr (some false) else some (Sum.inl ()) else some (Sum.inl ())).bind fun y => match y with | Sum.inl _x7 => (config_Combine.F k a0 a1 a2).bind fun r9 => bif (r9.2 != 0) then some true else (skywaykeep3_ConfigInverts.l0 k a0 a2 k 0).bind fun x12 => bif (decide (x12 < 0)) then some false else bif (decide (0 ≤ x12) && decide (x12 < ((a0.length : Nat) : Int))) then (config_Split.F k r9.1 a1 a2 ((a0.getD x12.toNat (ByteArray.empty, [])).2)).bind fun r13 => (config_Moves.F k a0 r13.1).bind fun r14 => (bif (r13.2 == 0) then some (r14.2 == 0) else some false).bind fun b15 => (bif b15 then some (((r14.1.length : Nat) : Int) == 0) else some false).bind fun b16 => some b16 else none | Sum.inr y8 => some y8
noncomputable def skywaykeep3_ConfigInverts.C (k : Nat) : Cal := ⟨4, [.ro false (.slice (.pair (.str) (.slice (.str)))), .ro false (.str), .ro false (.str), .ro false (.slice (.str))], [⟨false, .bool, []⟩], fun x => skywaykeep3_ConfigInverts.F k x.1 x.2.1 x.2.2.1 x.2.2.2⟩
noncomputable def skywaykeep3_ConfigInverts.A : ACode := (.seq (.reg (.op .n (.op .n .nil))) (.seq (.seq (.reg (.op (.pcall 0) (.op .n .nil))) (.cond (.seq (.reg (.op .n .nil)) .u) .u)) (.seq (.seq (.reg (.op .n (.op .n (.op (.load 1 false) (.op .n (.op (.pcall 1) (.op .n (.op .n (.op .n (.op .n (.op .n .nil))))))))))) (.seq (.reg (.op .n (.op .n .nil))) (.join ⟨[], [], [8, 11, 12, 13, 14, 34, 35, 36, 37, 38, 39, 40, 41, 42, 43, 44, 45, 46, 47, 48, 49, 50, 51, 52, 53, 54, 55, 56, 57]⟩ [5] (.cond (.seq (.reg (.op .n (.op .n (.op (.load 1 false) (.op (.pcall 2) (.op .n (.op .n (.op .n (.op .n (.op .n .nil)))))))))) (.seq (.reg (.op .n (.op .n (.op (.pcall 3) (.op .n (.op .n (.op .n (.op .n (.op .n .nil))))))))) (.seq (.reg (.op .n (.op .n (.op .n (.andor 2 (.op .n (.op .n .nil)) (.op .n (.andor 3 (.op .n (.op (.elem 45 (.pair (.str) (.pair (.str) (.str))) 48) (.op .n .nil))) .nil))))))) (.cond (.seq (.reg (.op .n .nil)) .u) .u)))) .u)))) (.seq (.reg (.op .n (.op .n (.op (.load 1 false) (.op (.pcall 2) (.op .n (.op .n (.op .n (.op .n (.op .n .nil)))))))))) (.seq (.seq (.reg (.op .n (.op .n .nil))) (.cond (.seq (.reg (.op .n .nil)) .u) .u)) (.seq (.reg (.op .n (.op .n (.ijoin 2 ⟨[⟨.slot 17, false, .int .i64⟩], [], [69]⟩ [] (.icall 1 (.seq (.reg (.op .n .nil)) (.seq (.seq (.reg (.op .n (.op (.elem 40 (.pair (.str) (.slice (.str))) 40) (.op .n .nil)))) (.block (.loop ⟨[⟨.slot 8, false, .int .i64⟩], [], [4, 5, 9, 10, 11, 12, 13, 14, 15, 16, 17, 18]⟩ (.seq (.reg (.op .n .nil)) (.seq (.cond .u .u) (.seq (.block (.seq (.reg (.op .n (.op .n .nil))) (.seq (.reg (.op .n (.op .n (.op .n (.op (.elem 40 (.pair (.str) (.slice (.str))) 40) (.op (.load 2 true) (.icall 0 (.seq (.reg (.op .n (.op .n .nil))) (.seq (.reg (.op (.off 0) (.op (.load 1 false) (.op (.load 1 false) (.op .n (.op .n .nil)))))) .u)) .nil))))))) (.cond (.seq (.reg (.op .n (.op .n .nil))) .u) .u)))) (.reg (.op .n (.op .n .nil))))))))) (.seq (.reg (.op .n .nil)) .u))) (.op .n .nil)) .nil)))) (.seq (.seq (.reg (.op .n (.op .n .nil))) (.cond (.seq (.reg (.op .n .nil)) .u) .u)) (.seq (.reg (.op .n (.op .n (.op (.load 1 false) (.op .n (.op .n (.op (.elem 40 (.pair (.str) (.slice (.str))) 40) (.op (.off 1) (.op (.load 1 false) (.op (.pcall 1) (.op .n (.op .n (.op .n (.op .n (.op .n .nil))))))))))))))) (.seq (.reg (.op .n (.op .n (.op (.pcall 3) (.op .n (.op .n (.op .n (.op .n (.op .n .nil))))))))) (.seq (.reg (.op .n (.op .n (.op .n (.andor 2 (.op .n (.op .n .nil)) (.op .n (.andor 3 (.op .n (.op (.elem 45 (.pair (.str) (.pair (.str) (.str))) 48) (.op .n .nil))) (.op .n .nil)))))))) .u))))))))))
noncomputable def skywaykeep3_ConfigInverts.E (k : Nat) : Env := ⟨[skywaykeep3_configFact.C k, config_Split.C k, config_Combine.C k, config_Moves.C k], [], [(14, Try.f14), (13, Try.f13)], [], [], []⟩
theorem skywaykeep3_ConfigInverts.ev (k : Nat) (x : DatPs (skywaykeep3_ConfigInverts.C k).ats) : evalFn (skywaykeep3_ConfigInverts.E k) k Try.f4 skywaykeep3_ConfigInverts.A (skywaykeep3_ConfigInverts.C k).ats (skywaykeep3_ConfigInverts.C k).rts x = (skywaykeep3_ConfigInverts.C k).F x := by kernel_rfl
theorem skywaykeep3_ConfigInverts.pok (k : Nat) : ProgOk Try.prog (skywaykeep3_ConfigInverts.E k) := ⟨⟨(cs_cons (skywaykeep3_configFact.ok k) (cs_cons (config_Split.ok k) (cs_cons (config_Combine.ok k) (cs_cons (config_Moves.ok k) cs_nil)))), ms_nil, bs_nil, xs_nil⟩, (fns_cons Try.func14 Try.call14 (fns_cons Try.func13 Try.call13 fns_nil)), mixed⟩
theorem skywaykeep3_ConfigInverts.chk (k : Nat) : (chkC Try.prog (skywaykeep3_ConfigInverts.E k) skywaykeep3_ConfigInverts.A (Try.f4.body.getD .skip) && chkRes Try.prog Try.f4.results.toList (skywaykeep3_ConfigInverts.C k).rts) = true := by kernel_rfl
theorem skywaykeep3_ConfigInverts.ok (k : Nat) : CalOk Try.prog [] (skywaykeep3_ConfigInverts.C k) := cal_sound (skywaykeep3_ConfigInverts.pok k) (draw_ok (skywaykeep3_ConfigInverts.pok k)) (skywaykeep3_ConfigInverts.ev k) Try.func4 rfl Try.call4 (skywaykeep3_ConfigInverts.chk k)

/-! ### skywaykeep3_ConfigMovings: function 5, skyway/skywaykeep3.ConfigMovings -/
noncomputable def skywaykeep3_ConfigMovings.l0b (k : Nat) (a0 : List (ByteArray × List ByteArray)) (a1 : List (ByteArray × List ByteArray)) (r2 : (List (ByteArray × ByteArray × ByteArray)) × Int) (r3 : (List (ByteArray × ByteArray × ByteArray)) × Int) (r5 : (List ByteArray) × Int) (self9 : (Int × Int) → Option Bool) (x8 : Int × Int) : Option Bool :=
  bif (decide (x8.2 < ((r5.1.length : Nat) : Int))) then bif (decide (0 ≤ x8.2) && decide (x8.2 < ((r5.1.length : Nat) : Int))) then (config_Position.F k a0 (r5.1.getD x8.2.toNat ByteArray.empty)).bind fun r10 => (config_Position.F k a1 (r5.1.getD x8.2.toNat ByteArray.empty)).bind fun r11 => (bif (r10.2 != 0) then some true else some (r11.2 != 0)).bind fun b12 => bif b12 then some false else bif (r10.1.toList == r11.1.toList) then self9 (x8.1, w64 (x8.2 + 1)) else (bif (x8.1 == ((r2.1.length : Nat) : Int)) then some true else bif (decide (0 ≤ x8.1) && decide (x8.1 < ((r2.1.length : Nat) : Int))) then some (!(((r2.1.getD x8.1.toNat (ByteArray.empty, (ByteArray.empty, ByteArray.empty))).1 == (r5.1.getD x8.2.toNat ByteArray.empty)) && ((((r2.1.getD x8.1.toNat (ByteArray.empty, (ByteArray.empty, ByteArray.empty))).2).1 == r10.1) && (((r2.1.getD x8.1.toNat (ByteArray.empty, (ByteArray.empty, ByteArray.empty))).2).2 == r11.1)))) else none).bind fun b13 => (bif b13 then some true else bif (decide (0 ≤ x8.1) && decide (x8.1 < ((r3.1.length : Nat) : Int))) then some (!(((r3.1.getD x8.1.toNat (ByteArray.empty, (ByteArray.empty, ByteArray.empty))).1 == (r5.1.getD x8.2.toNat ByteArray.empty)) && ((((r3.1.getD x8.1.toNat (ByteArray.empty, (ByteArray.empty, ByteArray.empty))).2).1 == r11.1) && (((r3.1.getD x8.1.toNat (ByteArray.empty, (ByteArray.empty, ByteArray.empty))).2).2 == r10.1)))) else none).bind fun b14 => bif b14 then some false else self9 (w64 (x8.1 + 1), w64 (x8.2 + 1)) else none else some (x8.1 == ((r2.1.length : Nat) : Int))
noncomputable def skywaykeep3_ConfigMovings.l0 (k : Nat) (a0 : List (ByteArray × List ByteArray)) (a1 : List (ByteArray × List ByteArray)) (r2 : (List (ByteArray × ByteArray × ByteArray)) × Int) (r3 : (List (ByteArray × ByteArray × ByteArray)) × Int) (r5 : (List ByteArray) × Int) (n : Nat) (x : Int × Int) : Option Bool := iterT n (skywaykeep3_ConfigMovings.l0b k a0 a1 r2 r3 r5) x
theorem skywaykeep3_ConfigMovings.l0_succ (k : Nat) (a0 : List (ByteArray × List ByteArray)) (a1 : List (ByteArray × List ByteArray)) (r2 : (List (ByteArray × ByteArray × ByteArray)) × Int) (r3 : (List (ByteArray × ByteArray × ByteArray)) × Int) (r5 : (List ByteArray) × Int) (n : Nat) (x : Int × Int) : skywaykeep3_ConfigMovings.l0 k a0 a1 r2 r3 r5 (n + 1) x = skywaykeep3_ConfigMovings.l0b k a0 a1 r2 r3 r5 (fun x => skywaykeep3_ConfigMovings.l0 k a0 a1 r2 r3 r5 n x) x := rfl
noncomputable def skywaykeep3_ConfigMovings.F (k : Nat) (a0 : List (ByteArray × List ByteArray)) (a1 : List (ByteArray × List ByteArray)) : Option Bool :=
  (skywaykeep3_configFact.F k).bind fun r1 => bif (!r1) then some false else (config_Moves.F k a0 a1).bind fun r2 => (config_Moves.F k a1 a0).bind fun r3 => bif (r2.2 != 0) then (bif (r3.2 != 0) then some ((w64 (((r2.1.length : Nat) : Int) + ((r3.1.length : Nat) : Int))) == 0) else some false).bind fun b4 => some b4 else (config_Names.F k a0).bind fun r5 => (bif (r3.2 != 0) then some true else some (r5.2 != 0)).bind fun b6 => (bif b6 then some true else some (((r2.1.length : Nat) : Int) != ((r3.1.length : Nat) : Int))).bind fun b7 => bif b7 then some false else skywaykeep3_ConfigMovings.l0 k a0 a1 r2 r3 r5 k (0, 0)
noncomputable def skywaykeep3_ConfigMovings.C (k : Nat) : Cal := ⟨5, [.ro false (.slice (.pair (.str) (.slice (.str)))), .ro false (.slice (.pair (.str) (.slice (.str))))], [⟨false, .bool, []⟩], fun x => skywaykeep3_ConfigMovings.F k x.1 x.2⟩
noncomputable def skywaykeep3_ConfigMovings.A : ACode := (.seq (.reg (.op .n .nil)) (.seq (.seq (.reg (.op (.pcall 0) (.op .n .nil))) (.cond (.seq (.reg (.op .n .nil)) .u) .u)) (.seq (.reg (.op .n (.op .n (.op (.pcall 1) (.op .n (.op .n (.op .n (.op .n (.op .n .nil))))))))) (.seq (.reg (.op .n (.op .n (.op (.pcall 1) (.op .n (.op .n (.op .n (.op .n (.op .n .nil))))))))) (.seq (.seq (.reg (.op .n (.op .n .nil))) (.cond (.seq (.reg (.op .n (.op .n (.op .n (.andor 6 (.op .n (.op (.elem 45 (.pair (.str) (.pair (.str) (.str))) 48) (.op .n (.op (.elem 45 (.pair (.str) (.pair (.str) (.str))) 48) (.op .n (.op .n .nil)))))) (.op .n .nil)))))) .u) .u)) (.seq (.reg (.op .n (.op (.pcall 2) (.op .n (.op .n (.op .n (.op .n (.op .n .nil)))))))) (.seq (.seq (.reg (.op .n (.op .n (.op .n (.andor 2 (.op .n (.op .n .nil)) (.op .n (.andor 5 (.op .n (.op (.elem 45 (.pair (.str) (.pair (.str) (.str))) 48) (.op .n (.op (.elem 45 (.pair (.str) (.pair (.str) (.str))) 48) (.op .n .nil))))) .nil))))))) (.cond (.seq (.reg (.op .n .nil)) .u) .u)) (.seq (.reg (.op .n .nil)) (.seq (.seq (.reg (.op .n (.op (.elem 9 (.str) 16) (.op .n .nil)))) (.block (.loop ⟨[⟨.slot 11, false, .int .i64⟩, ⟨.slot 64, false, .int .i64⟩], [], [4, 13, 14, 15, 16, 17, 65, 66, 67, 68, 69, 70, 71, 72, 73, 74, 75, 76, 77, 78, 79, 80, 81, 82, 83, 84, 85, 86, 87, 88, 89, 90, 91, 92, 93, 94, 95, 96, 97, 98, 99, 100, 101, 102, 103, 104, 105, 106, 107, 108, 109, 110, 111, 112, 113, 114, 115, 116, 117]⟩ (.seq (.reg (.op .n .nil)) (.seq (.cond .u .u) (.seq (.block (.seq (.reg (.op (.elem 9 (.str) 16) (.op (.load 1 false) (.op .n .nil)))) (.seq (.reg (.op .n (.op .n (.op (.pcall 3) (.op .n (.op .n (.op .n (.op .n (.op .n .nil))))))))) (.seq (.reg (.op .n (.op .n (.op (.pcall 3) (.op .n (.op .n (.op .n (.op .n (.op .n .nil))))))))) (.seq (.seq (.reg (.op .n (.op .n (.op .n (.andor 2 (.op .n (.op .n .nil)) .nil))))) (.cond (.seq (.reg (.op .n .nil)) .u) .u)) (.seq (.seq (.reg (.op .n (.op .n (.op .n .nil)))) (.cond .u .u)) (.seq (.seq (.reg (.op .n (.op .n (.op (.elem 45 (.pair (.str) (.pair (.str) (.str))) 48) (.op .n (.op .n (.andor 9 (.op .n (.op .n (.op (.elem 45 (.pair (.str) (.pair (.str) (.str))) 48) (.op (.load 3 true) (.op .n (.op .n (.op .n (.op (.build [.str ByteArray.empty, .str ByteArray.empty, .str ByteArray.empty] [(0, 1), (1, 1), (2, 1)]) (.op (.eqs (.pair (.str) (.pair (.str) (.str)))) .nil))))))))) (.op .n (.andor 9 (.op .n (.op .n (.op (.elem 45 (.pair (.str) (.pair (.str) (.str))) 48) (.op (.load 3 true) (.op .n (.op .n (.op .n (.op (.build [.str ByteArray.empty, .str ByteArray.empty, .str ByteArray.empty] [(0, 1), (1, 1), (2, 1)]) (.op (.eqs (.pair (.str) (.pair (.str) (.str)))) .nil))))))))) .nil))))))))) (.cond (.seq (.reg (.op .n .nil)) .u) .u)) (.reg (.op .n (.op .n (.op .n .nil))))))))))) (.reg (.op .n (.op .n .nil))))))))) (.seq (.reg (.op .n (.op .n (.op (.elem 45 (.pair (.str) (.pair (.str) (.str))) 48) (.op .n (.op .n .nil)))))) .u))))))))))
noncomputable def skywaykeep3_ConfigMovings.E (k : Nat) : Env := ⟨[skywaykeep3_configFact.C k, config_Moves.C k, config_Names.C k, config_Position.C k], [], [], [], [], []⟩
theorem skywaykeep3_ConfigMovings.ev (k : Nat) (x : DatPs (skywaykeep3_ConfigMovings.C k).ats) : evalFn (skywaykeep3_ConfigMovings.E k) k Try.f5 skywaykeep3_ConfigMovings.A (skywaykeep3_ConfigMovings.C k).ats (skywaykeep3_ConfigMovings.C k).rts x = (skywaykeep3_ConfigMovings.C k).F x := by kernel_rfl
theorem skywaykeep3_ConfigMovings.pok (k : Nat) : ProgOk Try.prog (skywaykeep3_ConfigMovings.E k) := ⟨⟨(cs_cons (skywaykeep3_configFact.ok k) (cs_cons (config_Moves.ok k) (cs_cons (config_Names.ok k) (cs_cons (config_Position.ok k) cs_nil)))), ms_nil, bs_nil, xs_nil⟩, fns_nil, mixed⟩
theorem skywaykeep3_ConfigMovings.chk (k : Nat) : (chkC Try.prog (skywaykeep3_ConfigMovings.E k) skywaykeep3_ConfigMovings.A (Try.f5.body.getD .skip) && chkRes Try.prog Try.f5.results.toList (skywaykeep3_ConfigMovings.C k).rts) = true := by kernel_rfl
theorem skywaykeep3_ConfigMovings.ok (k : Nat) : CalOk Try.prog [] (skywaykeep3_ConfigMovings.C k) := cal_sound (skywaykeep3_ConfigMovings.pok k) (draw_ok (skywaykeep3_ConfigMovings.pok k)) (skywaykeep3_ConfigMovings.ev k) Try.func5 rfl Try.call5 (skywaykeep3_ConfigMovings.chk k)

end Go.Proofs.Ytkcphennphabgaa.RT
