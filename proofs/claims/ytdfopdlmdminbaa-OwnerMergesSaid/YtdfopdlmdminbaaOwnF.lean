/- What is proved here: the flights of one that is responsible. It asks nothing. -/
import Derived.Test.YtdfopdlmdminbaaOmT
import Derived.Test.YtdfopdlmdminbaaPlA
import Derived.Test.YtdfopdlmdminbaaStrA
import Derived.Test.YtdfopdlmdminbaaNameA
import Derived.Test.YtdfopdlmdminbaaOwnA
namespace Go.Proofs.Ytdfopdlmdminbaa.RT
open Go Go.R

attribute [local irreducible] owner_Check.F

/-- The flights of one that is responsible. -/
def fls (b : ByteArray) (l : List Oe) : List ByteArray := (l.filter fun e => decide (e.2.1 = b)).map (·.1)

theorem fls_length (b : ByteArray) (l : List Oe) : (fls b l).length = l.countP fun e => decide (e.2.1 = b) := by
  unfold fls; rw [List.length_map, List.countP_eq_length_filter]

theorem fls_cons (b : ByteArray) (e : Oe) (l : List Oe) : fls b (e :: l) = if e.2.1 = b then e.1 :: fls b l else fls b l := by
  unfold fls
  by_cases h : e.2.1 = b
  · rw [if_pos h, List.filter_cons_of_pos (by simpa using h), List.map_cons]
  · rw [if_neg h, List.filter_cons_of_neg (by simpa using h)]

theorem flights_loop (k : Nat) (l : List Oe) (hl : l.length ≤ 24) (b : ByteArray) : ∀ (n i : Nat) (a : List ByteArray), i ≤ l.length → l.length - i < n → a.length ≤ i → owner_Flights.l0 k l b n (i, a) = some (a ++ fls b (l.drop i), 0) := by
  intro n
  induction n with
  | zero => intro i _ _ h; omega
  | succ n ih =>
    intro i a hi hm ha
    rw [owner_Flights.l0_succ]
    unfold owner_Flights.l0b
    dsimp only
    by_cases hlt : i < l.length
    · rw [decide_eq_true (p := (i : Int) < ((l.length : Nat) : Int)) (by omega), decide_eq_true (p := 0 ≤ (i : Int)) (by omega)]
      simp only [Bool.and_self, cond_true, getD_nat, oe_eq]
      rw [bytes_eq, w64_id (n := (i : Int) + 1) (by omega) (by omega), drop_cons hlt (ByteArray.empty, (ByteArray.empty, ByteArray.empty)), fls_cons, oe_eq]
      by_cases h : (oe l i).2.1 = b
      · rw [decide_eq_true h, if_pos h, cond_pos rfl, cond_pos (Nat.ble_eq_true_of_le (by omega))]
        have := ih (i + 1) (a ++ [(oe l i).1]) (by omega) (by omega) (by simp; omega)
        rw [List.append_assoc, List.singleton_append] at this
        exact this
      · rw [decide_eq_false h, if_neg h]
        exact ih (i + 1) a (by omega) (by omega) (by omega)
    · rw [decide_eq_false (p := (i : Int) < ((l.length : Nat) : Int)) (by omega), List.drop_eq_nil_of_le (by omega)]
      simp [fls]

theorem flights_eq (k : Nat) (hk : 100 ≤ k) (l : List Oe) (h : OwOk k l) (b : ByteArray) : owner_Flights.F k l b = some (fls b l, 0) := by
  unfold owner_Flights.F
  have hl := h.1
  rw [ocheck_ok k hk l h]
  have := flights_loop k l hl b k 0 [] (by omega) (by omega) (by simp)
  rw [show ((0 : Nat) : Int) = 0 from rfl, List.drop_zero, List.nil_append] at this
  exact this

end Go.Proofs.Ytdfopdlmdminbaa.RT
