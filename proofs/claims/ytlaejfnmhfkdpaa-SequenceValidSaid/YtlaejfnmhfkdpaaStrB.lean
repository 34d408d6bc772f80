/- What is proved here: a number and then a text tell an order. It asks nothing. -/
import Derived.Test.YtlaejfnmhfkdpaaSqT
import Derived.Test.YtlaejfnmhfkdpaaStrA
namespace Go.Proofs.Ytlaejfnmhfkdpaa.RT
open Go Go.R

theorem iscmp_ok {α : Type} (f : α → Int) (g : α → ByteArray) : CmpOk fun x y => iscmp (f x) (g x) (f y) (g y) where
  neg x y := iscmp_neg _ _ _ _
  trans x y z h1 h2 := by
    rw [iscmp_lt] at *
    rcases h1 with h1 | ⟨e1, h1⟩
    · rcases h2 with h2 | ⟨e2, _⟩ <;> exact .inl (by omega)
    · rcases h2 with h2 | ⟨e2, h2⟩
      · exact .inl (by omega)
      · exact .inr ⟨by omega, scmp_trans h1 h2⟩
  ntrans x y z h1 h2 := by
    rw [iscmp_ge] at *
    rcases h1 with h1 | ⟨e1, h1⟩
    · rcases h2 with h2 | ⟨e2, _⟩ <;> exact .inl (by omega)
    · rcases h2 with h2 | ⟨e2, h2⟩
      · exact .inl (by omega)
      · exact .inr ⟨by omega, scmp_ntrans h1 h2⟩

end Go.Proofs.Ytlaejfnmhfkdpaa.RT
