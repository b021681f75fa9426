/-
  Arguments opened: whole numbers.
-/
import Derived.Test.YtejnieoneknbbaaOpen
namespace Go.Proofs.Ytejnieoneknbbaa
open Go.ChangeShapes Go.WideShapes Go.ChangeAt Go.RowKit Go.Deep

theorem open_ints_ {H : Type} {enc : TypeId × Value → H} {w : World} {base : Nat} {spare : Nat → Bool} {held : Bool} {A : Option Addr} {n c : Nat} {d : DataW H} {p : List MemPlace}
    (h : DataW.Trod enc Try.prog w base spare held 40 (.slice A n c) d p) : ∃ l : List Int, l.length = n ∧ n ≤ c ∧ c ≤ maxLen ∧ (∀ a ∈ l, I64 a) ∧ Rd w 1 A n (intC l) :=
  open_intsOf Try.underlying40 Try.underlying3 (by kernel_rfl) h
end Go.Proofs.Ytejnieoneknbbaa
