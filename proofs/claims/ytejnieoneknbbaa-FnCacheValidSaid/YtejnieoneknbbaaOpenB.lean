/-
  Arguments opened: bytes.
-/
import Derived.Test.YtejnieoneknbbaaOpen
import Derived.Test.YtejnieoneknbbaaDraw
namespace Go.Proofs.Ytejnieoneknbbaa
open Go.ChangeShapes Go.WideShapes Go.ChangeAt Go.RowKit Go.Deep

theorem flat_one {α : Type} (f : α → Value) (l : List α) : l.flatMap (fun x => [f x]) = l.map f := by
  induction l with
  | nil => rfl
  | cons a r ih => rw [List.flatMap_cons, ih]; rfl

section
variable {H : Type} {enc : TypeId × Value → H} {w : World} {base : Nat} {spare : Nat → Bool} {held : Bool}
theorem open_bytes {A : Option Addr} {n c : Nat} {d : DataW H} {p : List MemPlace}
    (h : DataW.Trod enc Try.prog w base spare held 33 (.slice A n c) d p) : ∃ l : List Int, l.length = n ∧ n ≤ c ∧ c ≤ maxLen ∧ True ∧ Bys w w.heap.size A n := by
  obtain ⟨l, h1, h2, h3, h4, h5⟩ := open_rowsOf (fun x : Int => [Value.int .u8 x]) (fun x => 0 ≤ x ∧ x ≤ 255) 1 (fun _ => rfl) (by omega) Try.underlying33 (by kernel_rfl) (fun n' cs x hx => by
    obtain ⟨z, rfl, _, hw⟩ := DataW.trod_int Try.underlying5 hx
    exact ⟨z, rfl, by simpa [Lit.wf, IntKind.min, IntKind.max, IntKind.signed, IntKind.bits] using hw⟩) h
  refine ⟨l, h1, h2, h3, trivial, fun hn => ?_⟩
  obtain ⟨b, o, e, hc⟩ := h5.2 hn
  rw [flat_one] at hc
  have hc' : ∀ j (hj : j < n), w.cell? ⟨b, o + j, none⟩ = some (.int .u8 (l[j]'(by omega))) := fun j hj => hc j _ (by simp [h1 ▸ hj])
  exact ⟨b, o, e, cell_lt (hc' 0 hn), fun j hj => ⟨l[j]'(by omega), (h4 _ (List.getElem_mem _)).1, (h4 _ (List.getElem_mem _)).2, hc' j hj⟩⟩
end
end Go.Proofs.Ytejnieoneknbbaa
