/-
  Arguments opened: a cache that came in.
-/
import Derived.Test.YtejnieoneknbbaaLnA
import Derived.Test.YtejnieoneknbbaaOpen
namespace Go.Proofs.Ytejnieoneknbbaa
open Go.ChangeShapes Go.WideShapes Go.ChangeAt Go.RowKit Go.Deep

section
variable {H : Type} {enc : TypeId × Value → H} {w : World} {base : Nat} {spare : Nat → Bool} {held : Bool}
theorem ln_elem (n' : Nat) (cs : List Value) (x : DataW H × List MemPlace) (h : DataW.trod enc Try.prog w base spare held n' 79 cs = some x) :
    ∃ f : Ln, cs = Ln.row f ∧ (I64 f.at_ ∧ I64 f.value) := by
  obtain ⟨xs, n, _, _, hlen, hxl, hf⟩ := DataW.trod_struct Try.underlying79 h
  have hc : Try.prog.cellsOf 79 = 3 := by kernel_rfl
  rw [hc] at hlen
  obtain ⟨a, b, c, rfl⟩ := three hlen
  have hx : xs.length = 3 := hxl
  have g0 : DataW.trod enc Try.prog w base spare held n 3 (List.take (Try.prog.cellsOf 3) (List.drop 0 [a, b, c])) = xs[0]? := hf 0 _ rfl
  have g1 : DataW.trod enc Try.prog w base spare held n 3 (List.take (Try.prog.cellsOf 3) (List.drop 1 [a, b, c])) = xs[1]? := hf 1 _ rfl
  have g2 : DataW.trod enc Try.prog w base spare held n 4 (List.take (Try.prog.cellsOf 4) (List.drop 2 [a, b, c])) = xs[2]? := hf 2 _ rfl
  rw [List.getElem?_eq_getElem (by omega)] at g0 g1 g2
  simp only [cells_int, cells_bool, List.drop_zero, List.drop_succ_cons, List.take_succ_cons, List.take_zero] at g0 g1 g2
  obtain ⟨a', ha, _, wa⟩ := DataW.trod_int Try.underlying3 g0
  obtain ⟨b', hb, _, wb⟩ := DataW.trod_int Try.underlying3 g1
  obtain ⟨c', hc', _⟩ := DataW.trod_bool Try.underlying4 g2
  simp only [List.cons.injEq, and_true] at ha hb hc'
  subst ha; subst hb; subst hc'
  exact ⟨⟨a', b', c'⟩, rfl, wf_i64 wa, wf_i64 wb⟩
theorem cells_lines : Try.prog.cellsOf 22 = 1 := by kernel_rfl

theorem open_cache {r : Reach} {b0 : Nat} {v : Value} {d : DataW H} {p : List MemPlace} (hval : Value.okWide Try.prog w r b0 24 v)
    (h : DataW.Trod enc Try.prog w base spare held 24 v d p) :
    ∃ (z : List Ln) (A : Option Addr) (n c : Nat) (m : Int), v = .agg #[.slice A n c, .int .i64 m] ∧ z.length = n ∧ n ≤ c ∧ c ≤ maxLen ∧ (∀ f ∈ z, I64 f.at_ ∧ I64 f.value) ∧ Rd w 3 A n (lnC z) ∧ I64 m := by
  obtain ⟨cs, rfl, _⟩ := okWide_struct Try.underlying24 hval
  obtain ⟨fuel, hf0⟩ := h
  obtain ⟨xs, n, _, _, hlen, hxl, hf⟩ := DataW.trod_struct Try.underlying24 hf0
  have hc : Try.prog.cellsOf 24 = 2 := by kernel_rfl
  rw [hc] at hlen
  obtain ⟨s, b, hs⟩ := two_ hlen
  rw [hs] at hf
  have hx : xs.length = 2 := hxl
  have g0 : DataW.trod enc Try.prog w base spare held n 22 (List.take (Try.prog.cellsOf 22) (List.drop 0 [s, b])) = xs[0]? := hf 0 _ rfl
  have g1 : DataW.trod enc Try.prog w base spare held n 3 (List.take (Try.prog.cellsOf 3) (List.drop 1 [s, b])) = xs[1]? := hf 1 _ rfl
  rw [List.getElem?_eq_getElem (by omega)] at g0 g1
  simp only [cells_int, cells_lines, List.drop_zero, List.drop_succ_cons, List.take_succ_cons, List.take_zero] at g0 g1
  obtain ⟨m, hm, _, wm⟩ := DataW.trod_int Try.underlying3 g1
  simp only [List.cons.injEq, and_true] at hm
  subst hm
  obtain ⟨A, ln, cp, rfl⟩ : ∃ A ln cp, s = .slice A ln cp := by
    rcases open_slice Try.underlying22 g0 with ⟨hcs, _⟩ | ⟨a, len, cap, m, n', D, Pl, hcs, _⟩
    · simp only [List.cons.injEq, and_true] at hcs
      exact ⟨_, _, _, hcs⟩
    · simp only [List.cons.injEq, and_true] at hcs
      exact ⟨_, _, _, hcs⟩
  obtain ⟨l, h1, h2, h3, h4, h5⟩ := open_rowsOf (P := Try.prog) (d := xs[0].1) (p := xs[0].2) Ln.row (fun f : Ln => I64 f.at_ ∧ I64 f.value) 3 (fun _ => rfl) (by omega) Try.underlying22 (by kernel_rfl) ln_elem ⟨n, by simpa [Value.cells] using g0⟩
  refine ⟨l, A, ln, cp, m, ?_, h1, h2, h3, h4, h5, wf_i64 wm⟩
  have : cs = #[.slice A ln cp, .int .i64 m] := by
    apply Array.toList_inj.1
    simpa [Value.cells] using hs
  rw [this]
end
end Go.Proofs.Ytejnieoneknbbaa
