/-
  The small functions over []int of the laws' package.
-/
import Derived.Test.YtmcpkoogcglomaaBase
namespace Go.Proofs.Ytmcpkoogcglomaa
open Go.ChangeShapes Go.WideShapes Go.ChangeAt Go.RowKit Go.BigFrame

theorem set1_get (xs ys : List Value) (m : Nat) (a : Value) (hx : m < xs.length) (h : ∀ j, j < m → xs[j]? = ys[j]?) (h0 : ys[m]? = some a) :
    ∀ j, j < m + 1 → (xs.set m a)[j]? = ys[j]? := by
  intro j hj
  by_cases e : j = m
  · subst e; rw [List.getElem?_set_self hx, h0]
  · rw [List.getElem?_set_ne (by omega)]; exact h j (by omega)

theorem all_get (xs ys : List Value) (m : Nat) (hx : xs.length = m) (hy : ys.length = m) (h : ∀ j, j < m → xs[j]? = ys[j]?) : xs = ys := by
  apply List.ext_getElem?
  intro j
  by_cases hj : j < m
  · exact h j hj
  · rw [List.getElem?_eq_none (by omega), List.getElem?_eq_none (by omega)]


/-- n marks from K on -/
def marksI (K : Int) (n : Nat) : List Int := (List.range n).map fun (i : Nat) => K + (i : Int)
theorem marksI_length (K : Int) (n : Nat) : (marksI K n).length = n := by simp [marksI]
theorem marksI_get (K : Int) (n i : Nat) (h : i < n) : (intC (marksI K n))[i]? = some (.int .i64 (K + i)) := by
  simp [intC, marksI, h]




/-- a row stays while a younger, or an older, one is written -/
theorem own_mark_older {w w' : World} {B E k n B' E' k' n' C : Nat} {v v' : Value} {xs xs' : List Value} (h : w.ownsRow B E k v n xs) (hl : ∀ g, v.ownBlock = some g → g < C) (h' : w.ownsRow B' E' k' v' n' xs') (hCB : C ≤ B') (hg : w.grownBy w' v'.ownBlock) : w'.ownsRow B E k v n xs := by
  refine h.kept hg ?_
  cases hv : v.ownBlock with
  | none => exact .inl rfl
  | some g =>
    refine .inr (fun e => ?_)
    have h1 := hl g hv
    have h2 := (h'.lt g e.symm).1
    omega
theorem own_mark_newer {w w' : World} {B E k n C' : Nat} {v v' : Value} {xs : List Value} (h : w.ownsRow B E k v n xs) (hl : ∀ g, v'.ownBlock = some g → g < C') (hCB : C' ≤ B) (hg : w.grownBy w' v'.ownBlock) : w'.ownsRow B E k v n xs := by
  refine h.kept hg ?_
  cases hv : v.ownBlock with
  | none => exact .inl rfl
  | some g =>
    refine .inr (fun e => ?_)
    have h1 := hl g e.symm
    have h2 := (h.lt g hv).1
    omega
theorem own_other {w w' : World} {B E k n B' E' k' n' : Nat} {v v' : Value} {xs xs' : List Value} (h : w.ownsRow B E k v n xs) (h' : w.ownsRow B' E' k' v' n' xs') (hne : E ≠ E') (hg : w.grownBy w' v'.ownBlock) : w'.ownsRow B E k v n xs := by
  refine h.kept hg ?_
  rcases h.2 with ⟨rfl, _⟩ | ⟨g, cap, cur, rfl, _, hh, _⟩
  · exact .inl rfl
  · refine .inr ?_
    rcases h'.2 with ⟨rfl, _⟩ | ⟨g', cap', cur', rfl, _, hh', _⟩
    · simp [Value.ownBlock]
    · intro he
      have : g = g' := by simpa [Value.ownBlock] using he
      subst this
      rw [hh] at hh'
      injection hh' with hh'
      injection hh' with _ ht
      exact hne ht
end Go.Proofs.Ytmcpkoogcglomaa
