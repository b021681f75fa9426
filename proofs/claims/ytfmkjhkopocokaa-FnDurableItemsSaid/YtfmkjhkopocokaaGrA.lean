/-
  Groups in memory: a slice of slices of numbers, all of the call's own.
-/
import Derived.Test.YtfmkjhkopocokaaItB
import Derived.Test.YtfmkjhkopocokaaApp
import Derived.Test.YtfmkjhkopocokaaPush
namespace Go.Proofs.Ytfmkjhkopocokaa
open Go.ChangeShapes Go.WideShapes Go.ChangeAt Go.RowKit Go.BigFrame

theorem sl_info : (Try.prog.info? 38).map (fun i => (i.zero, i.size, i.bytes)) = some (some (.slice none 0 0), 1, 24) := by kernel_rfl

theorem own_ne {w : World} {B E k n B' E' k' n' : Nat} {v v' : Value} {xs xs' : List Value} (h : w.ownsRow B E k v n xs) (h' : w.ownsRow B' E' k' v' n' xs') (hne : E ≠ E') : v.ownBlock = none ∨ v.ownBlock ≠ v'.ownBlock := by
  rcases h.2 with ⟨rfl, _⟩ | ⟨g, cap, cur, rfl, _, hh, _⟩
  · exact .inl rfl
  · refine .inr ?_
    rcases h'.2 with ⟨rfl, _⟩ | ⟨g', cap', cur', rfl, _, hh', _⟩
    · simp [Value.ownBlock]
    · intro he
      have : g = g' := by simpa [Value.ownBlock] using he
      subst this
      rw [hh] at hh'
      injection hh' with hh'
      injection hh' with _ ht
      exact hne ht

/-- a slice of slices of the call's own: vs are the inner slices -/
structure OwnGs (w : World) (B : Nat) (v : Value) (gs : List (List Int)) (vs : List Value) : Prop where
  len : vs.length = gs.length
  row : w.ownsRow B 38 1 v gs.length vs
  inner : ∀ j (h : j < gs.length) (h' : j < vs.length), w.ownsRow B 3 1 vs[j] gs[j].length (intC gs[j])
  apart : ∀ i j (hi : i < vs.length) (hj : j < vs.length), i ≠ j → ∀ b, vs[i].ownBlock = some b → vs[j].ownBlock ≠ some b

theorem OwnGs.empty (w : World) (B : Nat) : OwnGs w B (.slice none 0 0) [] [] :=
  ⟨rfl, World.ownsRow_nil _ _ _ _, fun j h => absurd h (by simp), fun i j h => absurd h (by simp)⟩
theorem OwnGs.below {w w' : World} {B : Nat} {v : Value} {gs : List (List Int)} {vs : List Value} (h : OwnGs w B v gs vs) (hb : Below w.heap.size w w') : OwnGs w' B v gs vs :=
  ⟨h.len, own_below h.row hb, fun j h1 h2 => own_below (h.inner j h1 h2) hb, h.apart⟩
theorem OwnGs.alloc {w : World} {B : Nat} {v : Value} {gs : List (List Int)} {vs : List Value} (h : OwnGs w B v gs vs) (o : Obj) : OwnGs (w.alloc o) B v gs vs :=
  h.below ((Below.refl _ _).alloc (Nat.le_refl _) o)
theorem OwnGs.base {w : World} {B B' : Nat} {v : Value} {gs : List (List Int)} {vs : List Value} (h : OwnGs w B v gs vs) (hB : B' ≤ B) : OwnGs w B' v gs vs :=
  ⟨h.len, own_base h.row hB, fun j h1 h2 => own_base (h.inner j h1 h2) hB, h.apart⟩
theorem OwnGs.push {w w' : World} {B : Nat} {v v' x : Value} {gs : List (List Int)} {g : List Int} {vs : List Value} (h : OwnGs w B v gs vs) (ho : w'.ownsRow B 38 1 v' (gs.length + 1) (vs ++ [x])) (hg : w.grownBy w' v.ownBlock)
    (hx : w'.ownsRow B 3 1 x g.length (intC g)) (hap : ∀ b, x.ownBlock = some b → ∀ j (hj : j < vs.length), vs[j].ownBlock ≠ some b) : OwnGs w' B v' (gs ++ [g]) (vs ++ [x]) := by
  refine ⟨by simp [h.len], own_eq ho (by simp) rfl, fun j h1 h2 => ?_, fun i j hi hj hne b hb => ?_⟩
  · rcases Nat.lt_or_ge j gs.length with q | q
    · have q' : j < vs.length := by rw [h.len]; exact q
      rw [List.getElem_append_left q, List.getElem_append_left q']
      exact own_other (h.inner j q q') h.row (by decide) hg
    · have e : j = gs.length := by simp at h1; omega
      subst e
      rw [List.getElem_append_right (Nat.le_refl _), List.getElem_append_right (by rw [h.len]; exact Nat.le_refl _)]
      simpa [h.len] using hx
  · simp only [List.length_append, List.length_cons, List.length_nil] at hi hj
    rcases Nat.lt_or_ge i vs.length with q | q
    · rw [List.getElem_append_left q] at hb
      rcases Nat.lt_or_ge j vs.length with q2 | q2
      · rw [List.getElem_append_left q2]; exact h.apart i j q q2 hne b hb
      · have e : j = vs.length := by omega
        subst e
        rw [List.getElem_append_right (Nat.le_refl _)]
        simp only [Nat.sub_self, List.getElem_cons_zero]
        intro he
        exact hap b he i q hb
    · have e : i = vs.length := by omega
      subst e
      rw [List.getElem_append_right (Nat.le_refl _)] at hb
      simp only [Nat.sub_self, List.getElem_cons_zero] at hb
      have q2 : j < vs.length := by omega
      rw [List.getElem_append_left q2]
      exact hap b hb j q2
theorem OwnGs.push_nil {w w' : World} {B : Nat} {v v' : Value} {gs : List (List Int)} {vs : List Value} (h : OwnGs w B v gs vs) (ho : w'.ownsRow B 38 1 v' (gs.length + 1) (vs ++ [.slice none 0 0])) (hg : w.grownBy w' v.ownBlock) :
    OwnGs w' B v' (gs ++ [[]]) (vs ++ [.slice none 0 0]) :=
  h.push ho hg (World.ownsRow_nil _ _ _ _) (fun b hb => by simp [Value.ownBlock] at hb)
/-- the last of the inner slices is written anew -/
theorem OwnGs.setLast {w w' : World} {B b c : Nat} {x x' : Value} {a : List (List Int)} {g g' : List Int} {u : List Value} {m : Nat} (h : OwnGs w B (.slice (some ⟨b, 0, none⟩) m c) (a ++ [g]) (u ++ [x]))
    (ho : w'.ownsRow B 3 1 x' g'.length (intC g')) (hg : w.grownBy w' x.ownBlock) (hf : ∀ k, x'.ownBlock = some k → x.ownBlock = some k ∨ w.heap.size ≤ k) :
    OwnGs (w'.setCell ⟨b, a.length, none⟩ x') B (.slice (some ⟨b, 0, none⟩) m c) (a ++ [g']) (u ++ [x']) := by
  have hu : u.length = a.length := by have := h.len; simpa using this
  have hm : m = a.length + 1 := by
    rcases h.row.2 with ⟨h1, _⟩ | ⟨_, _, _, h1, _⟩
    · cases h1
    · injection h1 with _ h2; simpa using h2
  subst hm
  have hxi := h.inner a.length (by simp) (by simp [hu])
  have hxe : (u ++ [x])[a.length]'(by simp [hu]) = x := by
    rw [List.getElem_append_right (by omega)]; simp [hu]
  rw [hxe] at hxi
  have hrow0 := h.row
  have hrow := own_other hrow0 hxi (by decide) hg
  have hrow' : w'.ownsRow B 38 1 (.slice (some ⟨b, 0, none⟩) (a.length + 1) c) (a.length + 1) (u ++ [x]) := own_eq hrow (by simp) rfl
  have hst := hrow'.stored a.length x'
  have hbx : ∀ {y : Value} {n : Nat} {xs : List Value}, w'.ownsRow B 3 1 y n xs → y.ownBlock ≠ some b := fun hy => by
    rcases own_ne hy hrow' (by decide) with h1 | h1
    · rw [h1]; simp
    · exact h1
  refine ⟨by simp [hu], own_eq hst.1 (by simp) (by rw [← hu]; simp), fun j h1 h2 => ?_, fun i j hi hj hne k hk => ?_⟩
  · rcases Nat.lt_or_ge j a.length with q | q
    · have q' : j < u.length := by omega
      rw [List.getElem_append_left q, List.getElem_append_left q']
      have hj := h.inner j (by simp; omega) (by simp; omega)
      rw [List.getElem_append_left q, List.getElem_append_left q'] at hj
      have hj' : w'.ownsRow B 3 1 u[j] a[j].length (intC a[j]) := hj.kept hg (by
        cases hv : u[j].ownBlock with
        | none => exact .inl rfl
        | some k =>
          right
          intro e
          have := h.apart j a.length (by simp; omega) (by simp [hu]) (by omega) k (by rw [List.getElem_append_left q']; exact hv)
          rw [hxe] at this
          exact this e.symm)
      exact own_set hj' (hbx hj')
    · have e : j = a.length := by simp at h1; omega
      subst e
      have e1 : (a ++ [g'])[a.length]'(by simp) = g' := by rw [List.getElem_append_right (Nat.le_refl _)]; simp
      have e2 : (u ++ [x'])[a.length]'(by simp [hu]) = x' := by rw [List.getElem_append_right (by omega)]; simp [hu]
      rw [e1, e2]
      exact own_set ho (hbx ho)
  · simp only [List.length_append, List.length_cons, List.length_nil] at hi hj
    have hold : ∀ i (hi : i < u.length), ∀ k, x'.ownBlock = some k → u[i].ownBlock ≠ some k := fun i hi k hk he => by
      have hin := h.inner i (by simp; omega) (by simp; omega)
      rw [List.getElem_append_left (show i < a.length by omega), List.getElem_append_left hi] at hin
      rcases hf k hk with h1 | h1
      · have := h.apart i a.length (by simp; omega) (by simp [hu]) (by omega) k (by rw [List.getElem_append_left hi]; exact he)
        rw [hxe] at this
        exact this h1
      · have := (hin.lt k he).2
        omega
    rcases Nat.lt_or_ge i u.length with q | q
    · rw [List.getElem_append_left q] at hk
      rcases Nat.lt_or_ge j u.length with q2 | q2
      · rw [List.getElem_append_left q2]
        have := h.apart i j (by simp; omega) (by simp; omega) hne k (by rw [List.getElem_append_left q]; exact hk)
        rw [List.getElem_append_left q2] at this
        exact this
      · have e : j = u.length := by omega
        subst e
        rw [List.getElem_append_right (Nat.le_refl _)]
        simp only [Nat.sub_self, List.getElem_cons_zero]
        intro he
        exact hold i q k he hk
    · have e : i = u.length := by omega
      subst e
      rw [List.getElem_append_right (Nat.le_refl _)] at hk
      simp only [Nat.sub_self, List.getElem_cons_zero] at hk
      have q2 : j < u.length := by omega
      rw [List.getElem_append_left q2]
      exact hold j q2 k hk

theorem OwnGs.snoc {w : World} {B : Nat} {v : Value} {a : List (List Int)} {g : List Int} {vs : List Value} (h : OwnGs w B v (a ++ [g]) vs) : ∃ u x, vs = u ++ [x] := by
  have := h.len
  rcases List.eq_nil_or_concat vs with e | ⟨u, x, e⟩
  · subst e; simp at this
  · exact ⟨u, x, by rw [e]; simp⟩
theorem OwnGs.last {w : World} {B : Nat} {v x : Value} {a : List (List Int)} {g : List Int} {u : List Value} (h : OwnGs w B v (a ++ [g]) (u ++ [x])) :
    w.ownsRow B 3 1 x g.length (intC g) ∧ ∃ b c, v = .slice (some ⟨b, 0, none⟩) (a.length + 1) c ∧ B ≤ b ∧ b < w.heap.size ∧ w.cell? ⟨b, a.length, none⟩ = some x ∧ w.frozen? ⟨b, a.length, none⟩ = false := by
  have hu : u.length = a.length := by have := h.len; simpa using this
  have hx := h.inner a.length (by simp) (by simp [hu])
  have e1 : (a ++ [g])[a.length]'(by simp) = g := by rw [List.getElem_append_right (Nat.le_refl _)]; simp
  have e2 : (u ++ [x])[a.length]'(by simp [hu]) = x := by rw [List.getElem_append_right (by omega)]; simp [hu]
  rw [e1, e2] at hx
  have hrow : w.ownsRow B 38 1 v (a.length + 1) (u ++ [x]) := own_eq h.row (by simp) rfl
  obtain ⟨b, c, e, hB, hlt⟩ := hrow.form (by omega)
  subst e
  refine ⟨hx, b, c, rfl, hB, hlt, ?_, hrow.frozenAt _⟩
  rw [hrow.cellAt a.length (by omega), ← hu]
  simp

/-- the slice of slices reads as gs -/
def RdG (w : World) (A : Option Addr) (n : Nat) (gs : List (List Int)) : Prop :=
  gs.length = n ∧ ∃ vs : List Value, Rd w 1 A n vs ∧ ∀ j (hj : j < gs.length), ∃ Aj cj, vs[j]? = some (.slice Aj gs[j].length cj) ∧ gs[j].length ≤ cj ∧ cj ≤ maxLen ∧ Rd w 1 Aj gs[j].length (intC gs[j])
theorem RdG.below {w w' : World} {A : Option Addr} {n : Nat} {gs : List (List Int)} (h : RdG w A n gs) (hb : Below w.heap.size w w') : RdG w' A n gs := by
  obtain ⟨h0, vs, h1, h2⟩ := h
  refine ⟨h0, vs, h1.below hb, fun j hj => ?_⟩
  obtain ⟨Aj, cj, h3, h4, h5, h6⟩ := h2 j hj
  exact ⟨Aj, cj, h3, h4, h5, h6.below hb⟩
theorem RdG.alloc {w : World} {A : Option Addr} {n : Nat} {gs : List (List Int)} (h : RdG w A n gs) (o : Obj) : RdG (w.alloc o) A n gs := h.below ((Below.refl _ _).alloc (Nat.le_refl _) o)
theorem RdG.at {w : World} {A : Option Addr} {n : Nat} {gs : List (List Int)} (h : RdG w A n gs) (j : Nat) (hj : j < gs.length) :
    ∃ b o Aj cj, A = some ⟨b, o, none⟩ ∧ w.cell? ⟨b, o + j, none⟩ = some (.slice Aj gs[j].length cj) ∧ gs[j].length ≤ cj ∧ cj ≤ maxLen ∧ Rd w 1 Aj gs[j].length (intC gs[j]) := by
  obtain ⟨h0, vs, h1, h2⟩ := h
  obtain ⟨Aj, cj, h3, h4, h5, h6⟩ := h2 j hj
  obtain ⟨b, o, e, hc⟩ := h1.2 (by omega)
  exact ⟨b, o, Aj, cj, e, hc j _ h3, h4, h5, h6⟩
theorem OwnGs.rd {w : World} {B c : Nat} {A : Option Addr} {gs : List (List Int)} {vs : List Value} {n : Nat} (h : OwnGs w B (.slice A n c) gs vs) : RdG w A gs.length gs := by
  have hn : n = gs.length := by
    rcases h.row.2 with ⟨h1, h2⟩ | ⟨_, _, _, h1, _⟩
    · injection h1 with _ h3; omega
    · injection h1
  subst hn
  refine ⟨rfl, vs, own_rd h.row, fun j hj => ?_⟩
  have hj' : j < vs.length := by rw [h.len]; exact hj
  have hi := h.inner j hj hj'
  obtain ⟨Aj, cj, e, h1, h2⟩ := own_shape hi
  rw [e] at hi
  exact ⟨Aj, cj, by rw [List.getElem?_eq_getElem hj', e], h1, h2, own_rd hi⟩

/-- The result is a slice of slices of the call's own. -/
def RGl (w : World) (gs : List (List Int)) (e : Ending) (w' : World) : Prop :=
  ∃ A c vs, e = .returned (.slice A gs.length c) ∧ gs.length ≤ c ∧ c ≤ maxLen ∧ OwnGs w' w.heap.size (.slice A gs.length c) gs vs ∧ Below w.heap.size w w'
theorem RGl.of_own {w w' : World} {v : Value} {gs gs' : List (List Int)} {vs : List Value} (h : OwnGs w' w.heap.size v gs vs) (hb : Below w.heap.size w w') (hgs : gs = gs') : RGl w gs' (.returned v) w' := by
  subst hgs
  obtain ⟨A, c, rfl, h1, h2⟩ := own_shape h.row
  exact ⟨A, c, vs, rfl, h1, h2, h, hb⟩
end Go.Proofs.Ytfmkjhkopocokaa
