/-
  Groups in memory: comparing, marking.
-/
import Derived.Test.YtfmkjhkopocokaaBaH
namespace Go.Proofs.Ytfmkjhkopocokaa
open Go.ChangeShapes Go.WideShapes Go.ChangeAt Go.RowKit Go.BigFrame

set_option maxHeartbeats 400000 in
theorem eqIntSS_any (fl gl : List (List Int)) (A A' : Option Addr) (n n' c c' : Nat) (w : World) (hn : fl.length = n) (hn' : gl.length = n') (hm : n ≤ maxLen) (hm' : n' ≤ maxLen) (hR : RdG w A n fl) (hR' : RdG w A' n' gl) :
    Calls Try.prog 23 #[.slice A n c, .slice A' n' c'] w fun e w' => e = .returned (.bool (decide (fl = gl))) ∧ Below w.heap.size w w' := by
  unfold maxLen at hm hm'
  have HR := hid_ hR; clear hR
  have HR' := hid_ hR'; clear hR'
  have HN := hid_ hn; clear hn
  have HN' := hid_ hn'; clear hn'
  go_enter Try.func23, Try.ntmps23
  by_cases hnn : n = n'
  · subst hnn
    go_wp2
    go_loopw [5] (fun v wr => ∃ k : Nat, k ≤ n ∧ v = .int .i64 k ∧ Below w.heap.size w wr ∧ fl.take k = gl.take k) (fun v _ => n - (intOf v).toNat)
    case atStart => exact ⟨0, Nat.zero_le _, rfl, Below.refl _ _, by simp⟩
    case round =>
      obtain ⟨k, hk, rfl, hb, hid⟩ := hrel
      have HI := hid_ hid; clear hid
      by_cases hlt : k < n
      · have hlt' : k < fl.length := by rw [HN.out]; exact hlt
        have hlt2 : k < gl.length := by rw [HN'.out]; exact hlt
        obtain ⟨b, o, A1, c1, rfl, h0, h1, h2, h3⟩ := (HR.out.below hb).at k hlt'
        obtain ⟨b', o', A1', c1', rfl, h0', h1', h2', h3'⟩ := (HR'.out.below hb).at k hlt2
        have HA := hid_ (And.intro (Nat.le_trans h1 h2) (Nat.le_trans h1' h2')); clear h1 h2 h1' h2'
        have H3 := hid_ h3; clear h3
        have H3' := hid_ h3'; clear h3'
        go_wp2
        go_region_with (go_at_call 30; refine (eqIntS_any fl[k] gl[k] _ _ _ _ _ _ _ rfl rfl HA.out.1 HA.out.2 H3.out.drew H3'.out.drew).mono ?_; rintro e w1 ⟨rfl, hb1⟩)
        all_goals go_wp2
        all_goals first
          | (go_returns
             refine ⟨ret_bool ?_, hb.drew.trans (hb1.mono hb.size)⟩
             have hne : ¬ fl[k] = gl[k] := by simpa using ‹(!decide (fl[k] = gl[k])) = true›
             exact (decide_eq_false (fun e => hne (by simp [e]))).symm)
          | (go_roundw
             case rel =>
               have he : fl[k] = gl[k] := by simpa using ‹(!decide (fl[k] = gl[k])) = false›
               exact ⟨k + 1, by omega, by go_num, hb.drew.trans (hb1.mono hb.size), by rw [List.take_succ_eq_append_getElem hlt', List.take_succ_eq_append_getElem hlt2, HI.out, he]⟩
             case measure => simp [intOf]; omega)
      · go_wp2
        go_returns
        refine ⟨ret_bool ?_, hb⟩
        have := HI.out
        rw [List.take_of_length_le (by rw [HN.out]; omega), List.take_of_length_le (by rw [HN'.out]; omega)] at this
        simp [this]
  · go_wp2
    go_returns
    refine ⟨ret_bool ?_, by go_grown⟩
    have : fl ≠ gl := fun e => hnn (by rw [← HN.out, ← HN'.out, e])
    simp [this]
set_option maxHeartbeats 400000 in
theorem sameRows_any (fl gl : List (List Int)) (A A' : Option Addr) (n n' c c' : Nat) (w : World) (hn : fl.length = n) (hn' : gl.length = n') (hm : n ≤ maxLen) (hm' : n' ≤ maxLen) (hR : RdG w A n fl) (hR' : RdG w A' n' gl) :
    Calls Try.prog 21 #[.slice A n c, .slice A' n' c'] w fun e w' => e = .returned (.bool (decide (fl = gl))) ∧ Below w.heap.size w w' := by
  unfold maxLen at hm hm'
  have HR := hid_ hR; clear hR
  have HR' := hid_ hR'; clear hR'
  have HN := hid_ hn; clear hn
  have HN' := hid_ hn'; clear hn'
  go_enter Try.func21, Try.ntmps21
  by_cases hnn : n = n'
  · subst hnn
    go_wp2
    go_loopw [5] (fun v wr => ∃ k : Nat, k ≤ n ∧ v = .int .i64 k ∧ Below w.heap.size w wr ∧ fl.take k = gl.take k) (fun v _ => n - (intOf v).toNat)
    case atStart => exact ⟨0, Nat.zero_le _, rfl, Below.refl _ _, by simp⟩
    case round =>
      obtain ⟨k, hk, rfl, hb, hid⟩ := hrel
      have HI := hid_ hid; clear hid
      by_cases hlt : k < n
      · have hlt' : k < fl.length := by rw [HN.out]; exact hlt
        have hlt2 : k < gl.length := by rw [HN'.out]; exact hlt
        obtain ⟨b, o, A1, c1, rfl, h0, h1, h2, h3⟩ := (HR.out.below hb).at k hlt'
        obtain ⟨b', o', A1', c1', rfl, h0', h1', h2', h3'⟩ := (HR'.out.below hb).at k hlt2
        have HA := hid_ (And.intro (Nat.le_trans h1 h2) (Nat.le_trans h1' h2')); clear h1 h2 h1' h2'
        have H3 := hid_ h3; clear h3
        have H3' := hid_ h3'; clear h3'
        go_wp2
        go_region_with (go_at_call 37; refine (sameInts_any fl[k] gl[k] _ _ _ _ _ _ _ rfl rfl HA.out.1 HA.out.2 H3.out.drew H3'.out.drew).mono ?_; rintro e w1 ⟨rfl, hb1⟩)
        all_goals go_wp2
        all_goals first
          | (go_returns
             refine ⟨ret_bool ?_, hb.drew.trans (hb1.mono hb.size)⟩
             have hne : ¬ fl[k] = gl[k] := by simpa using ‹(!decide (fl[k] = gl[k])) = true›
             exact (decide_eq_false (fun e => hne (by simp [e]))).symm)
          | (go_roundw
             case rel =>
               have he : fl[k] = gl[k] := by simpa using ‹(!decide (fl[k] = gl[k])) = false›
               exact ⟨k + 1, by omega, by go_num, hb.drew.trans (hb1.mono hb.size), by rw [List.take_succ_eq_append_getElem hlt', List.take_succ_eq_append_getElem hlt2, HI.out, he]⟩
             case measure => simp [intOf]; omega)
      · go_wp2
        go_returns
        refine ⟨ret_bool ?_, hb⟩
        have := HI.out
        rw [List.take_of_length_le (by rw [HN.out]; omega), List.take_of_length_le (by rw [HN'.out]; omega)] at this
        simp [this]
  · go_wp2
    go_returns
    refine ⟨ret_bool ?_, by go_grown⟩
    have : fl ≠ gl := fun e => hnn (by rw [← HN.out, ← HN'.out, e])
    simp [this]
theorem sameRows_self (l : List (List Int)) (A A' : Option Addr) (n n' c c' : Nat) (w : World) (hn : l.length = n) (hn' : l.length = n') (hm : n ≤ maxLen) (hR : RdG w A n l) (hR' : RdG w A' n' l) :
    Calls Try.prog 21 #[.slice A n c, .slice A' n' c'] w fun e w' => e = .returned (.bool true) ∧ Below w.heap.size w w' := by
  have hm' : n' ≤ maxLen := by omega
  simpa using sameRows_any l l A A' n n' c c' w hn hn' hm hm' hR hR'

/-- how many numbers stand before row j -/
def offs (gs : List (List Int)) (j : Nat) : Nat := ((gs.take j).map List.length).sum
theorem offs_succ (gs : List (List Int)) (j : Nat) (h : j < gs.length) : offs gs (j + 1) = offs gs j + gs[j].length := by
  unfold offs
  rw [List.take_succ_eq_append_getElem h, List.map_append, List.sum_append]
  simp
theorem offs_le (gs : List (List Int)) (m : Nat) (hm : ∀ g ∈ gs, g.length ≤ m) (j : Nat) : offs gs j ≤ j * m := by
  induction j with
  | zero => simp [offs]
  | succ j ih =>
    by_cases h : j < gs.length
    · rw [offs_succ gs j h, Nat.add_mul, Nat.one_mul]
      have := hm _ (List.getElem_mem h)
      omega
    · have : offs gs (j + 1) = offs gs j := by unfold offs; rw [List.take_of_length_le (by omega), List.take_of_length_le (by omega)]
      rw [this, Nat.add_mul]; omega
def rowAt (gs : List (List Int)) (j : Nat) : List Int := gs.getD j []
theorem rowAt_get (gs : List (List Int)) (j : Nat) (h : j < gs.length) : rowAt gs j = gs[j] := by
  unfold rowAt; rw [List.getD_eq_getElem?_getD, List.getElem?_eq_getElem h]; rfl
/-- marks from K on, row by row -/
def marksG (K : Int) (gs : List (List Int)) : List (List Int) := (List.range gs.length).map fun j => marksI (K + offs gs j) (rowAt gs j).length
theorem marksG_length (K : Int) (gs : List (List Int)) : (marksG K gs).length = gs.length := by simp [marksG]
theorem marksG_get (K : Int) (gs : List (List Int)) (j : Nat) (h : j < gs.length) : (marksG K gs)[j]'(by rw [marksG_length]; exact h) = marksI (K + offs gs j) gs[j].length := by
  simp [marksG, rowAt_get gs j h]

/-- one of the inner slices is written in place -/
theorem OwnGs.mark {w w' : World} {B : Nat} {v : Value} {gs : List (List Int)} {vs : List Value} (h : OwnGs w B v gs vs) (j : Nat) (hj : j < gs.length) (hj' : j < vs.length) {g' : List Int} (hl : g'.length = gs[j].length)
    (ho : w'.ownsRow B 3 1 vs[j] gs[j].length (intC g')) (hg : w.grownBy w' vs[j].ownBlock) : OwnGs w' B v (gs.set j g') vs := by
  have hin := h.inner j hj hj'
  refine ⟨by simpa using h.len, own_eq (own_other h.row hin (by decide) hg) (by simp) rfl, fun i h1 h2 => ?_, h.apart⟩
  simp only [List.length_set] at h1
  by_cases e : i = j
  · subst e
    rw [List.getElem_set_self]
    exact own_eq ho hl.symm rfl
  · rw [List.getElem_set_ne (fun e2 => e e2.symm)]
    refine (h.inner i h1 h2).kept hg ?_
    cases hv : vs[i].ownBlock with
    | none => exact .inl rfl
    | some k => exact .inr (fun e2 => h.apart i j h2 hj' e k hv e2.symm)

/-- only blocks of the inner slices have changed -/
structure GbRows (w w' : World) (vs : List Value) : Prop where
  os : w'.os = w.os
  tape : w'.tape = w.tape
  output : w'.output = w.output
  size : w.heap.size ≤ w'.heap.size
  block : ∀ k, k < w.heap.size → (∀ j (hj : j < vs.length), vs[j].ownBlock ≠ some k) → w'.heap[k]? = w.heap[k]?
theorem GbRows.refl (w : World) (vs : List Value) : GbRows w w vs := ⟨rfl, rfl, rfl, Nat.le_refl _, fun _ _ _ => rfl⟩
theorem GbRows.step {w w1 w2 : World} {vs : List Value} (h : GbRows w w1 vs) (j : Nat) (hj : j < vs.length) (hg : w1.grownBy w2 vs[j].ownBlock) : GbRows w w2 vs :=
  ⟨hg.os.trans h.os, hg.tape.trans h.tape, hg.output.trans h.output, Nat.le_trans h.size hg.size, fun k hk hne => (hg.block k (Nat.lt_of_lt_of_le hk h.size) (fun e => hne j hj e.symm)).trans (h.block k hk hne)⟩
theorem GbRows.below {B0 : Nat} {a w w' : World} {vs : List Value} (hb : Below B0 a w) (h : GbRows w w' vs) (hB : B0 ≤ w.heap.size) (hv : ∀ j (hj : j < vs.length) k, vs[j].ownBlock = some k → B0 ≤ k) : Below B0 a w' :=
  ⟨h.os.trans hb.os, h.tape.trans hb.tape, h.output.trans hb.output, Nat.le_trans hb.size h.size, fun i hi => (h.block i (by omega) (fun j hj e => by have := hv j hj i e; omega)).trans (hb.block i hi)⟩
theorem GbRows.grown {w w' : World} {vs : List Value} {C : Nat} (h : GbRows w w' vs) (hv : ∀ j (hj : j < vs.length) k, vs[j].ownBlock = some k → C ≤ k) : ∀ i, i < C → i < w.heap.size → w'.heap[i]? = w.heap[i]? :=
  fun i hi hs => h.block i hs (fun j hj e => by have := hv j hj i e; omega)
theorem OwnGs.blocks {w : World} {B : Nat} {v : Value} {gs : List (List Int)} {vs : List Value} (h : OwnGs w B v gs vs) : ∀ j (hj : j < vs.length) k, vs[j].ownBlock = some k → B ≤ k ∧ k < w.heap.size :=
  fun j hj k e => (h.inner j (by rw [← h.len]; exact hj) hj).lt k e
/-- rows that are older than C stay while what is younger changes -/
theorem OwnGs.older {w w' : World} {B C : Nat} {v : Value} {gs : List (List Int)} {vs : List Value} (h : OwnGs w B v gs vs) (hv : ∀ k, v.ownBlock = some k → k < C) (hvs : ∀ j (hj : j < vs.length) k, vs[j].ownBlock = some k → k < C) (hC : C ≤ w.heap.size)
    (hos : w'.os = w.os) (htape : w'.tape = w.tape) (hout : w'.output = w.output) (hsz : w.heap.size ≤ w'.heap.size) (hg : ∀ i, i < C → i < w.heap.size → w'.heap[i]? = w.heap[i]?) : OwnGs w' B v gs vs := by
  have key : ∀ {E k n : Nat} {u : Value} {xs : List Value}, w.ownsRow B E k u n xs → (∀ k, u.ownBlock = some k → k < C) → w'.ownsRow B E k u n xs := fun {E k n u xs} hu hlt => by
    refine ⟨hu.1, ?_⟩
    rcases hu.2 with h0 | ⟨g, cap, cur, e, hB, hh, r⟩
    · exact .inl h0
    · subst e
      have hgC := hlt g rfl
      exact .inr ⟨g, cap, cur, rfl, hB, (hg g hgC (by omega)).trans hh, r⟩
  exact ⟨h.len, key h.row hv, fun j h1 h2 => key (h.inner j h1 h2) (hvs j h2), h.apart⟩
/-- rows stay while a row of other elements is written -/
theorem OwnGs.other {w w' : World} {B B' E' k' n' : Nat} {v v' : Value} {gs : List (List Int)} {vs : List Value} {xs' : List Value} (h : OwnGs w B v gs vs) (h' : w.ownsRow B' E' k' v' n' xs') (h1 : 38 ≠ E') (h2 : 3 ≠ E') (hg : w.grownBy w' v'.ownBlock) : OwnGs w' B v gs vs :=
  ⟨h.len, own_other h.row h' h1 hg, fun j a b => own_other (h.inner j a b) h' h2 hg, h.apart⟩
end Go.Proofs.Ytfmkjhkopocokaa
