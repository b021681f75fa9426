/-
  Schedulers, plain: the sorted order, the sweep, the distance, the request that is picked.
-/
import Derived.Test.YtfelfopcmkeimaaRqC
namespace Go.Proofs.Ytfelfopcmkeimaa
open Go.ChangeShapes Go.WideShapes Go.ChangeAt Go.RowKit Go.BigFrame

/-- the first sector of request i -/
def atK (l : List Rq) (i : Int) : Int := match l[i.toNat]? with
  | some r => r.at_
  | none => 0
theorem atK_nat (l : List Rq) (i : Nat) (h : i < l.length) : atK l (i : Int) = l[i].at_ := by
  unfold atK
  rw [Int.toNat_natCast, List.getElem?_eq_getElem h]
theorem atK_get (l : List Rq) (i : Int) (h0 : 0 ≤ i) (h : i.toNat < l.length) : atK l i = (l[i.toNat]'h).at_ := by
  unfold atK
  rw [List.getElem?_eq_getElem h]
def lx (l : List Rq) (i j : Int) : Prop := atK l i < atK l j ∨ (atK l i = atK l j ∧ i < j)
theorem lx_asymm {l : List Rq} {i j : Int} (h : lx l i j) (h' : lx l j i) : False := by
  unfold lx at h h'; omega
theorem lx_trans {l : List Rq} {i j k : Int} (h : lx l i j) (h' : lx l j k) : lx l i k := by
  unfold lx at h h' ⊢; omega
theorem lx_total {l : List Rq} {i j : Int} (h : i ≠ j) : lx l i j ∨ lx l j i := by
  unfold lx; omega
theorem lx_le {l : List Rq} {i j : Int} (h : lx l i j) : atK l i ≤ atK l j := by
  unfold lx at h; omega

theorem uniq_sorted {R : Int → Int → Prop} (hR : ∀ x y, R x y → R y x → False) : ∀ (a b : List Int), a.Perm b → a.Pairwise R → b.Pairwise R → a = b := by
  intro a
  induction a with
  | nil => intro b h _ _; exact (List.Perm.nil_eq h)
  | cons x r ih =>
    intro b h ha hb
    cases b with
    | nil => exact absurd h.length_eq (by simp)
    | cons y s =>
      rw [List.pairwise_cons] at ha hb
      by_cases e : x = y
      · subst e
        rw [ih s (List.Perm.cons_inv h) ha.2 hb.2]
      · exfalso
        have h1 : x ∈ s := by
          have := h.subset (List.mem_cons_self (a := x) (l := r))
          rcases List.mem_cons.1 this with h2 | h2
          · exact absurd h2 e
          · exact h2
        have h2 : y ∈ r := by
          have := h.symm.subset (List.mem_cons_self (a := y) (l := s))
          rcases List.mem_cons.1 this with h2 | h2
          · exact absurd h2.symm e
          · exact h2
        exact hR x y (ha.1 y h2) (hb.1 x h1)

/-- the numbers 0 .. n-1 -/
def ints (n : Nat) : List Int := (List.range n).map fun (i : Nat) => (i : Int)
theorem ints_length (n : Nat) : (ints n).length = n := by simp [ints]
theorem ints_mem {n : Nat} {x : Int} : x ∈ ints n ↔ 0 ≤ x ∧ x < n := by
  unfold ints
  rw [List.mem_map]
  constructor
  · rintro ⟨i, hi, rfl⟩
    have := List.mem_range.1 hi
    omega
  · intro h
    exact ⟨x.toNat, List.mem_range.2 (by omega), by omega⟩
theorem ints_succ (n : Nat) : ints (n + 1) = ints n ++ [(n : Int)] := by simp [ints, List.range_succ]
theorem ints_get (n i : Nat) (h : i < n) : (ints n)[i]'(by rw [ints_length]; exact h) = (i : Int) := by simp [ints]

/-- where k goes -/
def posF (l : List Rq) (o : List Int) (k : Int) : Nat → Nat
  | 0 => 0
  | p + 1 => match o[p]? with
    | some x => if atK l k < atK l x then posF l o k p else p + 1
    | none => p + 1
theorem posF_le (l : List Rq) (o : List Int) (k : Int) (p : Nat) : posF l o k p ≤ p := by
  induction p with
  | zero => exact Nat.le_refl _
  | succ p ih =>
    unfold posF
    split
    · split
      · omega
      · exact Nat.le_refl _
    · exact Nat.le_refl _
theorem posF_step {l : List Rq} {o : List Int} {k : Int} {p : Nat} (h : p < o.length) : posF l o k (p + 1) = if atK l k < atK l o[p] then posF l o k p else p + 1 := by
  conv => lhs; unfold posF
  rw [List.getElem?_eq_getElem h]
theorem posF_above {l : List Rq} {o : List Int} {k : Int} {p : Nat} (hp : p ≤ o.length) : ∀ q (hq : q < o.length), posF l o k p ≤ q → q < p → atK l k < atK l o[q] := by
  induction p with
  | zero => intro q _ _ h; omega
  | succ p ih =>
    intro q hq h1 h2
    rw [posF_step (by omega)] at h1
    split at h1
    · rename_i hlt
      by_cases e : q = p
      · subst e; exact hlt
      · exact ih (by omega) q hq h1 (by omega)
    · omega
theorem posF_below {l : List Rq} {o : List Int} {k : Int} {p : Nat} (hp : p ≤ o.length) (h : 0 < posF l o k p) : atK l (o[posF l o k p - 1]'(by have := posF_le l o k p; omega)) ≤ atK l k := by
  induction p with
  | zero => unfold posF at h; omega
  | succ p ih =>
    have e := posF_step (l := l) (o := o) (k := k) (p := p) (by omega)
    split at e
    · rename_i hlt
      rw [e] at h
      have := ih (by omega) h
      simp only [e]
      exact this
    · rename_i hlt
      simp only [e, Nat.add_sub_cancel]
      omega
def insK (l : List Rq) (o : List Int) (k : Int) : List Int := o.take (posF l o k o.length) ++ [k] ++ o.drop (posF l o k o.length)
theorem insK_perm (l : List Rq) (o : List Int) (k : Int) : (insK l o k).Perm (o ++ [k]) := by
  unfold insK
  have h1 : (o.take (posF l o k o.length) ++ [k] ++ o.drop (posF l o k o.length)).Perm ([k] ++ o.take (posF l o k o.length) ++ o.drop (posF l o k o.length)) := List.Perm.append_right _ List.perm_append_comm
  refine h1.trans ?_
  rw [List.append_assoc, List.take_append_drop]
  exact List.perm_append_comm
theorem insK_length (l : List Rq) (o : List Int) (k : Int) : (insK l o k).length = o.length + 1 := by
  rw [(insK_perm l o k).length_eq]; simp
theorem insK_sorted {l : List Rq} {o : List Int} {k : Int} (ho : o.Pairwise (lx l)) (hk : ∀ x ∈ o, x < k) : (insK l o k).Pairwise (lx l) := by
  unfold insK
  have hp := posF_le l o k o.length
  obtain ⟨p, hpe⟩ : ∃ p, posF l o k o.length = p := ⟨_, rfl⟩
  have ha := posF_above (l := l) (k := k) (Nat.le_refl o.length)
  have hb := posF_below (l := l) (o := o) (k := k) (Nat.le_refl o.length)
  simp only [hpe] at ha hb hp ⊢
  have hpw := List.pairwise_iff_getElem.1 ho
  have h1 : ∀ x ∈ o.take p, lx l x k := by
    intro x hx
    obtain ⟨i, hi, rfl⟩ := List.mem_take_iff_getElem.1 hx
    have hxk := hk o[i] (List.getElem_mem _)
    have hb' := hb (by omega)
    have : atK l o[i] ≤ atK l k := by
      by_cases e : i = p - 1
      · subst e; exact hb'
      · have := lx_le (hpw i (p - 1) (by omega) (by omega) (by omega))
        omega
    unfold lx; omega
  have h2 : ∀ y ∈ o.drop p, lx l k y := by
    intro y hy
    obtain ⟨i, hi, rfl⟩ := List.mem_drop_iff_getElem.1 hy
    have := ha (i + p) (by omega) (by omega) (by omega)
    unfold lx
    left
    first
      | exact this
      | (simp only [Nat.add_comm] at this ⊢; exact this)
  have h3 := List.take_append_drop p o ▸ ho
  rw [List.pairwise_append] at h3
  rw [List.pairwise_append, List.pairwise_append]
  refine ⟨⟨h3.1, List.pairwise_singleton _ _, fun a ha' b hb' => ?_⟩, h3.2.1, fun a ha' b hb' => ?_⟩
  · have : b = k := by simpa using hb'
    subst this
    exact h1 a ha'
  · rcases List.mem_append.1 ha' with ha' | ha'
    · exact h3.2.2 a ha' b hb'
    · have : a = k := by simpa using ha'
      subst this
      exact h2 b hb'

/-- the first n requests in order -/
def sortN (l : List Rq) : Nat → List Int
  | 0 => []
  | n + 1 => insK l (sortN l n) n
theorem sortN_perm (l : List Rq) (n : Nat) : (sortN l n).Perm (ints n) := by
  induction n with
  | zero => exact List.Perm.refl _
  | succ n ih =>
    rw [ints_succ]
    exact (insK_perm l _ _).trans (ih.append_right _)
theorem sortN_length (l : List Rq) (n : Nat) : (sortN l n).length = n := by
  rw [(sortN_perm l n).length_eq, ints_length]
theorem sortN_mem {l : List Rq} {n : Nat} {x : Int} : x ∈ sortN l n ↔ 0 ≤ x ∧ x < n := by
  rw [(sortN_perm l n).mem_iff, ints_mem]
theorem sortN_get (l : List Rq) (n i : Nat) (h : i < (sortN l n).length) : 0 ≤ (sortN l n)[i] ∧ (sortN l n)[i] < n := sortN_mem.1 (List.getElem_mem h)
theorem sortN_sorted (l : List Rq) (n : Nat) : (sortN l n).Pairwise (lx l) := by
  induction n with
  | zero => exact List.Pairwise.nil
  | succ n ih => exact insK_sorted ih (fun x hx => (sortN_mem.1 hx).2)
theorem sorted_unique {l : List Rq} {n : Nat} {X : List Int} (hp : X.Perm (ints n)) (hs : X.Pairwise (lx l)) : X = sortN l n :=
  uniq_sorted (fun _ _ => lx_asymm) _ _ (hp.trans (sortN_perm l n).symm) hs (sortN_sorted l n)

def sortR (l : List Rq) : List Int := if rv l = true then sortN l l.length else []
theorem sortR_ok {l : List Rq} (h : rv l = true) : sortR l = sortN l l.length := if_pos h
theorem sortR_no {l : List Rq} (h : rv l = false) : sortR l = [] := if_neg (by simp [h])
theorem sortR_length (l : List Rq) : (sortR l).length ≤ l.length := by
  unfold sortR
  split
  · rw [sortN_length]; exact Nat.le_refl _
  · simp

/-- the sweep over an order -/
def ahead (l : List Rq) (head : Int) (o : List Int) : List Int := o.filter fun x => decide (head ≤ atK l x)
def behind (l : List Rq) (head : Int) (o : List Int) : List Int := o.filter fun x => decide (atK l x < head)
theorem ahead_take (l : List Rq) (head : Int) (o : List Int) (k : Nat) (h : k < o.length) : ahead l head (o.take (k + 1)) = ahead l head (o.take k) ++ (if head ≤ atK l o[k] then [o[k]] else []) := by
  unfold ahead
  rw [List.take_succ_eq_append_getElem h, List.filter_append]
  by_cases h : head ≤ atK l o[k] <;> simp [h]
theorem behind_take (l : List Rq) (head : Int) (o : List Int) (k : Nat) (h : k < o.length) : behind l head (o.take (k + 1)) = behind l head (o.take k) ++ (if atK l o[k] < head then [o[k]] else []) := by
  unfold behind
  rw [List.take_succ_eq_append_getElem h, List.filter_append]
  by_cases h : atK l o[k] < head <;> simp [h]
theorem ab_length (l : List Rq) (head : Int) (o : List Int) : (ahead l head o).length + (behind l head o).length = o.length := by
  unfold ahead behind
  induction o with
  | nil => rfl
  | cons x r ih =>
    simp only [List.filter_cons, List.length_cons]
    by_cases h : head ≤ atK l x
    · rw [if_pos (by simpa using h), if_neg (by simp; omega)]
      simp only [List.length_cons]; omega
    · rw [if_neg (by simpa using h), if_pos (by simp; omega)]
      simp only [List.length_cons]; omega
def sweepO (l : List Rq) (head : Int) (o : List Int) : List Int := ahead l head o ++ behind l head o
theorem sweepO_length (l : List Rq) (head : Int) (o : List Int) : (sweepO l head o).length = o.length := by
  unfold sweepO
  rw [List.length_append]; exact ab_length l head o
theorem sweepO_mem {l : List Rq} {head : Int} {o : List Int} {x : Int} (h : x ∈ sweepO l head o) : x ∈ o := by
  unfold sweepO ahead behind at h
  rcases List.mem_append.1 h with h | h
  · exact (List.mem_filter.1 h).1
  · exact (List.mem_filter.1 h).1
def sweepR (l : List Rq) (head : Int) : List Int := if (rv l && inB head 0 100000) = true then sweepO l head (sortN l l.length) else []
theorem sweepR_ok {l : List Rq} {head : Int} (h : rv l = true) (h2 : inB head 0 100000 = true) : sweepR l head = sweepO l head (sortN l l.length) := if_pos (by rw [h, h2]; rfl)
theorem sweepR_no {l : List Rq} {head : Int} (h : rv l = false ∨ inB head 0 100000 = false) : sweepR l head = [] := if_neg (by rcases h with h | h <;> simp [h])
theorem sweepR_length (l : List Rq) (head : Int) : (sweepR l head).length ≤ l.length := by
  unfold sweepR
  split
  · rw [sweepO_length, sortN_length]; exact Nat.le_refl _
  · simp
end Go.Proofs.Ytfelfopcmkeimaa
