/-
  Barriers, plain: an order is safe exactly if each place stays in the range of places of its group.
-/
import Derived.Test.YtfmkjhkopocokaaBaO
namespace Go.Proofs.Ytfmkjhkopocokaa
open Go.ChangeShapes Go.WideShapes Go.ChangeAt Go.RowKit Go.BigFrame Go.Deep

/-- every group's places lie in the group's range -/
def InsR : List (List Int) → List Int → Prop
  | [], _ => True
  | g :: gs, o => (∀ x ∈ g, x ∈ o.take g.length) ∧ InsR gs (o.drop g.length)

theorem perm_of_sub : ∀ (g T : List Int), g.Nodup → (∀ x ∈ g, x ∈ T) → T.length ≤ g.length → T.Perm g := by
  intro g
  induction g with
  | nil =>
    intro T _ _ hl
    have : T = [] := List.eq_nil_of_length_eq_zero (by simpa using hl)
    rw [this]
  | cons x r ih =>
    intro T hn hs hl
    rw [List.nodup_cons] at hn
    have hx := hs x List.mem_cons_self
    have h1 := List.perm_cons_erase hx
    refine h1.trans (List.Perm.cons x (ih (T.erase x) hn.2 (fun y hy => ?_) ?_))
    · have hne : y ≠ x := fun e => hn.1 (e ▸ hy)
      exact (List.mem_erase_of_ne hne).2 (hs y (List.mem_cons_of_mem _ hy))
    · rw [List.length_erase_of_mem hx]
      simp only [List.length_cons] at hl
      omega
theorem clash_lt {l : List It} {x y : Int} (h : x < y) : clash l x y = false := by
  unfold clash
  have : ¬ y < x := by omega
  simp [this]
theorem clash_free {l : List It} {x y : Int} (hx : bar l x.toNat = false) (hy : bar l y.toNat = false) : clash l x y = false := by
  unfold clash; simp [hx, hy]

theorem ins_safe (l : List It) : ∀ (gs : List (List Int)) (o : List Int), InsR gs o → o.length = gs.flatten.length → gs.flatten.Pairwise (· < ·) → (∀ g ∈ gs, ∀ x ∈ g, bar l x.toNat = true → g.length = 1) →
    o.Perm gs.flatten ∧ o.Pairwise (fun x y => clash l x y = false) := by
  intro gs
  induction gs with
  | nil =>
    intro o _ hl _ _
    have : o = [] := List.eq_nil_of_length_eq_zero (by simpa using hl)
    subst this
    exact ⟨List.Perm.refl _, List.Pairwise.nil⟩
  | cons g gs ih =>
    intro o hin hl hp hone
    rw [List.flatten_cons] at hl hp ⊢
    rw [List.length_append] at hl
    rw [List.pairwise_append] at hp
    obtain ⟨hp1, hp2, hp3⟩ := hp
    have hTl : (o.take g.length).length = g.length := by rw [List.length_take]; omega
    have hgn : g.Nodup := hp1.imp (fun h => by omega)
    have hT := perm_of_sub g (o.take g.length) hgn hin.1 (by omega)
    obtain ⟨hD, hDp⟩ := ih (o.drop g.length) hin.2 (by rw [List.length_drop]; omega) hp2 (fun g' hg' => hone g' (List.mem_cons_of_mem _ hg'))
    have hsplit : o = o.take g.length ++ o.drop g.length := (List.take_append_drop _ _).symm
    refine ⟨?_, ?_⟩
    · conv => lhs; rw [hsplit]
      exact hT.append hD
    · rw [hsplit, List.pairwise_append]
      refine ⟨?_, hDp, fun x hx y hy => clash_lt (hp3 x (hT.mem_iff.1 hx) y (hD.mem_iff.1 hy))⟩
      by_cases h1 : g.length = 1
      · obtain ⟨z, hz⟩ : ∃ z, o.take g.length = [z] := List.length_eq_one_iff.1 (by omega)
        rw [hz]
        exact List.pairwise_singleton _ _
      · apply List.pairwise_iff_getElem.2
        intro i j hi hj hij
        have hb : ∀ z ∈ o.take g.length, bar l z.toNat = false := fun z hz => by
          cases hq : bar l z.toNat
          · rfl
          · exact absurd (hone g List.mem_cons_self z (hT.mem_iff.1 hz) hq) h1
        exact clash_free (hb _ (List.getElem_mem hi)) (hb _ (List.getElem_mem hj))

theorem split_pw (s : Int) : ∀ (o : List Int), o.Pairwise (fun a b => ¬ (s ≤ a ∧ b < s)) → o = o.filter (fun x => decide (x < s)) ++ o.filter (fun x => decide (s ≤ x)) := by
  intro o
  induction o with
  | nil => intro _; rfl
  | cons x r ih =>
    intro h
    rw [List.pairwise_cons] at h
    by_cases hx : x < s
    · have h2 : ¬ s ≤ x := by omega
      rw [List.filter_cons_of_pos (by simpa using hx), List.filter_cons_of_neg (by simpa using h2), List.cons_append, ← ih h.2]
    · have h2 : s ≤ x := by omega
      have hr : ∀ y ∈ r, s ≤ y := fun y hy => by have := h.1 y hy; omega
      have e1 : r.filter (fun x => decide (x < s)) = [] := by
        rw [List.filter_eq_nil_iff]
        intro y hy
        have := hr y hy
        simp; omega
      have e2 : r.filter (fun x => decide (s ≤ x)) = r := by
        rw [List.filter_eq_self]
        intro y hy
        simpa using hr y hy
      rw [List.filter_cons_of_neg (by simpa using hx), List.filter_cons_of_pos (by simpa using h2), e1, e2]
      rfl
theorem filter_ints (n s : Nat) (h : s ≤ n) : ((ints n).filter (fun x => decide (x < (s : Int)))).length = s := by
  induction n with
  | zero =>
    obtain rfl : s = 0 := by omega
    rfl
  | succ n ih =>
    rw [ints_succ, List.filter_append, List.length_append]
    by_cases hs : s ≤ n
    · rw [ih hs, List.filter_cons_of_neg (by simp; omega)]
      simp
    · obtain rfl : s = n + 1 := by omega
      have : (ints n).filter (fun x => decide (x < ((n + 1 : Nat) : Int))) = ints n := by
        rw [List.filter_eq_self]
        intro x hx
        have := ints_mem.1 hx
        simp; omega
      rw [this, ints_length, List.filter_cons_of_pos (by simp; omega)]
      simp
/-- behind a border all smaller places come first -/
def Border (l : List It) (s : Nat) : Prop := bar l s = true ∨ (1 ≤ s ∧ bar l (s - 1) = true)
theorem border_pw {l : List It} {o : List Int} {s : Nat} (hs : Border l s) (hmem : ∀ x ∈ o, 0 ≤ x) (hnd : o.Nodup) (hall : ∀ x : Nat, x ≤ s → (bar l x = true) → (x : Int) ∈ o) (hsafe : o.Pairwise (fun x y => clash l x y = false)) :
    o.Pairwise (fun a b => ¬ ((s : Int) ≤ a ∧ b < (s : Int))) := by
  apply List.pairwise_iff_getElem.2
  intro i j hi hj hij ⟨h1, h2⟩
  have hS := List.pairwise_iff_getElem.1 hsafe
  have hN := List.pairwise_iff_getElem.1 hnd
  obtain ⟨a, ha⟩ := Int.eq_ofNat_of_zero_le (hmem _ (List.getElem_mem hi))
  obtain ⟨b, hb⟩ := Int.eq_ofNat_of_zero_le (hmem _ (List.getElem_mem hj))
  have noc : ∀ (p q : Nat) (hp : p < o.length) (hq : q < o.length) (x y : Nat), o[p] = (x : Int) → o[q] = (y : Int) → y < x → (bar l x = true ∨ bar l y = true) → ¬ p < q := fun p q hp hq x y hx hy hlt hbar hpq => by
    have := hS p q hp hq hpq
    rw [hx, hy, clash_nat] at this
    rcases hbar with h | h <;> simp [hlt, h] at this
  rcases hs with hbs | ⟨hs1, hbs⟩
  · obtain ⟨p, hp, hpe⟩ := List.getElem_of_mem (hall s (Nat.le_refl _) hbs)
    have e1 : ¬ p < j := noc p j hp hj s b hpe hb (by omega) (.inl hbs)
    by_cases hia : a = s
    · have e2 : ¬ i < j := noc i j hi hj a b ha hb (by omega) (.inl (by rw [hia]; exact hbs))
      omega
    · have e2 : ¬ i < p := noc i p hi hp a s ha hpe (by omega) (.inr hbs)
      have : p ≠ i := fun e => by subst e; omega
      omega
  · obtain ⟨p, hp, hpe⟩ := List.getElem_of_mem (hall (s - 1) (by omega) hbs)
    have e1 : ¬ i < p := noc i p hi hp a (s - 1) ha hpe (by omega) (.inr hbs)
    by_cases hib : b = s - 1
    · have e2 : ¬ i < j := noc i j hi hj a b ha hb (by omega) (.inr (by rw [hib]; exact hbs))
      omega
    · have e2 : ¬ p < j := noc p j hp hj (s - 1) b hpe hb (by omega) (.inl hbs)
      have : p ≠ i := fun e => by subst e; omega
      omega
/-- the first s places of a safe order are those below a border -/
theorem take_border {l : List It} {o : List Int} {n s : Nat} (hsn : s ≤ n) (hp : o.Perm (ints n)) (hpw : o.Pairwise (fun a b => ¬ ((s : Int) ≤ a ∧ b < (s : Int)))) : o.take s = o.filter (fun x => decide (x < (s : Int))) := by
  have h1 := split_pw (s : Int) o hpw
  have h2 : (o.filter (fun x => decide (x < (s : Int)))).length = s := by
    rw [(hp.filter _).length_eq]
    exact filter_ints n s hsn
  conv => lhs; rw [h1]
  rw [List.take_left' h2]
end Go.Proofs.Ytfmkjhkopocokaa
