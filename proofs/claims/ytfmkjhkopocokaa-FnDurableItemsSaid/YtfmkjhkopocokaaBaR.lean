/-
  Barriers, plain: an order is safe exactly if the walk over the groups finds each place inside.
-/
import Derived.Test.YtfmkjhkopocokaaBaQ
import Derived.Test.YtfmkjhkopocokaaBaM
namespace Go.Proofs.Ytfmkjhkopocokaa
open Go.ChangeShapes Go.WideShapes Go.ChangeAt Go.RowKit Go.BigFrame Go.Deep

theorem offs_zero (gs : List (List Int)) : offs gs 0 = 0 := by simp [offs]
/-- x stands in the window of m places behind place S -/
def hitB (o : List Int) (S m : Nat) (x : Int) : Bool := decide (x ∈ (o.drop S).take m)
/-- how many of the first j of g stand in the window -/
def seenN (o : List Int) (S : Nat) (g : List Int) (j : Nat) : Nat := ((g.take j).filter (hitB o S g.length)).length
/-- the group's places all stand in the window -/
def goodB (o : List Int) (S : Nat) (g : List Int) : Bool := decide (seenN o S g g.length = g.length)
/-- so for the first k groups -/
def insB (o : List Int) (gs : List (List Int)) : Nat → Bool
  | 0 => true
  | k + 1 => insB o gs k && goodB o (offs gs k) (gs.getD k [])
theorem insB_succ (o : List Int) (gs : List (List Int)) (k : Nat) (h : k < gs.length) : insB o gs (k + 1) = (insB o gs k && goodB o (offs gs k) gs[k]) := by
  show (insB o gs k && goodB o (offs gs k) (gs.getD k [])) = _
  rw [List.getD_eq_getElem?_getD, List.getElem?_eq_getElem h]
  rfl
theorem seenN_zero (o : List Int) (S : Nat) (g : List Int) : seenN o S g 0 = 0 := by simp [seenN]
theorem seenN_succ (o : List Int) (S : Nat) (g : List Int) (j : Nat) (h : j < g.length) : seenN o S g (j + 1) = seenN o S g j + (if hitB o S g.length g[j] = true then 1 else 0) := by
  unfold seenN
  rw [List.take_add_one, List.getElem?_eq_getElem h, Option.toList_some, List.filter_append, List.length_append]
  congr 1
  by_cases q : hitB o S g.length g[j] = true
  · rw [List.filter_cons_of_pos q, if_pos q]; rfl
  · rw [List.filter_cons_of_neg q, if_neg q]; rfl
theorem seenN_le (o : List Int) (S : Nat) (g : List Int) (j : Nat) : seenN o S g j ≤ j := by
  unfold seenN
  refine Nat.le_trans (List.length_filter_le _ _) ?_
  rw [List.length_take]; omega
theorem hitB_at {o : List Int} {S m i : Nat} {x : Int} (h1 : S ≤ i) (h2 : i < S + m) (h3 : i < o.length) (h4 : o[i] = x) : hitB o S m x = true := by
  unfold hitB
  rw [decide_eq_true_eq, ← h4]
  apply List.mem_iff_getElem.2
  refine ⟨i - S, by rw [List.length_take, List.length_drop]; omega, ?_⟩
  rw [List.getElem_take, List.getElem_drop]
  congr 1; omega
theorem hitB_no {o : List Int} {S m : Nat} {x : Int} (h : ∀ i (hi : i < o.length), S ≤ i → i < S + m → o[i] ≠ x) : hitB o S m x = false := by
  unfold hitB
  rw [decide_eq_false_iff_not]
  intro hx
  obtain ⟨i, hi, e⟩ := List.mem_iff_getElem.1 hx
  rw [List.length_take, List.length_drop] at hi
  rw [List.getElem_take, List.getElem_drop] at e
  exact h (S + i) (by omega) (by omega) (by omega) e
theorem goodB_iff {o : List Int} {S : Nat} {g : List Int} : goodB o S g = true ↔ ∀ x ∈ g, x ∈ (o.drop S).take g.length := by
  unfold goodB seenN
  rw [decide_eq_true_eq, List.take_length, List.length_filter_eq_length_iff]
  simp only [hitB, decide_eq_true_eq]
theorem insB_iff {o : List Int} {gs : List (List Int)} : ∀ k, k ≤ gs.length → (insB o gs k = true ↔ ∀ i (_ : i < k) (hi : i < gs.length), ∀ x ∈ gs[i], x ∈ (o.drop (offs gs i)).take gs[i].length) := by
  intro k
  induction k with
  | zero => intro _; exact ⟨fun _ i h => absurd h (by omega), fun _ => rfl⟩
  | succ k ih =>
    intro h
    rw [insB_succ o gs k (by omega), Bool.and_eq_true, ih (by omega), goodB_iff]
    refine ⟨fun ⟨h1, h2⟩ i hi hg => ?_, fun H => ⟨fun i hi hg => H i (by omega) hg, H k (by omega) (by omega)⟩⟩
    rcases Nat.lt_or_ge i k with q | q
    · exact h1 i q hg
    · obtain rfl : i = k := by omega
      exact h2
theorem insR_iff : ∀ (gs : List (List Int)) (o : List Int), InsR gs o ↔ ∀ i (hi : i < gs.length), ∀ x ∈ gs[i], x ∈ (o.drop (offs gs i)).take gs[i].length := by
  intro gs
  induction gs with
  | nil => intro o; exact ⟨fun _ i hi => absurd hi (by simp), fun _ => trivial⟩
  | cons g gs ih =>
    intro o
    show (_ ∧ _) ↔ _
    rw [ih]
    constructor
    · rintro ⟨h1, h2⟩ i hi
      cases i with
      | zero => rw [offs_zero, List.drop_zero]; exact h1
      | succ i =>
        have := h2 i (by simpa using hi)
        rw [List.drop_drop] at this
        rw [offs_cons]
        exact this
    · intro H
      have H0 := H 0 (by simp)
      rw [offs_zero, List.drop_zero] at H0
      refine ⟨H0, fun i hi => ?_⟩
      have := H (i + 1) (by simpa using hi)
      rw [offs_cons] at this
      rw [List.drop_drop]
      exact this
theorem ints_pw (n : Nat) : (ints n).Pairwise (· < ·) := by
  apply List.pairwise_iff_getElem.2
  intro i j hi hj hij
  rw [ints_get n i hi, ints_get n j hj]
  omega
theorem isOrd_perm' {n : Nat} {o : List Int} (h : isOrd n o = true) : o.Perm (ints n) := by
  obtain ⟨h1, h2, h3⟩ := isOrd_parts h
  exact (perm_of_sub o (ints n) h3 (fun x hx => ints_mem.2 (isOrd_mem h x hx)) (by rw [ints_length]; omega)).symm
theorem offs_flat (gs : List (List Int)) (k : Nat) : offs gs k ≤ gs.flatten.length := by
  rw [← flat_len]
  unfold offs
  rw [List.take_length]
  conv => rhs; rw [← List.take_append_drop k gs]
  rw [List.map_append, List.sum_append]
  omega

theorem safe_ins {l : List It} {o : List Int} (h12 : l.length ≤ 12) (hol : o.length = l.length) : safeR l o = insB o (grpR l) (grpR l).length := by
  rw [grpR_ok h12]
  obtain ⟨hf, hne, h1, hh⟩ := (grpN_ok l l.length).1
  generalize hgs : grpN l l.length = gs at *
  have hfl : gs.flatten.length = l.length := by rw [hf, ints_length]
  cases hq : insB o gs gs.length
  · cases hs : safeR l o
    · rfl
    exfalso
    obtain ⟨_, hord, hsafe⟩ := safeR_parts hs
    unfold safeO at hsafe
    rw [decide_eq_true_eq] at hsafe
    have hperm := isOrd_perm' hord
    have hnd := (isOrd_parts hord).2.2
    have hmem : ∀ x ∈ o, 0 ≤ x := fun x hx => (isOrd_mem hord x hx).1
    have hpw : ∀ k, k ≤ gs.length → o.Pairwise (fun a b => ¬ (((offs gs k : Nat) : Int) ≤ a ∧ b < ((offs gs k : Nat) : Int))) := by
      intro k hk
      by_cases hk0 : k = 0
      · subst hk0
        apply List.pairwise_iff_getElem.2
        intro i j hi hj hij ⟨_, h⟩
        have := hmem _ (List.getElem_mem hj)
        rw [offs_zero] at h
        omega
      by_cases hkl : k = gs.length
      · subst hkl
        apply List.pairwise_iff_getElem.2
        intro i j hi hj hij ⟨h, _⟩
        have := (isOrd_mem hord _ (List.getElem_mem hi)).2
        rw [flat_len, hfl] at h
        omega
      · have hkg : k < gs.length := by omega
        have hpos : 0 < gs[k].length := List.length_pos_iff.2 (hne _ (List.getElem_mem hkg))
        have hfa := flat_at gs k hkg 0 hpos
        rw [hf] at hfa
        have hv := (List.getElem?_eq_some_iff.1 hfa).2
        have hlt := (List.getElem?_eq_some_iff.1 hfa).1
        rw [ints_length] at hlt
        rw [ints_get] at hv
        have hhk := hh k hkg hpos (by omega)
        rw [← hv] at hhk
        have hB : Border l (offs gs k) := by
          rcases hhk with h | h
          · exact .inl h
          · refine (Nat.eq_zero_or_pos (offs gs k)).elim (fun e => .inl ?_) (fun e => .inr ⟨e, h⟩)
            have : (((offs gs k + 0 : Nat) : Int).toNat - 1) = offs gs k := by rw [e]; rfl
            rw [this] at h
            exact h
        refine border_pw hB hmem hnd (fun x hx _ => hperm.mem_iff.2 (ints_mem.2 (by omega))) hsafe
    have hno : ¬ insB o gs gs.length = true := by rw [hq]; simp
    apply hno
    rw [insB_iff gs.length (Nat.le_refl _)]
    intro k _ hk x hx
    obtain ⟨j, hj, hjx⟩ := List.mem_iff_getElem.1 hx
    have hfa := flat_at gs k hk j hj
    rw [hf] at hfa
    have hv := (List.getElem?_eq_some_iff.1 hfa).2
    have hlt := (List.getElem?_eq_some_iff.1 hfa).1
    rw [ints_length] at hlt
    rw [ints_get, hjx] at hv
    have hb := offs_succ gs k hk
    have hble := offs_flat gs (k + 1)
    rw [hfl] at hble
    have t1 := take_border (l := l) (s := offs gs k) (by omega) hperm (hpw k (by omega))
    have t2 := take_border (l := l) (s := offs gs (k + 1)) hble hperm (hpw (k + 1) (by omega))
    have hxo : x ∈ o.take (offs gs (k + 1)) := by
      rw [t2, List.mem_filter]
      refine ⟨hperm.mem_iff.2 (ints_mem.2 (by omega)), ?_⟩
      rw [decide_eq_true_eq]; omega
    have hxn : x ∉ o.take (offs gs k) := by
      rw [t1, List.mem_filter]
      rintro ⟨_, h⟩
      rw [decide_eq_true_eq] at h; omega
    rw [hb, List.take_add, List.mem_append] at hxo
    rcases hxo with h | h
    · exact absurd h hxn
    · exact h
  · rw [insB_iff gs.length (Nat.le_refl _)] at hq
    have hin : InsR gs o := (insR_iff gs o).2 (fun i hi => hq i hi hi)
    obtain ⟨hp, hpw⟩ := ins_safe l gs o hin (by rw [hol, hfl]) (by rw [hf]; exact ints_pw _) h1
    rw [hf] at hp
    rw [safeR_is h12 (isOrd_perm hp)]
    unfold safeO
    rw [decide_eq_true_eq]
    exact hpw
end Go.Proofs.Ytfmkjhkopocokaa
