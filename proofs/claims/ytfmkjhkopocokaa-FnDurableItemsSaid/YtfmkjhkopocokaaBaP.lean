/-
  Barriers, plain: groups of places, the number of orders, safe orders, durable places.
-/
import Derived.Test.YtfmkjhkopocokaaBase
namespace Go.Proofs.Ytfmkjhkopocokaa
open Go.ChangeShapes Go.WideShapes Go.ChangeAt Go.RowKit Go.BigFrame

structure It where
  number : Int
  barrier : Bool
  deriving DecidableEq

/-- place i bears a barrier -/
def bar (l : List It) (i : Nat) : Bool := match l[i]? with
  | some x => x.barrier
  | none => false
theorem bar_get (l : List It) (i : Nat) (h : i < l.length) : bar l i = l[i].barrier := by
  unfold bar; rw [List.getElem?_eq_getElem h]
/-- a group begins at place i -/
def isNew (l : List It) (i : Nat) : Bool := i == 0 || bar l i || bar l (i - 1)

/-- the numbers 0 .. n-1 -/
def ints (n : Nat) : List Int := (List.range n).map fun (i : Nat) => (i : Int)
theorem ints_length (n : Nat) : (ints n).length = n := by simp [ints]
theorem ints_mem {n : Nat} {x : Int} : x ∈ ints n ↔ 0 ≤ x ∧ x < n := by
  unfold ints
  rw [List.mem_map]
  constructor
  · rintro ⟨i, hi, rfl⟩
    have := List.mem_range.1 hi
    omega
  · intro h
    exact ⟨x.toNat, List.mem_range.2 (by omega), by omega⟩
theorem ints_succ (n : Nat) : ints (n + 1) = ints n ++ [(n : Int)] := by simp [ints, List.range_succ]
theorem ints_get (n i : Nat) (h : i < (ints n).length) : (ints n)[i] = (i : Int) := by simp [ints]

/-- the groups of the first n places -/
def grpN (l : List It) : Nat → List (List Int)
  | 0 => []
  | n + 1 => if isNew l n = true then grpN l n ++ [[(n : Int)]] else (grpN l n).dropLast ++ [(grpN l n).getLastD [] ++ [(n : Int)]]
theorem grpN_new {l : List It} {n : Nat} (h : isNew l n = true) : grpN l (n + 1) = grpN l n ++ [[(n : Int)]] := if_pos h
theorem isNew_zero (l : List It) : isNew l 0 = true := rfl
/-- the size, so far, of the group of a place -/
def sz (l : List It) : Nat → Nat
  | 0 => 1
  | i + 1 => if isNew l (i + 1) = true then 1 else sz l i + 1
theorem sz_new {l : List It} {n : Nat} (h : isNew l n = true) : sz l n = 1 := by
  cases n with
  | zero => rfl
  | succ n => exact if_pos h
theorem sz_pos (l : List It) (i : Nat) : 1 ≤ sz l i := by
  cases i with
  | zero => exact Nat.le_refl _
  | succ i =>
    unfold sz
    split <;> omega
theorem sz_le (l : List It) (i : Nat) : sz l i ≤ i + 1 := by
  induction i with
  | zero => exact Nat.le_refl _
  | succ i ih =>
    unfold sz
    split <;> omega
theorem grpN_last (l : List It) (n : Nat) (h : 0 < n) : ∃ a g, grpN l n = a ++ [g] ∧ g.length = sz l (n - 1) ∧ g.length ≤ n := by
  induction n with
  | zero => omega
  | succ n ih =>
    by_cases hn : isNew l n = true
    · refine ⟨grpN l n, [(n : Int)], grpN_new hn, ?_, by simp⟩
      rw [Nat.add_sub_cancel, sz_new hn]; rfl
    · have h0 : 0 < n := by
        rcases Nat.eq_zero_or_pos n with h0 | h0
        · subst h0; exact absurd (isNew_zero l) hn
        · exact h0
      obtain ⟨a, g, e, hg, hgl⟩ := ih h0
      refine ⟨a, g ++ [(n : Int)], ?_, ?_, by simp; omega⟩
      · have : grpN l (n + 1) = (grpN l n).dropLast ++ [(grpN l n).getLastD [] ++ [(n : Int)]] := if_neg hn
        rw [this, e]
        simp
      · rw [Nat.add_sub_cancel]
        obtain ⟨m, rfl⟩ : ∃ m, n = m + 1 := ⟨n - 1, by omega⟩
        have : sz l (m + 1) = sz l m + 1 := if_neg hn
        rw [this, List.length_append, hg]; rfl
theorem grpN_old {l : List It} {n : Nat} (h : isNew l n = false) : ∃ a g, grpN l n = a ++ [g] ∧ grpN l (n + 1) = a ++ [g ++ [(n : Int)]] ∧ g.length = sz l (n - 1) ∧ g.length ≤ n ∧ sz l n = sz l (n - 1) + 1 := by
  have hn : ¬ isNew l n = true := by simp [h]
  have h0 : 0 < n := by
    rcases Nat.eq_zero_or_pos n with h0 | h0
    · subst h0; exact absurd (isNew_zero l) hn
    · exact h0
  obtain ⟨a, g, e, hg, hgl⟩ := grpN_last l n h0
  refine ⟨a, g, e, ?_, hg, hgl, ?_⟩
  · have : grpN l (n + 1) = (grpN l n).dropLast ++ [(grpN l n).getLastD [] ++ [(n : Int)]] := if_neg hn
    rw [this, e]
    simp
  · obtain ⟨m, rfl⟩ : ∃ m, n = m + 1 := ⟨n - 1, by omega⟩
    exact if_neg hn
theorem grpN_length (l : List It) (n : Nat) : (grpN l n).length ≤ n := by
  induction n with
  | zero => simp [grpN]
  | succ n ih =>
    cases h : isNew l n
    · obtain ⟨a, g, e1, e2, _, _, _⟩ := grpN_old h
      rw [e2]; rw [e1] at ih; simp at ih ⊢; omega
    · rw [grpN_new h]; simp; omega
theorem grpN_mem (l : List It) (n : Nat) : ∀ g ∈ grpN l n, g.length ≤ n := by
  induction n with
  | zero => intro g hg; simp [grpN] at hg
  | succ n ih =>
    intro g hg
    cases h : isNew l n
    · obtain ⟨a, g', e1, e2, _, h2, _⟩ := grpN_old h
      rw [e2] at hg
      rw [e1] at ih
      rcases List.mem_append.1 hg with hg | hg
      · have := ih g (List.mem_append_left _ hg); omega
      · have : g = g' ++ [(n : Int)] := by simpa using hg
        subst this
        simp; omega
    · rw [grpN_new h] at hg
      rcases List.mem_append.1 hg with hg | hg
      · have := ih g hg; omega
      · have : g = [(n : Int)] := by simpa using hg
        subst this
        simp

def fact : Nat → Nat
  | 0 => 1
  | n + 1 => fact n * (n + 1)
theorem fact_pos (n : Nat) : 1 ≤ fact n := by
  induction n with
  | zero => exact Nat.le_refl _
  | succ n ih => exact Nat.mul_pos ih (by omega)
theorem fact_mono {a b : Nat} (h : a ≤ b) : fact a ≤ fact b := by
  induction b with
  | zero => have : a = 0 := by omega
            subst this; exact Nat.le_refl _
  | succ b ih =>
    by_cases e : a = b + 1
    · subst e; exact Nat.le_refl _
    · have := ih (by omega)
      exact Nat.le_trans this (Nat.le_mul_of_pos_right _ (by omega))
def prodG : List (List Int) → Nat
  | [] => 1
  | g :: r => fact g.length * prodG r
theorem prodG_append (a b : List (List Int)) : prodG (a ++ b) = prodG a * prodG b := by
  induction a with
  | nil => simp [prodG]
  | cons g r ih => simp [prodG, ih, Nat.mul_assoc]
theorem prodG_one (g : List Int) : prodG [g] = fact g.length := by simp [prodG]
/-- the product of the sizes -/
def PN (l : List It) : Nat → Nat
  | 0 => 1
  | n + 1 => PN l n * sz l n
theorem prodG_grp (l : List It) (n : Nat) : prodG (grpN l n) = PN l n := by
  induction n with
  | zero => rfl
  | succ n ih =>
    cases h : isNew l n
    · obtain ⟨a, g, e1, e2, e3, _, e4⟩ := grpN_old h
      rw [e2]
      rw [e1] at ih
      have : PN l (n + 1) = PN l n * sz l n := rfl
      rw [this, ← ih, prodG_append, prodG_append, prodG_one, prodG_one, e4, ← e3, List.length_append]
      show prodG a * (fact g.length * (g.length + 1)) = _
      rw [Nat.mul_assoc]
    · rw [grpN_new h, prodG_append, ih, prodG_one]
      have : PN l (n + 1) = PN l n * sz l n := rfl
      rw [this, sz_new h]
      rfl
theorem PN_pos (l : List It) (n : Nat) : 1 ≤ PN l n := by
  induction n with
  | zero => exact Nat.le_refl _
  | succ n ih => exact Nat.mul_pos ih (sz_pos l n)
theorem PN_le (l : List It) (n : Nat) : PN l n ≤ fact n := by
  induction n with
  | zero => exact Nat.le_refl _
  | succ n ih => exact Nat.mul_le_mul ih (sz_le l n)
theorem PN_mono {l l' : List It} (n : Nat) (h : ∀ i, sz l' i ≤ sz l i) : PN l' n ≤ PN l n := by
  induction n with
  | zero => exact Nat.le_refl _
  | succ n ih => exact Nat.mul_le_mul ih (h n)
theorem sz_mono {l l' : List It} (h : ∀ i, bar l i = true → bar l' i = true) (i : Nat) : sz l' i ≤ sz l i := by
  induction i with
  | zero => exact Nat.le_refl _
  | succ i ih =>
    unfold sz
    by_cases h1 : isNew l (i + 1) = true
    · have h2 : isNew l' (i + 1) = true := by
        simp only [isNew, Bool.or_eq_true] at h1 ⊢
        rcases h1 with (h1 | h1) | h1
        · exact .inl (.inl h1)
        · exact .inl (.inr (h _ h1))
        · exact .inr (h _ h1)
      rw [if_pos h1, if_pos h2]
      exact Nat.le_refl _
    · rw [if_neg h1]
      split <;> omega
theorem bar_set {l : List It} {k : Nat} {x : It} (hx : x.barrier = true) (i : Nat) (h : bar l i = true) : bar (l.set k x) i = true := by
  unfold bar at h ⊢
  by_cases e : k = i
  · subst e
    by_cases hk : k < l.length
    · rw [List.getElem?_set_self hk]; exact hx
    · rw [List.getElem?_eq_none (by omega)] at h; cases h
  · rw [List.getElem?_set_ne e]; exact h
theorem sz_free {l : List It} (h : ∀ i, bar l i = false) (i : Nat) : sz l i = i + 1 := by
  induction i with
  | zero => rfl
  | succ i ih =>
    unfold sz
    rw [if_neg (by simp [isNew, h]), ih]
theorem PN_free {l : List It} (h : ∀ i, bar l i = false) (n : Nat) : PN l n = fact n := by
  induction n with
  | zero => rfl
  | succ n ih =>
    have : PN l (n + 1) = PN l n * sz l n := rfl
    rw [this, ih, sz_free h]; rfl
theorem PN_full {l : List It} (n : Nat) (h : ∀ i, i < n → bar l i = true) : PN l n = 1 := by
  induction n with
  | zero => rfl
  | succ n ih =>
    have : PN l (n + 1) = PN l n * sz l n := rfl
    rw [this, ih (fun i hi => h i (by omega)), sz_new (by simp [isNew, h n (by omega)])]

/-- the number of orders -/
def cntR (l : List It) : Nat := if l.length ≤ 12 then prodG (grpN l l.length) else 0
theorem cntR_ok {l : List It} (h : l.length ≤ 12) : cntR l = PN l l.length := by
  unfold cntR; rw [if_pos h, prodG_grp]
theorem cntR_no {l : List It} (h : 12 < l.length) : cntR l = 0 := if_neg (by omega)
theorem fact12 {n : Nat} (h : n ≤ 12) : fact n ≤ 479001600 := fact_mono h
theorem cntR_le (l : List It) : cntR l ≤ 479001600 := by
  unfold cntR
  split
  · rename_i h
    rw [prodG_grp]
    exact Nat.le_trans (PN_le _ _) (fact12 h)
  · omega

/-- what is known of the groups -/
structure GOk (l : List It) (n : Nat) (gs : List (List Int)) : Prop where
  flat : gs.flatten = ints n
  ne : ∀ g ∈ gs, g ≠ []
  one : ∀ g ∈ gs, ∀ x ∈ g, bar l x.toNat = true → g.length = 1
  head : ∀ k (h : k < gs.length) (h0 : 0 < gs[k].length), 0 < k → bar l (gs[k][0]).toNat = true ∨ bar l ((gs[k][0]).toNat - 1) = true
theorem ints_last_toNat (n : Nat) : (n : Int).toNat = n := rfl
theorem grpN_ok (l : List It) (n : Nat) : GOk l n (grpN l n) ∧ ∀ a g, grpN l n = a ++ [g] → ∃ h : 0 < g.length, (g[g.length - 1]'(by omega)) = (n : Int) - 1 := by
  induction n with
  | zero =>
    refine ⟨⟨rfl, fun g hg => by simp [grpN] at hg, fun g hg => by simp [grpN] at hg, fun k h => by simp [grpN] at h⟩, fun a g h => ?_⟩
    simp [grpN] at h
  | succ n ih =>
    obtain ⟨⟨hf, hne, h1, hh⟩, hlast⟩ := ih
    cases h : isNew l n
    · obtain ⟨a, g, e1, e2, e3, e4, _⟩ := grpN_old h
      have hnb : bar l n = false ∧ bar l (n - 1) = false := by
        simp only [isNew, Bool.or_eq_false_iff] at h
        exact ⟨h.1.2, h.2⟩
      rw [e2]
      rw [e1] at hf hne h1 hh
      obtain ⟨hgp, hgl⟩ := hlast a g e1
      have hn0 : 0 < n := by
        rcases Nat.eq_zero_or_pos n with h0 | h0
        · subst h0; rw [isNew_zero] at h; cases h
        · exact h0
      refine ⟨⟨?_, ?_, ?_, ?_⟩, ?_⟩
      · rw [ints_succ, ← hf]; simp
      · intro g' hg'
        rcases List.mem_append.1 hg' with hg' | hg'
        · exact hne g' (List.mem_append_left _ hg')
        · have : g' = g ++ [(n : Int)] := by simpa using hg'
          subst this; simp
      · intro g' hg' x hx hb
        rcases List.mem_append.1 hg' with hg' | hg'
        · exact h1 g' (List.mem_append_left _ hg') x hx hb
        · have : g' = g ++ [(n : Int)] := by simpa using hg'
          subst this
          exfalso
          rcases List.mem_append.1 hx with hx | hx
          · have hl1 := h1 g (by simp) x hx hb
            -- g has one element, n - 1
            have hx1 : x = (n : Int) - 1 := by
              obtain ⟨i, hi, rfl⟩ := List.getElem_of_mem hx
              rw [← hgl]
              congr 1
              omega
            subst hx1
            have : ((n : Int) - 1).toNat = n - 1 := by omega
            rw [this, hnb.2] at hb
            cases hb
          · have : x = (n : Int) := by simpa using hx
            subst this
            rw [ints_last_toNat, hnb.1] at hb
            cases hb
      · intro k hk h0 hk0
        rcases Nat.lt_or_ge k a.length with q | q
        · have hk' : k < (a ++ [g]).length := by simp; omega
          have e : (a ++ [g ++ [(n : Int)]])[k] = (a ++ [g])[k] := by
            rw [List.getElem_append_left q, List.getElem_append_left q]
          have := hh k hk' (by rw [← e]; exact h0) hk0
          simpa only [e] using this
        · have hka : k = a.length := by simp at hk; omega
          subst hka
          have hk' : a.length < (a ++ [g]).length := by simp
          have e : (a ++ [g ++ [(n : Int)]])[a.length] = g ++ [(n : Int)] := by
            rw [List.getElem_append_right (Nat.le_refl _)]; simp
          have e' : (a ++ [g])[a.length] = g := by
            rw [List.getElem_append_right (Nat.le_refl _)]; simp
          have := hh a.length hk' (by rw [e']; exact hgp) hk0
          have e3 : ((a ++ [g ++ [(n : Int)]])[a.length])[0]'(by rw [e]; simp) = ((a ++ [g])[a.length])[0]'(by rw [e']; exact hgp) := by
            simp only [e, e']
            rw [List.getElem_append_left hgp]
          rw [e3]
          exact this
      · intro a' g' he
        have : g' = g ++ [(n : Int)] := by
          have := congrArg (fun z => z.getLast?) he
          simpa using this.symm
        subst this
        refine ⟨by simp, ?_⟩
        simp only [List.length_append, List.length_cons, List.length_nil]
        rw [List.getElem_append_right (by omega)]
        simp
    · rw [grpN_new h]
      refine ⟨⟨?_, ?_, ?_, ?_⟩, ?_⟩
      · rw [ints_succ, ← hf]; simp
      · intro g' hg'
        rcases List.mem_append.1 hg' with hg' | hg'
        · exact hne g' hg'
        · have : g' = [(n : Int)] := by simpa using hg'
          subst this; simp
      · intro g' hg' x hx hb
        rcases List.mem_append.1 hg' with hg' | hg'
        · exact h1 g' hg' x hx hb
        · have : g' = [(n : Int)] := by simpa using hg'
          subst this; rfl
      · intro k hk h0 hk0
        rcases Nat.lt_or_ge k (grpN l n).length with q | q
        · have e : (grpN l n ++ [[(n : Int)]])[k] = (grpN l n)[k] := List.getElem_append_left q
          have := hh k q (by rw [← e]; exact h0) hk0
          simpa only [e] using this
        · have hka : k = (grpN l n).length := by simp at hk; omega
          subst hka
          have e : (grpN l n ++ [[(n : Int)]])[(grpN l n).length] = [(n : Int)] := by
            rw [List.getElem_append_right (Nat.le_refl _)]; simp
          have e3 : ((grpN l n ++ [[(n : Int)]])[(grpN l n).length])[0]'(by rw [e]; simp) = (n : Int) := by
            simp only [e]; rfl
          rw [e3, ints_last_toNat]
          have hn0 : n ≠ 0 := by
            intro e0
            subst e0
            simp [grpN] at hk0
          simp only [isNew, Bool.or_eq_true] at h
          rcases h with (h | h) | h
          · exact absurd (by simpa using h) hn0
          · exact .inl h
          · exact .inr h
      · intro a' g' he
        have : g' = [(n : Int)] := by
          have := congrArg (fun z => z.getLast?) he
          simpa using this.symm
        subst this
        exact ⟨by simp, by simp⟩
end Go.Proofs.Ytfmkjhkopocokaa
