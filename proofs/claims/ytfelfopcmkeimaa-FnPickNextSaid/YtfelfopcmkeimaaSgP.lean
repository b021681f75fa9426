/-
  Signals, plain: how many answers a report takes, when it is made.
-/
import Derived.Test.YtfelfopcmkeimaaAlive
namespace Go.Proofs.Ytfelfopcmkeimaa
open Go.ChangeShapes Go.WideShapes Go.ChangeAt Go.RowKit Go.BigFrame

def sortB (l : List Int) : Bool := decide (l.Pairwise (· ≤ ·))
theorem sortB_end {l : List Int} (h : ∀ i (hi : i < l.length), 0 < i → l[i-1]'(by omega) ≤ l[i]) : sortB l = true := by
  unfold sortB
  simp only [decide_eq_true_eq]
  rw [List.pairwise_iff_getElem]
  have key : ∀ d i (hd : i + d < l.length), l[i]'(by omega) ≤ l[i + d] := by
    intro d
    induction d with
    | zero => intro i hd; exact Int.le_refl _
    | succ d ih =>
      intro i hd
      have h1 := ih i (by omega)
      have h2 := h (i + d + 1) (by omega) (by omega)
      simp only [Nat.add_sub_cancel] at h2
      exact Int.le_trans h1 h2
  intro i j hi hj hij
  have := key (j - i) i (by omega)
  simpa [show i + (j - i) = j by omega] using this
theorem sortB_get {l : List Int} (h : sortB l = true) {i j : Nat} (hi : i < l.length) (hj : j < l.length) (hij : i ≤ j) : l[i] ≤ l[j] := by
  unfold sortB at h
  simp only [decide_eq_true_eq] at h
  rw [List.pairwise_iff_getElem] at h
  by_cases e : i = j
  · subst e; exact Int.le_refl _
  · exact h i j hi hj (by omega)
theorem sortB_at {l : List Int} {k : Nat} (hk : k < l.length) (h0 : 0 < k) (h : l[k] < l[k-1]'(by omega)) : sortB l = false := by
  cases q : sortB l
  · rfl
  · have := sortB_get q (show k - 1 < l.length by omega) hk (by omega)
    omega

/-- valid times -/
def tvB (l : List Int) : Bool := allB l 0 100000 && sortB l && decide (l.length ≤ 60)

/-- how many of the first g are at most top -/
def cnt : Nat → Int → List Int → Nat
  | 0, _, _ => 0
  | _ + 1, _, [] => 0
  | g + 1, top, x :: r => if x ≤ top then cnt g top r + 1 else 0

theorem cnt_is (g : Nat) (top : Int) : ∀ (m : Nat) (g : Nat) (xs : List Int), m ≤ g → ∀ (hm : m ≤ xs.length), (∀ j (hj : j < m), xs[j]'(by omega) ≤ top) → (m = g ∨ m = xs.length ∨ ∃ h : m < xs.length, top < xs[m]) → cnt g top xs = m := by
  intro m
  induction m with
  | zero =>
    intro g xs hg hm _ hx
    cases g with
    | zero => rfl
    | succ g =>
      cases xs with
      | nil => rfl
      | cons x r =>
        rcases hx with h | h | ⟨_, h⟩
        · omega
        · simp at h
        · simp only [List.getElem_cons_zero] at h
          simp only [cnt]
          rw [if_neg (by omega)]
  | succ m ih =>
    intro g xs hg hm hj hx
    cases g with
    | zero => omega
    | succ g =>
      cases xs with
      | nil => simp at hm
      | cons x r =>
        have h0 := hj 0 (by omega)
        simp only [List.getElem_cons_zero] at h0
        simp only [cnt]
        rw [if_pos h0, ih g r (by omega) (by simpa using hm) (fun j hj' => by have := hj (j + 1) (by omega); simpa using this)]
        rcases hx with h | h | ⟨h1, h2⟩
        · left; omega
        · right; left; simpa using h
        · right; right; exact ⟨by simpa using h1, by simpa using h2⟩

theorem cnt_le : ∀ (g : Nat) (top : Int) (xs : List Int), cnt g top xs ≤ g ∧ cnt g top xs ≤ xs.length := by
  intro g
  induction g with
  | zero => intro top xs; simp [cnt]
  | succ g ih =>
    intro top xs
    cases xs with
    | nil => simp [cnt]
    | cons x r =>
      have := ih top r
      simp only [cnt]
      split <;> simp <;> omega
theorem cnt_get : ∀ (g : Nat) (top : Int) (xs : List Int) (j : Nat) (hj : j < cnt g top xs) (hx : j < xs.length), xs[j] ≤ top := by
  intro g
  induction g with
  | zero => intro top xs j hj; simp [cnt] at hj
  | succ g ih =>
    intro top xs j hj hx
    cases xs with
    | nil => simp at hx
    | cons x r =>
      simp only [cnt] at hj
      split at hj
      · cases j with
        | zero => simpa
        | succ j => simpa using ih top r j (by omega) (by simpa using hx)
      · omega

def cntS (g wt : Int) (xs : List Int) : Nat := cnt g.toNat (xs.headD 0 + wt) xs
def repT (g wt : Int) (xs : List Int) : Int := if cntS g wt xs = g.toNat then xs.getD (cntS g wt xs - 1) 0 else xs.headD 0 + wt
def sigF (g wt : Int) : Nat → List Int → List (Int × Int)
  | 0, _ => []
  | _ + 1, [] => []
  | f + 1, x :: r => (repT g wt (x :: r), x) :: sigF g wt f (r.drop (cntS g wt (x :: r) - 1))
def sigP (g wt : Int) (l : List Int) : List (Int × Int) := sigF g wt l.length l

theorem sigF_fuel (g wt : Int) : ∀ (f : Nat) (l : List Int) (f' : Nat), l.length ≤ f → l.length ≤ f' → sigF g wt f l = sigF g wt f' l := by
  intro f
  induction f with
  | zero =>
    intro l f' h h'
    have : l = [] := List.eq_nil_of_length_eq_zero (by omega)
    subst this
    cases f' <;> rfl
  | succ f ih =>
    intro l f' h h'
    cases l with
    | nil => cases f' <;> rfl
    | cons x r =>
      cases f' with
      | zero => simp at h'
      | succ f' =>
        simp only [sigF]
        simp only [List.length_cons] at h h'
        rw [ih (r.drop _) f' (by rw [List.length_drop]; omega) (by rw [List.length_drop]; omega)]

theorem cntS_pos (g wt : Int) (xs : List Int) (hg : 1 ≤ g) (hw : 0 ≤ wt) (hx : xs ≠ []) : 1 ≤ cntS g wt xs := by
  cases xs with
  | nil => exact absurd rfl hx
  | cons x r =>
    unfold cntS
    obtain ⟨m, hm⟩ : ∃ m, g.toNat = m + 1 := ⟨g.toNat - 1, by omega⟩
    rw [hm]
    show 1 ≤ (if x ≤ x + wt then cnt m (x + wt) r + 1 else 0)
    rw [if_pos (by omega)]
    omega

theorem sigP_nil (g wt : Int) : sigP g wt [] = [] := rfl
theorem sigP_step (g wt : Int) (xs : List Int) (hg : 1 ≤ g) (hw : 0 ≤ wt) (hx : xs ≠ []) : sigP g wt xs = (repT g wt xs, xs.headD 0) :: sigP g wt (xs.drop (cntS g wt xs)) := by
  have hp := cntS_pos g wt xs hg hw hx
  cases xs with
  | nil => exact absurd rfl hx
  | cons x r =>
    unfold sigP
    simp only [List.length_cons, sigF, List.headD_cons]
    obtain ⟨m, hm⟩ : ∃ m, cntS g wt (x :: r) = m + 1 := ⟨cntS g wt (x :: r) - 1, by omega⟩
    rw [hm, List.drop_succ_cons, Nat.add_sub_cancel]
    congr 1
    exact sigF_fuel g wt _ _ _ (by rw [List.length_drop]; omega) (Nat.le_refl _)

theorem repT_le (g wt : Int) (xs : List Int) (hg : 1 ≤ g) (hw : 0 ≤ wt) (hx : xs ≠ []) : repT g wt xs ≤ xs.headD 0 + wt := by
  have hp := cntS_pos g wt xs hg hw hx
  have hl : cntS g wt xs ≤ xs.length := (cnt_le _ _ _).2
  unfold repT
  split
  · have := cnt_get g.toNat (xs.headD 0 + wt) xs (cntS g wt xs - 1) (by unfold cntS at *; omega) (by omega)
    simp only [List.getD_eq_getElem?_getD]
    rw [List.getElem?_eq_getElem (by omega)]
    simpa using this
  · omega

def sgOk (l : List Int) (g wt : Int) : Bool := tvB l && inB g 1 10 && inB wt 0 100000
def sgR (l : List Int) (g wt : Int) : List Int := if sgOk l g wt = true then (sigP g wt l).map Prod.fst else []
def most (m : Int) (ps : List (Int × Int)) : Int := ps.foldl (fun m p => max m (p.1 - p.2)) m
def lwR (l : List Int) (g wt : Int) : Int := if sgOk l g wt = true then most 0 (sigP g wt l) else -1

theorem sigP_length (g wt : Int) (hg : 1 ≤ g) (hw : 0 ≤ wt) : ∀ (m : Nat) (xs : List Int), xs.length ≤ m → (sigP g wt xs).length ≤ xs.length := by
  intro m
  induction m with
  | zero => intro xs h; rw [List.eq_nil_of_length_eq_zero (by omega : xs.length = 0)]; simp [sigP_nil]
  | succ m ih =>
    intro xs h
    by_cases hx : xs = []
    · subst hx; simp [sigP_nil]
    · have hp := cntS_pos g wt xs hg hw hx
      have hl : 0 < xs.length := by cases xs <;> simp_all
      rw [sigP_step g wt xs hg hw hx]
      have := ih (xs.drop (cntS g wt xs)) (by rw [List.length_drop]; omega)
      rw [List.length_drop] at this
      simp only [List.length_cons]
      omega
theorem sgR_length (l : List Int) (g wt : Int) : (sgR l g wt).length ≤ l.length := by
  unfold sgR
  split
  · rename_i h
    unfold sgOk at h
    simp only [Bool.and_eq_true, inB_iff] at h
    rw [List.length_map]
    exact sigP_length g wt h.1.2.1 h.2.1 _ _ (Nat.le_refl _)
  · simp
theorem drop_ne (l : List Int) (k : Nat) (hk : k < l.length) : l.drop k ≠ [] := by
  intro h
  have := congrArg List.length h
  rw [List.length_drop] at this
  simp at this
  omega
theorem drop_head (l : List Int) (k : Nat) (hk : k < l.length) : (l.drop k).headD 0 = l[k] := by
  rw [List.drop_eq_getElem_cons hk]; rfl
end Go.Proofs.Ytfelfopcmkeimaa
