/-
  Requests, plain: merging and dividing.
-/
import Derived.Test.YtmcpkoogcglomaaRqC
namespace Go.Proofs.Ytmcpkoogcglomaa
open Go.ChangeShapes Go.WideShapes Go.ChangeAt Go.RowKit Go.BigFrame

/-- b can be appended to a -/
def joins (most : Int) (a b : Rq) : Bool := (a.write == b.write) && (a.at_ + a.count == b.at_) && decide (a.count + b.count ≤ most)
theorem joins_iff {most : Int} {a b : Rq} : joins most a b = true ↔ a.write = b.write ∧ a.at_ + a.count = b.at_ ∧ a.count + b.count ≤ most := by
  simp [joins, and_assoc]

def mIns (most : Int) : List Rq → Rq → List Rq
  | [], r => [r]
  | x :: xs, r => if joins most x r then ⟨x.at_, x.count + r.count, x.write⟩ :: xs else x :: mIns most xs r
def mrg (most : Int) (l : List Rq) : List Rq := l.foldl (mIns most) []
def mrR (l : List Rq) (most : Int) : List Rq := if (rv l && inB most 1 200) = true then mrg most l else []

theorem mIns_length (most : Int) : ∀ (xs : List Rq) (r : Rq), (mIns most xs r).length ≤ xs.length + 1 := by
  intro xs
  induction xs with
  | nil => intro r; simp [mIns]
  | cons x xs ih =>
    intro r
    simp only [mIns]
    split
    · simp
    · have := ih r; simp; omega
theorem fold_length (most : Int) : ∀ (l acc : List Rq), (l.foldl (mIns most) acc).length ≤ acc.length + l.length := by
  intro l
  induction l with
  | nil => intro acc; simp
  | cons r l ih =>
    intro acc
    have := ih (mIns most acc r)
    have := mIns_length most acc r
    simp only [List.foldl_cons, List.length_cons]
    omega
theorem mrg_length (most : Int) (l : List Rq) : (mrg most l).length ≤ l.length := by
  have := fold_length most l []
  simpa [mrg] using this
theorem mrR_length (l : List Rq) (most : Int) : (mrR l most).length ≤ l.length := by
  unfold mrR
  split
  · exact mrg_length most l
  · simp
theorem mrg_take (most : Int) (l : List Rq) (k : Nat) (h : k < l.length) : mrg most (l.take (k + 1)) = mIns most (mrg most (l.take k)) l[k] := by
  unfold mrg
  rw [List.take_succ_eq_append_getElem h, List.foldl_append]
  rfl

theorem mIns_no (most : Int) (r : Rq) : ∀ (xs : List Rq), (∀ j (hj : j < xs.length), joins most xs[j] r = false) → mIns most xs r = xs ++ [r] := by
  intro xs
  induction xs with
  | nil => intro _; rfl
  | cons x xs ih =>
    intro h
    have h0 := h 0 (by simp)
    simp only [List.getElem_cons_zero] at h0
    simp only [mIns]
    rw [if_neg (by simp [h0]), ih (fun j hj => by have := h (j + 1) (by simp; omega); simpa using this)]
    rfl
theorem mIns_at (most : Int) (r : Rq) : ∀ (xs : List Rq) (k : Nat) (hk : k < xs.length), (∀ j (hj : j < xs.length), j < k → joins most xs[j] r = false) → joins most xs[k] r = true →
    mIns most xs r = xs.set k ⟨xs[k].at_, xs[k].count + r.count, xs[k].write⟩ := by
  intro xs
  induction xs with
  | nil => intro k hk; simp at hk
  | cons x xs ih =>
    intro k hk h hj
    cases k with
    | zero =>
      simp only [List.getElem_cons_zero] at hj
      simp only [mIns]
      rw [if_pos hj]
      rfl
    | succ k =>
      have h0 := h 0 (by simp) (by omega)
      simp only [List.getElem_cons_zero] at h0
      simp only [mIns]
      rw [if_neg (by simp [h0]), ih k (by simpa using hk) (fun j hj' hlt => by have := h (j + 1) (by simp; omega) (by omega); simpa using this) (by simpa using hj)]
      rfl

/-- the place of the first element with a property -/
theorem idxP_lt (p : Rq → Bool) : ∀ (l : List Rq) (n k : Nat), k ≤ n → (∀ f ∈ l, p f = false) → idxP p n l = -1 := by
  intro l
  induction l with
  | nil => intro n k _ _; rfl
  | cons f r ih =>
    intro n k hk h
    simp only [idxP]
    rw [if_neg (by simp [h f List.mem_cons_self])]
    exact ih (n + 1) k (by omega) (fun g hg => h g (List.mem_cons_of_mem _ hg))
theorem idxP_cases (p : Rq → Bool) : ∀ (l : List Rq) (n : Nat), (idxP p n l = -1 ∧ ∀ j (hj : j < l.length), p l[j] = false) ∨ ∃ k : Nat, ∃ hk : k < l.length, idxP p n l = ((n + k : Nat) : Int) ∧ p l[k] = true ∧ ∀ j (hj : j < l.length), j < k → p l[j] = false := by
  intro l
  induction l with
  | nil => intro n; left; exact ⟨rfl, fun j hj => by simp at hj⟩
  | cons f r ih =>
    intro n
    by_cases h : p f = true
    · right
      exact ⟨0, by simp, by simp [idxP, h], by simpa using h, fun j _ hj => by omega⟩
    · have hf : p f = false := by simpa using h
      rcases ih (n + 1) with ⟨h1, h2⟩ | ⟨k, hk, h1, h2, h3⟩
      · left
        refine ⟨by simp only [idxP]; rw [if_neg h]; exact h1, fun j hj => ?_⟩
        cases j with
        | zero => simpa using hf
        | succ j => simpa using h2 j (by simpa using hj)
      · right
        refine ⟨k + 1, by simpa using hk, by simp only [idxP]; rw [if_neg h, h1]; congr 1; omega, by simpa using h2, fun j hj hlt => ?_⟩
        cases j with
        | zero => simpa using hf
        | succ j => simpa using h3 j (by simpa using hj) (by omega)

/-- how many requests of a kind hold a sector -/
def cov1 (at_ : Int) (wr : Bool) (r : Rq) : Bool := (r.write == wr) && decide (r.at_ ≤ at_) && decide (at_ < r.at_ + r.count)
def cov (l : List Rq) (at_ : Int) (wr : Bool) : Int := ((l.countP (cov1 at_ wr) : Nat) : Int)
theorem cov_mIns (most at_ : Int) (wr : Bool) : ∀ (xs : List Rq) (r : Rq), 0 ≤ r.count → (∀ x ∈ xs, 0 ≤ x.count) → (mIns most xs r).countP (cov1 at_ wr) = xs.countP (cov1 at_ wr) + (if cov1 at_ wr r then 1 else 0) := by
  intro xs
  induction xs with
  | nil => intro r _ _; simp [mIns, List.countP_cons]
  | cons x xs ih =>
    intro r hr hx
    simp only [mIns]
    by_cases h : joins most x r = true
    · rw [if_pos h]
      obtain ⟨h1, h2, _⟩ := joins_iff.1 h
      have hxc := hx x List.mem_cons_self
      simp only [List.countP_cons]
      have key : (if cov1 at_ wr ⟨x.at_, x.count + r.count, x.write⟩ = true then 1 else 0) = (if cov1 at_ wr x = true then 1 else 0) + (if cov1 at_ wr r = true then 1 else 0) := by
        unfold cov1
        simp only [Bool.and_eq_true, decide_eq_true_eq, beq_iff_eq]
        rw [← h1]
        by_cases hw : x.write = wr
        · simp only [hw, true_and]
          split <;> split <;> split <;> omega
        · simp only [hw, false_and, if_false]
      rw [key]; omega
    · rw [if_neg h]
      simp only [List.countP_cons]
      rw [ih r hr (fun y hy => hx y (List.mem_cons_of_mem _ hy))]
      omega
theorem mIns_all (most : Int) (p : Rq → Prop) (hp : ∀ x r : Rq, p x → p r → joins most x r = true → p ⟨x.at_, x.count + r.count, x.write⟩) : ∀ (xs : List Rq) (r : Rq), (∀ x ∈ xs, p x) → p r → ∀ y ∈ mIns most xs r, p y := by
  intro xs
  induction xs with
  | nil => intro r _ hr y hy; simp [mIns] at hy; rw [hy]; exact hr
  | cons x xs ih =>
    intro r hx hr y hy
    simp only [mIns] at hy
    by_cases h : joins most x r = true
    · rw [if_pos h] at hy
      rcases List.mem_cons.1 hy with rfl | hy
      · exact hp x r (hx x List.mem_cons_self) hr h
      · exact hx y (List.mem_cons_of_mem _ hy)
    · rw [if_neg h] at hy
      rcases List.mem_cons.1 hy with rfl | hy
      · exact hx _ List.mem_cons_self
      · exact ih r (fun z hz => hx z (List.mem_cons_of_mem _ hz)) hr y hy
theorem fold_all (most : Int) (p : Rq → Prop) (hp : ∀ x r : Rq, p x → p r → joins most x r = true → p ⟨x.at_, x.count + r.count, x.write⟩) : ∀ (l acc : List Rq), (∀ x ∈ l, p x) → (∀ x ∈ acc, p x) → ∀ y ∈ l.foldl (mIns most) acc, p y := by
  intro l
  induction l with
  | nil => intro acc _ h; exact h
  | cons r l ih =>
    intro acc hl ha
    exact ih _ (fun x hx => hl x (List.mem_cons_of_mem _ hx)) (mIns_all most p hp acc r ha (hl r List.mem_cons_self))
theorem fold_cov (most at_ : Int) (wr : Bool) : ∀ (l acc : List Rq), (∀ x ∈ l, 0 ≤ x.count) → (∀ x ∈ acc, 0 ≤ x.count) → (l.foldl (mIns most) acc).countP (cov1 at_ wr) = acc.countP (cov1 at_ wr) + l.countP (cov1 at_ wr) := by
  intro l
  induction l with
  | nil => intro acc _ _; simp
  | cons r l ih =>
    intro acc hl ha
    have hr := hl r List.mem_cons_self
    simp only [List.foldl_cons, List.countP_cons]
    rw [ih _ (fun x hx => hl x (List.mem_cons_of_mem _ hx)) (mIns_all most (fun x => 0 ≤ x.count) (fun x r hx hr _ => by simp only at *; omega) acc r ha hr), cov_mIns most at_ wr acc r hr ha]
    omega
theorem mrg_cov (most at_ : Int) (wr : Bool) (l : List Rq) (h : ∀ x ∈ l, 0 ≤ x.count) : cov (mrg most l) at_ wr = cov l at_ wr := by
  unfold cov mrg
  rw [fold_cov most at_ wr l [] h (by simp)]
  simp
theorem tot_cons (x : Rq) (l : List Rq) : tot (x :: l) = x.count + tot l := by simp [tot]
theorem tot_append (a b : List Rq) : tot (a ++ b) = tot a + tot b := by simp [tot]
theorem mIns_tot (most : Int) : ∀ (xs : List Rq) (r : Rq), tot (mIns most xs r) = tot xs + r.count := by
  intro xs
  induction xs with
  | nil => intro r; simp [mIns, tot]
  | cons x xs ih =>
    intro r
    simp only [mIns]
    split
    · simp only [tot_cons]; omega
    · simp only [tot_cons, ih]; omega
theorem mrg_tot (most : Int) (l : List Rq) : tot (mrg most l) = tot l := by
  have key : ∀ (l acc : List Rq), tot (l.foldl (mIns most) acc) = tot acc + tot l := by
    intro l
    induction l with
    | nil => intro acc; simp [tot]
    | cons r l ih => intro acc; simp only [List.foldl_cons]; rw [ih, mIns_tot, tot_cons]; omega
  unfold mrg
  rw [key]; simp [tot]

theorem rv_iff {l : List Rq} : rv l = true ↔ (∀ x ∈ l, okR x = true) ∧ l.length ≤ 30 := by
  unfold rv; simp
theorem okR_iff {r : Rq} : okR r = true ↔ (0 ≤ r.at_ ∧ r.at_ ≤ 100000) ∧ 1 ≤ r.count ∧ r.count ≤ 200 := by
  unfold okR; simp only [Bool.and_eq_true, inB_iff]
theorem mrg_ok (most : Int) (l : List Rq) (h : rv l = true) (hm : most ≤ 200) : rv (mrg most l) = true := by
  rw [rv_iff] at h ⊢
  refine ⟨?_, by have := mrg_length most l; omega⟩
  exact fold_all most (fun x => okR x = true) (fun x r hx hr hj => by
    rw [okR_iff] at *
    have := joins_iff.1 hj
    simp only
    omega) l [] h.1 (by simp)
theorem mrR_ok {l : List Rq} {most : Int} (h : mrR l most ≠ []) : rv l = true ∧ (1 ≤ most ∧ most ≤ 200) ∧ mrR l most = mrg most l := by
  unfold mrR at h ⊢
  split at h
  · rename_i hc
    rw [if_pos hc]
    simp only [Bool.and_eq_true, inB_iff] at hc
    exact ⟨hc.1, hc.2, rfl⟩
  · exact absurd rfl h
theorem mrg_one (l : List Rq) (h : rv l = true) : mrg 1 l = l := by
  have key : ∀ (l acc : List Rq), (∀ x ∈ l, 1 ≤ x.count) → (∀ x ∈ acc, 1 ≤ x.count) → l.foldl (mIns 1) acc = acc ++ l := by
    intro l
    induction l with
    | nil => intro acc _ _; simp
    | cons r l ih =>
      intro acc hl ha
      have hr := hl r List.mem_cons_self
      simp only [List.foldl_cons]
      have e : mIns 1 acc r = acc ++ [r] := mIns_no 1 r acc (fun j hj => by
        have := ha _ (List.getElem_mem hj)
        cases q : joins 1 acc[j] r
        · rfl
        · have := joins_iff.1 q; omega)
      rw [e, ih _ (fun x hx => hl x (List.mem_cons_of_mem _ hx)) (by
        intro x hx
        rcases List.mem_append.1 hx with hx | hx
        · exact ha x hx
        · simp at hx; rw [hx]; exact hr)]
      simp
  unfold mrg
  rw [key l [] (fun x hx => (okR_iff.1 ((rv_iff.1 h).1 x hx)).2.1) (by simp)]
  rfl
/-- what the law of merging needs -/
theorem mrR_facts {l : List Rq} {most : Int} (h : 0 < (mrR l most).length) :
    (∀ at_ wr, cov (mrR l most) at_ wr = cov l at_ wr) ∧ (mrR l most).length ≤ l.length ∧ mrR l 1 = l ∧ totR (mrR l most) = totR l := by
  obtain ⟨h1, h2, h3⟩ := mrR_ok (l := l) (most := most) (by intro e; rw [e] at h; simp at h)
  have hc : ∀ x ∈ l, 0 ≤ x.count := fun x hx => by have := okR_iff.1 ((rv_iff.1 h1).1 x hx); omega
  refine ⟨fun at_ wr => by rw [h3]; exact mrg_cov most at_ wr l hc, mrR_length l most, ?_, ?_⟩
  · unfold mrR
    rw [h1, if_pos (by rfl), mrg_one l h1]
  · unfold totR
    rw [h3, h1, mrg_ok most l h1 h2.2, mrg_tot]

/-- the parts of a request -/
def splN (most border : Int) (r : Rq) : Int := min (min r.count most) (border - r.at_ % border)
def splF (most border : Int) : Nat → Rq → List Rq
  | 0, _ => []
  | f + 1, r => if r.count ≤ 0 then [] else ⟨r.at_, splN most border r, r.write⟩ :: splF most border f ⟨r.at_ + splN most border r, r.count - splN most border r, r.write⟩
def splP (most border : Int) (r : Rq) : List Rq := splF most border r.count.toNat r
def splOk (r : Rq) (most border : Int) : Bool := okR r && inB most 1 200 && inB border 1 200
def splR (r : Rq) (most border : Int) : List Rq := if splOk r most border = true then splP most border r else []

theorem splN_bd {most border : Int} {r : Rq} (h1 : 1 ≤ most) (h2 : 1 ≤ border) (h3 : 1 ≤ r.count) : 1 ≤ splN most border r ∧ splN most border r ≤ r.count ∧ splN most border r ≤ most := by
  unfold splN
  have := Int.emod_lt_of_pos r.at_ (show 0 < border by omega)
  omega
theorem splF_fuel (most border : Int) (h1 : 1 ≤ most) (h2 : 1 ≤ border) : ∀ (f : Nat) (r : Rq) (f' : Nat), r.count.toNat ≤ f → r.count.toNat ≤ f' → splF most border f r = splF most border f' r := by
  intro f
  induction f with
  | zero =>
    intro r f' h h'
    cases f' with
    | zero => rfl
    | succ f' => simp only [splF]; rw [if_pos (by omega)]
  | succ f ih =>
    intro r f' h h'
    cases f' with
    | zero => simp only [splF]; rw [if_pos (by omega)]
    | succ f' =>
      simp only [splF]
      by_cases hc : r.count ≤ 0
      · rw [if_pos hc, if_pos hc]
      · have b := splN_bd (most := most) (border := border) (r := r) h1 h2 (by omega)
        rw [if_neg hc, if_neg hc, ih _ f' (by simp only; omega) (by simp only; omega)]
theorem splP_nil (most border : Int) (r : Rq) (h : r.count ≤ 0) : splP most border r = [] := by
  unfold splP
  cases r.count.toNat with
  | zero => rfl
  | succ f => simp only [splF]; rw [if_pos h]
theorem splP_step (most border : Int) (h1 : 1 ≤ most) (h2 : 1 ≤ border) (r : Rq) (h : 1 ≤ r.count) : splP most border r = ⟨r.at_, splN most border r, r.write⟩ :: splP most border ⟨r.at_ + splN most border r, r.count - splN most border r, r.write⟩ := by
  have b := splN_bd (most := most) (border := border) (r := r) h1 h2 h
  obtain ⟨f, hf⟩ : ∃ f, r.count.toNat = f + 1 := ⟨r.count.toNat - 1, by omega⟩
  unfold splP
  rw [hf]
  simp only [splF]
  rw [if_neg (by omega)]
  congr 1
  exact splF_fuel most border h1 h2 f _ _ (by simp only; omega) (by simp only; omega)
theorem splP_length (most border : Int) (h1 : 1 ≤ most) (h2 : 1 ≤ border) : ∀ (q : Nat) (r : Rq), r.count.toNat ≤ q → (splP most border r).length ≤ r.count.toNat := by
  intro q
  induction q with
  | zero => intro r h; rw [splP_nil most border r (by omega)]; simp
  | succ q ih =>
    intro r h
    by_cases hc : r.count ≤ 0
    · rw [splP_nil most border r hc]; simp
    · have b := splN_bd (most := most) (border := border) (r := r) h1 h2 (by omega)
      rw [splP_step most border h1 h2 r (by omega)]
      have := ih ⟨r.at_ + splN most border r, r.count - splN most border r, r.write⟩ (by simp only; omega)
      simp only [List.length_cons] at this ⊢
      omega
theorem splOk_parts {r : Rq} {most border : Int} (h : splOk r most border = true) : okR r = true ∧ inB most 1 200 = true ∧ inB border 1 200 = true := by
  unfold splOk at h; simp only [Bool.and_eq_true] at h; exact ⟨h.1.1, h.1.2, h.2⟩
theorem splR_length (r : Rq) (most border : Int) : (splR r most border).length ≤ 200 := by
  unfold splR
  split
  · rename_i h
    obtain ⟨q0, q1, q2⟩ := splOk_parts h
    have b0 := okR_iff.1 q0
    have b1 := inB_iff.1 q1
    have b2 := inB_iff.1 q2
    have := splP_length most border b1.1 b2.1 _ r (Nat.le_refl _)
    omega
  · simp
end Go.Proofs.Ytmcpkoogcglomaa
