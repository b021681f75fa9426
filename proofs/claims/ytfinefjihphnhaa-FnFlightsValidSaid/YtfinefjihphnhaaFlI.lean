/-
  Flights, plain: what the laws say.
-/
import Derived.Test.YtfinefjihphnhaaFlE
namespace Go.Proofs.Ytfinefjihphnhaa
open Go.ChangeShapes Go.WideShapes Go.ChangeAt Go.RowKit Go.BigFrame

theorem fv_iff {l : List Fl} : fv l = true ↔ (∀ f ∈ l, okF f = true) ∧ l.Pairwise (fun a b => a.tag ≠ b.tag) ∧ l.length ≤ 16 := by
  constructor
  · intro h
    refine ⟨fun f hf => ?_, ?_, fv_length l h⟩
    · obtain ⟨i, hi, rfl⟩ := List.getElem_of_mem hf
      exact fv_ok l h i hi
    · rw [List.pairwise_iff_getElem]
      intro i j hi hj hij
      unfold fv at h
      rw [Bool.and_eq_true, List.all_eq_true] at h
      have g := h.1 j (by simpa using hj)
      rw [goodF_eq l j hj, Bool.and_eq_true, decide_eq_true_eq, idx_neg] at g
      exact g.2 _ (List.mem_take_iff_getElem.2 ⟨i, by omega, rfl⟩)
  · rintro ⟨h1, h2, h3⟩
    rw [fv_end l ?_]
    · simpa using h3
    · intro j hj
      rw [goodF_eq l j hj, Bool.and_eq_true, decide_eq_true_eq, idx_neg]
      refine ⟨h1 _ (List.getElem_mem hj), fun f hf => ?_⟩
      obtain ⟨i, hi, rfl⟩ := List.mem_take_iff_getElem.1 hf
      exact (List.pairwise_iff_getElem.1 h2) i j (by omega) hj (by omega)
theorem fv_drop {l : List Fl} (h : fv l = true) (k : Nat) : fv (l.drop k) = true := by
  obtain ⟨h1, h2, h3⟩ := fv_iff.1 h
  exact fv_iff.2 ⟨fun f hf => h1 f (List.mem_of_mem_drop hf), h2.sublist (List.drop_sublist _ _), by rw [List.length_drop]; omega⟩
theorem fv_again {l : List Fl} (h : 0 < l.length) : fv (l ++ [l[0]]) = false := by
  cases q : fv (l ++ [l[0]])
  · rfl
  · obtain ⟨_, h2, _⟩ := fv_iff.1 q
    rw [List.pairwise_append] at h2
    exact absurd rfl (h2.2.2 l[0] (List.getElem_mem h) l[0] (by simp))

theorem lateL_pos {now limit : Int} {l : List Fl} {f : Fl} (hf : f ∈ l) (h : limit ≤ now - f.since) : 0 < (lateL now limit l).length := by
  induction l with
  | nil => simp at hf
  | cons x r ih =>
    simp only [lateL, List.length_append]
    rcases List.mem_cons.1 hf with rfl | hf
    · rw [if_pos h]; simp only [List.length_cons, List.length_nil]; omega
    · have := ih hf; omega
theorem lateL_nil {now limit : Int} {l : List Fl} (h : ∀ f ∈ l, ¬ limit ≤ now - f.since) : lateL now limit l = [] := by
  induction l with
  | nil => rfl
  | cons x r ih =>
    simp only [lateL]
    rw [if_neg (h x List.mem_cons_self), ih (fun f hf => h f (List.mem_cons_of_mem _ hf))]
    rfl
theorem lateL_sub {now now' limit limit' : Int} (h1 : now ≤ now') (h2 : limit' ≤ limit) (l : List Fl) : (lateL now limit l).Sublist (lateL now' limit' l) := by
  induction l with
  | nil => exact List.Sublist.refl _
  | cons x r ih =>
    simp only [lateL]
    refine List.Sublist.append ?_ ih
    by_cases h : limit ≤ now - x.since
    · rw [if_pos h, if_pos (by omega)]
      exact List.Sublist.refl _
    · rw [if_neg h]
      exact List.nil_sublist _
theorem lateR_ok {l : List Fl} {now limit : Int} {X : List Int} (e : lateR l now limit = X) (h : 0 < X.length) : fv l = true ∧ (0 ≤ now ∧ now ≤ 100000) ∧ (1 ≤ limit ∧ limit ≤ 100000) ∧ X = lateL now limit l := by
  subst e
  unfold lateR at h ⊢
  split at h
  · rename_i q
    rw [if_pos q]
    simp only [Bool.and_eq_true, inB_iff] at q
    exact ⟨q.1.1, q.1.2, q.2, rfl⟩
  · simp at h
theorem lateR_of {l : List Fl} {now limit : Int} (h : fv l = true) (h1 : 0 ≤ now ∧ now ≤ 100000) (h2 : 1 ≤ limit ∧ limit ≤ 100000) : lateR l now limit = lateL now limit l := by
  unfold lateR
  rw [if_pos (by simp only [Bool.and_eq_true, inB_iff]; exact ⟨⟨h, h1⟩, h2⟩)]
theorem lateR_facts {l : List Fl} {now limit : Int} {X : List Int} (e : lateR l now limit = X) (h : 0 < X.length) :
    (0 ≤ now ∧ now ≤ 100000) ∧ (1 ≤ limit ∧ limit ≤ 100000) ∧ X.Sublist (lateR l (min 100000 (now + 1)) limit) ∧ X.length ≤ (lateR l now (max 1 (limit - 1))).length := by
  obtain ⟨h1, h2, h3, h4⟩ := lateR_ok e h
  refine ⟨h2, h3, ?_, ?_⟩
  · rw [h4, lateR_of h1 (by omega) h3]
    exact lateL_sub (by omega) (Int.le_refl _) l
  · rw [h4, lateR_of h1 h2 (by omega)]
    exact (lateL_sub (Int.le_refl _) (by omega) l).length_le
theorem lateR_length (l : List Fl) (now limit : Int) : (lateR l now limit).length ≤ l.length := by
  unfold lateR
  split
  · exact lateL_length now limit l
  · simp

theorem minS_lb (l : List Fl) (m : Int) : l.foldl (fun m f => min m f.since) m ≤ m ∧ (∀ f ∈ l, l.foldl (fun m f => min m f.since) m ≤ f.since) ∧ (l.foldl (fun m f => min m f.since) m = m ∨ ∃ f ∈ l, f.since = l.foldl (fun m f => min m f.since) m) := by
  induction l generalizing m with
  | nil => simp
  | cons x r ih =>
    simp only [List.foldl_cons]
    obtain ⟨h1, h2, h3⟩ := ih (min m x.since)
    refine ⟨by omega, fun f hf => ?_, ?_⟩
    · rcases List.mem_cons.1 hf with rfl | hf
      · omega
      · exact h2 f hf
    · rcases h3 with h3 | ⟨f, hf, h3⟩
      · by_cases q : m ≤ x.since
        · left; rw [h3]; omega
        · right; exact ⟨x, List.mem_cons_self, by rw [h3]; omega⟩
      · right; exact ⟨f, List.mem_cons_of_mem _ hf, h3⟩
theorem nextR_facts {l : List Fl} {limit v : Int} (e : nextR l limit = v) : (v < 0 → v = -1) ∧ v ≤ 200000 ∧ (0 ≤ v → v ≤ 100000 → 0 < (lateR l v limit).length ∧ (lateR l (v - 1) limit).length = 0) := by
  subst e
  unfold nextR
  split
  · rename_i q
    simp only [Bool.and_eq_true, inB_iff, decide_eq_true_eq] at q
    obtain ⟨⟨q1, q2⟩, q3⟩ := q
    obtain ⟨m0, m1⟩ := minS_le l (fv_since l q1)
    refine ⟨fun h => by omega, by omega, fun h h' => ?_⟩
    obtain ⟨a, b, c⟩ := minS_lb l 100000
    change minS l ≤ 100000 at a
    change ∀ f ∈ l, minS l ≤ f.since at b
    change minS l = 100000 ∨ ∃ f ∈ l, f.since = minS l at c
    rw [lateR_of q1 (by omega) q2, lateR_of q1 (by omega) q2]
    constructor
    · rcases c with c | ⟨f, hf, c⟩
      · omega
      · exact lateL_pos hf (by omega)
    · rw [lateL_nil (fun f hf => by have := b f hf; omega)]
      rfl
  · exact ⟨fun _ => rfl, by omega, fun h => by omega⟩

theorem dropT_all {tag : Int} {l : List Fl} (h : ∀ f ∈ l, f.tag ≠ tag) : dropT tag l = l := by
  unfold dropT
  rw [List.filter_eq_self]
  intro f hf
  simpa using h f hf
theorem dropT_len {tag : Int} {l : List Fl} (h : l.Pairwise (fun a b => a.tag ≠ b.tag)) : l.length ≤ (dropT tag l).length + 1 := by
  induction l with
  | nil => simp
  | cons x r ih =>
    rw [List.pairwise_cons] at h
    by_cases q : x.tag = tag
    · have : dropT tag (x :: r) = r := by
        have e : dropT tag (x :: r) = dropT tag r := by unfold dropT; rw [List.filter_cons]; simp [q]
        rw [e, dropT_all (fun f hf => by have := h.1 f hf; omega)]
      rw [this]; simp
    · have e : dropT tag (x :: r) = x :: dropT tag r := by unfold dropT; rw [List.filter_cons]; simp [q]
      rw [e]
      have := ih h.2
      simp only [List.length_cons]
      omega
theorem land_facts {l X : List Fl} {tag : Int} (e : landL l tag = X) :
    (fv l = false → X = [] ∧ landB l tag = false) ∧
    (fv l = true → (∀ i (hi : i < X.length), X[i].tag ≠ tag) ∧ landB X tag = false ∧ landB l tag = decide (X.length < l.length) ∧ X.length ≤ l.length ∧ l.length ≤ X.length + 1) := by
  subst e
  constructor
  · intro h
    unfold landL landB
    rw [h]
    simp
  · intro h
    have e : landL l tag = dropT tag l := by unfold landL; rw [if_pos h]
    rw [e]
    have hne : ∀ f ∈ dropT tag l, f.tag ≠ tag := fun f hf => by
      unfold dropT at hf
      simpa using (List.mem_filter.1 hf).2
    refine ⟨fun i hi => hne _ (List.getElem_mem hi), ?_, ?_, List.length_filter_le _ _, dropT_len (fv_iff.1 h).2.1⟩
    · unfold landB
      rw [Bool.and_eq_false_iff]
      right
      have := (idx_neg tag (dropT tag l) 0).2 hne
      simp only [decide_eq_false_iff_not]
      omega
    · unfold landB
      rw [h, dropT_length_lt]
      simp
end Go.Proofs.Ytfinefjihphnhaa
