/-
  Flights, plain: what the laws on retrying say.
-/
import Derived.Test.YtfinefjihphnhaaFlI
import Derived.Test.YtfinefjihphnhaaFlF
namespace Go.Proofs.Ytfinefjihphnhaa
open Go.ChangeShapes Go.WideShapes Go.ChangeAt Go.RowKit Go.BigFrame

theorem fv_mem {l : List Fl} (h : fv l = true) {f : Fl} (hf : f ∈ l) : (0 ≤ f.tag ∧ f.tag ≤ 15) ∧ (0 ≤ f.since ∧ f.since ≤ 100000) ∧ (1 ≤ f.tries ∧ f.tries ≤ 5) := by
  obtain ⟨i, hi, rfl⟩ := List.getElem_of_mem hf
  exact fv_bounds l h i hi
theorem retO_tags (now limit : Int) (l : List Fl) : ((retO now limit l).map Fl.tag).Sublist (l.map Fl.tag) := by
  induction l with
  | nil => exact List.Sublist.refl _
  | cons f r ih =>
    simp only [retO, List.map_append, List.map_cons]
    by_cases h : isLate now limit f = true
    · rw [if_pos h]
      by_cases h5 : f.tries = 5
      · rw [if_pos h5]; exact ih.cons _
      · rw [if_neg h5]; exact ih.cons_cons _
    · rw [if_neg h]; exact ih.cons_cons _
theorem retO_mem {now limit : Int} {l : List Fl} {x : Fl} (h : x ∈ retO now limit l) :
    (∃ f ∈ l, isLate now limit f = true ∧ f.tries ≠ 5 ∧ x = ⟨f.tag, now, f.tries + 1⟩) ∨ (x ∈ l ∧ isLate now limit x = false) := by
  induction l with
  | nil => simp [retO] at h
  | cons f r ih =>
    simp only [retO, List.mem_append] at h
    rcases h with h | h
    · by_cases hl : isLate now limit f = true
      · rw [if_pos hl] at h
        by_cases h5 : f.tries = 5
        · rw [if_pos h5] at h; simp at h
        · rw [if_neg h5] at h
          exact .inl ⟨f, List.mem_cons_self, hl, h5, by simpa using h⟩
      · rw [if_neg hl] at h
        have hx : x = f := by simpa using h
        subst hx
        exact .inr ⟨List.mem_cons_self, by simpa using hl⟩
    · rcases ih h with ⟨g, hg, r1⟩ | ⟨hg, r1⟩
      · exact .inl ⟨g, List.mem_cons_of_mem _ hg, r1⟩
      · exact .inr ⟨List.mem_cons_of_mem _ hg, r1⟩
theorem retG_mem {now limit : Int} {l : List Fl} {t : Int} (h : t ∈ retG now limit l) : ∃ f ∈ l, f.tag = t ∧ f.tries = 5 := by
  induction l with
  | nil => simp [retG] at h
  | cons f r ih =>
    simp only [retG, List.mem_append] at h
    rcases h with h | h
    · by_cases hl : isLate now limit f = true
      · rw [if_pos hl] at h
        by_cases h5 : f.tries = 5
        · rw [if_pos h5] at h
          exact ⟨f, List.mem_cons_self, (by simpa using h : t = f.tag).symm, h5⟩
        · rw [if_neg h5] at h; simp at h
      · rw [if_neg hl] at h; simp at h
    · obtain ⟨g, hg, r1⟩ := ih h
      exact ⟨g, List.mem_cons_of_mem _ hg, r1⟩
theorem ret_sum (now limit : Int) (l : List Fl) : (retO now limit l).length + (retG now limit l).length = l.length := by
  induction l with
  | nil => simp [retO, retG]
  | cons f r ih =>
    simp only [retO, retG, List.length_append, List.length_cons]
    by_cases h : isLate now limit f = true
    · rw [if_pos h, if_pos h]
      by_cases h5 : f.tries = 5
      · rw [if_pos h5, if_pos h5]; simp only [List.length_nil, List.length_cons]; omega
      · rw [if_neg h5, if_neg h5]; simp only [List.length_nil, List.length_cons]; omega
    · rw [if_neg h, if_neg h]; simp only [List.length_nil, List.length_cons]; omega
theorem retO_fv {now limit : Int} {l : List Fl} (h : fv l = true) (h0 : 0 ≤ now ∧ now ≤ 100000) : fv (retO now limit l) = true := by
  obtain ⟨_, h2, h3⟩ := fv_iff.1 h
  refine fv_iff.2 ⟨fun x hx => ?_, ?_, ?_⟩
  · simp only [okF, Bool.and_eq_true, inB_iff]
    rcases retO_mem hx with ⟨f, hf, _, h5, rfl⟩ | ⟨hf, _⟩
    · have := fv_mem h hf
      simp only
      omega
    · have := fv_mem h hf
      omega
  · rw [← List.pairwise_map (R := fun a b : Int => a ≠ b)] at h2 ⊢
    exact h2.sublist (retO_tags now limit l)
  · have := ret_sum now limit l
    omega
theorem retO_late {now limit : Int} {l : List Fl} (h0 : 1 ≤ limit) : lateL now limit (retO now limit l) = [] := by
  refine lateL_nil (fun f hf => ?_)
  rcases retO_mem hf with ⟨g, _, _, _, rfl⟩ | ⟨_, h⟩
  · simp only; omega
  · simpa [isLate] using h
theorem retG_tries {now limit : Int} {l : List Fl} (h : fv l = true) {t : Int} (ht : t ∈ retG now limit l) {f : Fl} (hf : f ∈ l) (e : t = f.tag) : f.tries = 5 := by
  obtain ⟨g, hg, e2, h5⟩ := retG_mem ht
  obtain ⟨_, h2, _⟩ := fv_iff.1 h
  obtain ⟨i, hi, rfl⟩ := List.getElem_of_mem hf
  obtain ⟨j, hj, rfl⟩ := List.getElem_of_mem hg
  rw [List.pairwise_iff_getElem] at h2
  by_cases hij : i = j
  · subst hij; exact h5
  · exfalso
    rcases Nat.lt_or_ge i j with q | q
    · exact h2 i j hi hj q (by omega)
    · exact h2 j i hj hi (by omega) (by omega)

theorem retryOk_iff {l : List Fl} {now limit : Int} : retryOk l now limit = true ↔ fv l = true ∧ (0 ≤ now ∧ now ≤ 100000) ∧ (1 ≤ limit ∧ limit ≤ 100000) := by
  unfold retryOk
  simp only [Bool.and_eq_true, inB_iff]
  exact ⟨fun h => ⟨h.1.1, h.1.2, h.2⟩, fun h => ⟨⟨h.1, h.2.1⟩, h.2.2⟩⟩
theorem retry_no {l O : List Fl} {G : List Int} {now limit : Int} (eO : retryO l now limit = O) (eG : retryG l now limit = G) (h : ¬ (fv l = true ∧ (0 ≤ now ∧ now ≤ 100000) ∧ (1 ≤ limit ∧ limit ≤ 100000))) : O = [] ∧ G = [] := by
  subst eO; subst eG
  rw [← retryOk_iff] at h
  exact ⟨if_neg h, if_neg h⟩
theorem retry_yes {l O : List Fl} {G : List Int} {now limit : Int} (eO : retryO l now limit = O) (eG : retryG l now limit = G) (h1 : fv l = true) (h2 : 0 ≤ now ∧ now ≤ 100000) (h3 : 1 ≤ limit ∧ limit ≤ 100000) :
    O.length + G.length = l.length ∧ fv O = true ∧ lateR O now limit = [] ∧ (∀ j k (hj : j < G.length) (hk : k < l.length), G[j] = l[k].tag → l[k].tries = 5) := by
  have hok := retryOk_iff.2 ⟨h1, h2, h3⟩
  rw [retryO, if_pos hok] at eO
  rw [retryG, if_pos hok] at eG
  subst eO; subst eG
  refine ⟨ret_sum _ _ _, retO_fv h1 h2, ?_, fun j k hj hk e => retG_tries h1 (List.getElem_mem hj) (List.getElem_mem hk) e⟩
  rw [lateR_of (retO_fv h1 h2) h2 h3]
  exact retO_late h3.1
/-- all are late, and each has been sent r times -/
def Sent (now r : Int) (l : List Fl) : Prop := fv l = true ∧ ∀ f ∈ l, f.since < now ∧ r ≤ f.tries
theorem retry_step {l O : List Fl} {G : List Int} {now r : Int} (eO : retryO l now 1 = O) (eG : retryG l now 1 = G) (h2 : 0 ≤ now ∧ now ≤ 100000) (h : Sent now r l) :
    Sent (now + 1) (r + 1) O ∧ O.length + G.length = l.length := by
  obtain ⟨h1, h3, _, _⟩ := retry_yes eO eG h.1 h2 (by omega)
  refine ⟨⟨h3, fun x hx => ?_⟩, h1⟩
  have hok := retryOk_iff.2 ⟨h.1, h2, (by omega : (1 : Int) ≤ 1 ∧ (1 : Int) ≤ 100000)⟩
  rw [retryO, if_pos hok] at eO
  subst eO
  rcases retO_mem hx with ⟨f, hf, _, h5, rfl⟩ | ⟨hf, hl⟩
  · have := h.2 f hf
    simp only
    omega
  · have := h.2 x hf
    simp [isLate] at hl
    omega
theorem sent_end {l : List Fl} {now : Int} (h : Sent now 6 l) : l = [] := by
  cases l with
  | nil => rfl
  | cons f r =>
    have h1 := h.2 f List.mem_cons_self
    have h2 := fv_mem h.1 (List.mem_cons_self (a := f) (l := r))
    omega
theorem sent_start {l : List Fl} (h : fv l = true) (hd : ∀ x ∈ l, x.since ≤ 59 ∨ x.since = 100001) : Sent 200 1 l := by
  refine ⟨h, fun f hf => ?_⟩
  have h1 := fv_mem h hf
  have h2 := hd f hf
  omega
theorem Sent.to {now now' r r' : Int} {l : List Fl} (h : Sent now r l) (h1 : now = now') (h2 : r = r') : Sent now' r' l := by subst h1; subst h2; exact h
theorem retry_len (fl : List Fl) (now limit : Int) : (retryO fl now limit).length ≤ fl.length ∧ (retryG fl now limit).length ≤ fl.length := by
  have h := ret_length now limit fl
  unfold retryO retryG
  constructor
  · split
    · exact h.1
    · simp
  · split
    · exact h.2
    · simp
theorem sameI_self (l : List Int) (A A' : Option Addr) (n n' c c' : Nat) (w : World) (hn : l.length = n) (hn' : l.length = n') (hm : n ≤ maxLen) (hR : Rd w 1 A n (intC l)) (hR' : Rd w 1 A' n' (intC l)) :
    Calls Try.prog 31 #[.slice A n c, .slice A' n' c'] w fun e w' => e = .returned (.bool true) ∧ Below w.heap.size w w' := by
  have hm' : n' ≤ maxLen := by omega
  simpa using sameInts_any l l A A' n n' c c' w hn hn' hm hm' hR hR'
theorem sameF_self (l : List Fl) (A A' : Option Addr) (n n' c c' : Nat) (w : World) (hn : l.length = n) (hn' : l.length = n') (hm : n ≤ maxLen) (hR : Rd w 3 A n (flC l)) (hR' : Rd w 3 A' n' (flC l)) :
    Calls Try.prog 36 #[.slice A n c, .slice A' n' c'] w fun e w' => e = .returned (.bool true) ∧ Below w.heap.size w w' := by
  have hm' : n' ≤ maxLen := by omega
  simpa using sameFlights_any l l A A' n n' c c' w hn hn' hm hm' hR hR'
end Go.Proofs.Ytfinefjihphnhaa
