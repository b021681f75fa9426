/-
  Signals, plain: what the laws say of the reports.
-/
import Derived.Test.YtjgpmihkmobcoaaSgC
namespace Go.Proofs.Ytjgpmihkmobcoaa
open Go.ChangeShapes Go.WideShapes Go.ChangeAt Go.RowKit Go.BigFrame

theorem sortB_drop {l : List Int} (h : sortB l = true) (k : Nat) : sortB (l.drop k) = true := by
  unfold sortB at *
  simp only [decide_eq_true_eq] at *
  exact h.sublist (List.drop_sublist k l)
theorem allB_drop {l : List Int} {a b : Int} (h : allB l a b = true) (k : Nat) : allB (l.drop k) a b = true := by
  unfold allB at *
  rw [List.all_eq_true] at *
  exact fun x hx => h x (List.mem_of_mem_drop hx)
theorem tvB_drop {l : List Int} (h : tvB l = true) (k : Nat) : tvB (l.drop k) = true := by
  unfold tvB at *
  simp only [Bool.and_eq_true, decide_eq_true_eq] at *
  exact ⟨⟨allB_drop h.1.1 k, sortB_drop h.1.2 k⟩, by rw [List.length_drop]; omega⟩
theorem tvB_54 (l : List Int) : tvB (l ++ [5, 4]) = false := by
  cases q : tvB (l ++ [5, 4])
  · rfl
  · unfold tvB sortB at q
    simp only [Bool.and_eq_true, decide_eq_true_eq] at q
    have := q.1.2
    rw [List.pairwise_append] at this
    simp at this

theorem repT_ge (g wt : Int) (xs : List Int) (hg : 1 ≤ g) (hw : 0 ≤ wt) (hx : xs ≠ []) (hs : sortB xs = true) : xs.headD 0 ≤ repT g wt xs := by
  have hp := cntS_pos g wt xs hg hw hx
  have hl : cntS g wt xs ≤ xs.length := (cnt_le _ _ _).2
  unfold repT
  split
  · have h0 := drop_head xs 0 (by omega)
    simp only [List.drop_zero] at h0
    rw [h0, List.getD_eq_getElem?_getD, List.getElem?_eq_getElem (by omega)]
    exact sortB_get hs (by omega) (by omega) (by omega)
  · omega

theorem cnt_stop : ∀ (g : Nat) (top : Int) (xs : List Int) (hc : cnt g top xs < g) (hx : cnt g top xs < xs.length), top < xs[cnt g top xs] := by
  intro g
  induction g with
  | zero => intro top xs hc; omega
  | succ g ih =>
    intro top xs hc hx
    cases xs with
    | nil => simp at hx
    | cons x r =>
      by_cases h : x ≤ top
      · have e : cnt (g + 1) top (x :: r) = cnt g top r + 1 := by simp only [cnt]; rw [if_pos h]
        have := ih top r (by omega) (by rw [e] at hx; simpa using hx)
        simp only [e, List.getElem_cons_succ]
        exact this
      · have e : cnt (g + 1) top (x :: r) = 0 := by simp only [cnt]; rw [if_neg h]
        simp only [e, List.getElem_cons_zero]
        omega

theorem repT_next (g wt : Int) (xs : List Int) (hg : 1 ≤ g) (hw : 0 ≤ wt) (hx : xs ≠ []) (hs : sortB xs = true) (hd : cntS g wt xs < xs.length) : repT g wt xs ≤ (xs.drop (cntS g wt xs)).headD 0 := by
  have hp := cntS_pos g wt xs hg hw hx
  rw [drop_head xs _ hd]
  have hle : cntS g wt xs ≤ g.toNat := (cnt_le _ _ _).1
  unfold repT
  split
  · rw [List.getD_eq_getElem?_getD, List.getElem?_eq_getElem (by omega)]
    exact sortB_get hs (by omega) (by omega) (by omega)
  · rename_i hne
    have := cnt_stop g.toNat (xs.headD 0 + wt) xs (by unfold cntS at *; omega) hd
    exact Int.le_of_lt this

/-- the reports do not descend, and none is before the first answer -/
theorem sig_sorted (g wt : Int) (hg : 1 ≤ g) (hw : 0 ≤ wt) : ∀ (q : Nat) (xs : List Int), xs.length ≤ q → sortB xs = true →
    ((sigP g wt xs).map Prod.fst).Pairwise (· ≤ ·) ∧ ∀ t ∈ (sigP g wt xs).map Prod.fst, xs.headD 0 ≤ t := by
  intro q
  induction q with
  | zero => intro xs h _; rw [List.eq_nil_of_length_eq_zero (by omega : xs.length = 0), sigP_nil]; simp
  | succ q ih =>
    intro xs h hs
    by_cases hx : xs = []
    · subst hx; rw [sigP_nil]; simp
    · have hp := cntS_pos g wt xs hg hw hx
      have hl : 0 < xs.length := by cases xs <;> simp_all
      have h1 := ih (xs.drop (cntS g wt xs)) (by rw [List.length_drop]; omega) (sortB_drop hs _)
      have h2 := repT_ge g wt xs hg hw hx hs
      rw [sigP_step g wt xs hg hw hx, List.map_cons, List.pairwise_cons]
      have key : ∀ t ∈ (sigP g wt (xs.drop (cntS g wt xs))).map Prod.fst, repT g wt xs ≤ t := by
        intro t ht
        by_cases hd : cntS g wt xs < xs.length
        · exact Int.le_trans (repT_next g wt xs hg hw hx hs hd) (h1.2 t ht)
        · rw [List.drop_eq_nil_of_le (by omega), sigP_nil] at ht; simp at ht
      refine ⟨⟨key, h1.1⟩, fun t ht => ?_⟩
      rcases List.mem_cons.1 ht with rfl | ht
      · exact h2
      · exact Int.le_trans h2 (key t ht)

theorem sig_many (g wt : Int) (hg : 1 ≤ g) (hw : 0 ≤ wt) : ∀ (q : Nat) (xs : List Int), xs.length ≤ q → (xs.length : Int) ≤ g * (sigP g wt xs).length := by
  intro q
  induction q with
  | zero => intro xs h; rw [List.eq_nil_of_length_eq_zero (by omega : xs.length = 0), sigP_nil]; simp
  | succ q ih =>
    intro xs h
    by_cases hx : xs = []
    · subst hx; rw [sigP_nil]; simp
    · have hp := cntS_pos g wt xs hg hw hx
      have hl : 0 < xs.length := by cases xs <;> simp_all
      have h1 := ih (xs.drop (cntS g wt xs)) (by rw [List.length_drop]; omega)
      rw [List.length_drop] at h1
      have hle : cntS g wt xs ≤ g.toNat := (cnt_le _ _ _).1
      rw [sigP_step g wt xs hg hw hx, List.length_cons]
      have e : g * (((sigP g wt (xs.drop (cntS g wt xs))).length + 1 : Nat) : Int) = g * ((sigP g wt (xs.drop (cntS g wt xs))).length : Int) + g := by
        rw [Int.natCast_add, Int.mul_add]; simp
      rw [e]
      omega

theorem sig_one (wt : Int) (hw : 0 ≤ wt) : ∀ (xs : List Int), sigP 1 wt xs = xs.map fun x => (x, x) := by
  intro xs
  induction xs with
  | nil => rfl
  | cons x r ih =>
    have hc : cntS 1 wt (x :: r) = 1 := by
      unfold cntS
      show cnt 1 _ _ = 1
      have h : x ≤ x + wt := by omega
      simp [cnt, h]
    rw [sigP_step 1 wt _ (by omega) hw (by simp), hc]
    have hr : repT 1 wt (x :: r) = x := by
      unfold repT
      rw [hc]
      rfl
    rw [hr]
    simp [ih]

theorem sgOk_one {l : List Int} {g wt : Int} (h : sgOk l g wt = true) : sgOk l 1 wt = true := by
  obtain ⟨h1, _, h3⟩ := sgOk_parts h
  unfold sgOk
  rw [h1, h3]
  rfl

theorem sgR_one {l : List Int} {g wt : Int} (h : sgOk l g wt = true) : sgR l 1 wt = l := by
  have b3 := inB_iff.1 (sgOk_parts h).2.2
  unfold sgR
  rw [sgOk_one h, if_pos rfl, sig_one wt b3.1]
  simp [Function.comp_def]

theorem sgR_ok {l : List Int} {g wt : Int} (h : sgR l g wt ≠ []) : sgOk l g wt = true := by
  unfold sgR at h
  split at h
  · assumption
  · exact absurd rfl h

theorem sgR_facts0 {l : List Int} {g wt : Int} (h : 0 < (sgR l g wt).length) :
    (∀ k (hk : k < (sgR l g wt).length), 0 < k → (sgR l g wt)[k-1]'(by omega) ≤ (sgR l g wt)[k]) ∧ (sgR l g wt).length ≤ l.length ∧ 1 ≤ g ∧ g ≤ 10 ∧ ((l.length : Int) + g - 1) / g ≤ ((sgR l g wt).length : Int) ∧ sgR l 1 wt = l ∧ 0 < l.length ∧ ∀ h0 : 0 < l.length, l[0] ≤ (sgR l g wt)[0] := by
  have hok := sgR_ok (l := l) (g := g) (wt := wt) (by intro e; rw [e] at h; simp at h)
  obtain ⟨q0, q1, q2⟩ := sgOk_parts hok
  have b1 := inB_iff.1 q1
  have b2 := inB_iff.1 q2
  have hs : sortB l = true := by unfold tvB at q0; simp only [Bool.and_eq_true] at q0; exact q0.1.2
  have e : sgR l g wt = (sigP g wt l).map Prod.fst := by unfold sgR; rw [hok, if_pos rfl]
  have S := sig_sorted g wt b1.1 b2.1 l.length l (Nat.le_refl _) hs
  have M := sig_many g wt b1.1 b2.1 l.length l (Nat.le_refl _)
  have L := sgR_length l g wt
  rw [← e] at S
  have e2 : (sigP g wt l).length = (sgR l g wt).length := by rw [e, List.length_map]
  rw [e2] at M
  have hl : 0 < l.length := by omega
  refine ⟨fun k hk h0 => ?_, L, b1.1, b1.2, ?_, sgR_one hok, hl, fun h0 => ?_⟩
  · exact List.pairwise_iff_getElem.1 S.1 (k-1) k (by omega) hk (by omega)
  · have : ((l.length : Int) + g - 1) / g < ((sgR l g wt).length : Int) + 1 := by
      apply Int.ediv_lt_of_lt_mul (by omega)
      rw [Int.add_mul, Int.mul_comm]
      omega
    omega
  · have := S.2 _ (List.getElem_mem h)
    have h1 := drop_head l 0 hl
    simp only [List.drop_zero] at h1
    rw [h1] at this
    exact this

/-- what the law of the reports needs -/
theorem sgR_facts {l X : List Int} {g wt : Int} (e : sgR l g wt = X) (h : 0 < X.length) :
    (∀ k (hk : k < X.length), 0 < k → X[k-1]'(by omega) ≤ X[k]) ∧ X.length ≤ l.length ∧ 1 ≤ g ∧ g ≤ 10 ∧ ((l.length : Int) + g - 1) / g ≤ (X.length : Int) ∧ sgR l 1 wt = l ∧ 0 < l.length ∧ ∀ h0 : 0 < l.length, l[0] ≤ X[0] := by
  subst e; exact sgR_facts0 h

theorem most_bd (wt : Int) : ∀ (ps : List (Int × Int)) (m : Int), m ≤ wt → (∀ p ∈ ps, p.1 - p.2 ≤ wt) → most m ps ≤ wt := by
  intro ps
  induction ps with
  | nil => intro m h _; exact h
  | cons p r ih =>
    intro m h hp
    show most (max m (p.1 - p.2)) r ≤ wt
    have := hp p List.mem_cons_self
    exact ih _ (by omega) (fun q hq => hp q (List.mem_cons_of_mem _ hq))
theorem most_same (xs : List Int) : ∀ m, 0 ≤ m → most m (xs.map fun x => (x, x)) = m := by
  induction xs with
  | nil => intro m _; rfl
  | cons x r ih =>
    intro m hm
    show most (max m (x - x)) (r.map fun x => (x, x)) = m
    rw [show max m (x - x) = m by omega]
    exact ih m hm

theorem lwR_facts {l : List Int} {g wt : Int} (h : 0 ≤ lwR l g wt) : lwR l g wt ≤ wt ∧ lwR l 1 wt = 0 ∧ (l.length = 0 → lwR l g wt = 0) := by
  unfold lwR at h ⊢
  by_cases hok : sgOk l g wt = true
  · rw [if_pos hok, if_pos (sgOk_one hok)]
    obtain ⟨q0, q1, q2⟩ := sgOk_parts hok
    have b1 := inB_iff.1 q1
    have b2 := inB_iff.1 q2
    refine ⟨most_bd wt _ 0 b2.1 (most_le g wt b1.1 b2.1 l.length l (Nat.le_refl _)), ?_, fun h0 => ?_⟩
    · rw [sig_one wt b2.1]; exact most_same l 0 (by omega)
    · rw [List.eq_nil_of_length_eq_zero h0, sigP_nil]; rfl
  · rw [if_neg hok] at h
    omega
theorem lwR_neg {l : List Int} {g wt : Int} (h : lwR l g wt < 0) : lwR l g wt = -1 := by
  unfold lwR at h ⊢
  split at h
  · rename_i hok
    have := most_ge (sigP g wt l) 0
    omega
  · rename_i hok; rw [if_neg hok]

theorem cnt_rep (top : Int) (x : Int) (hx : x ≤ top) : ∀ (g m : Nat), cnt g top (List.replicate m x) = min g m := by
  intro g
  induction g with
  | zero => intro m; simp [cnt]
  | succ g ih =>
    intro m
    cases m with
    | zero => simp [cnt]
    | succ m =>
      rw [List.replicate_succ]
      simp only [cnt]
      rw [if_pos hx, ih m]
      omega
theorem cntS_rep (g wt : Int) (m : Nat) (hm : 0 < m) (hw : 0 ≤ wt) : cntS g wt (List.replicate m 50) = min g.toNat m := by
  obtain ⟨m, rfl⟩ : ∃ k, m = k + 1 := ⟨m - 1, by omega⟩
  unfold cntS
  rw [cnt_rep _ _ (by rw [List.replicate_succ]; simp only [List.headD_cons]; omega)]

theorem ceil_step (m g : Int) (hg : 1 ≤ g) (h : g ≤ m) : (m + g - 1) / g = (m - g + g - 1) / g + 1 := by
  have : m + g - 1 = (m - g + g - 1) + g := by omega
  rw [this, Int.add_ediv_of_dvd_right (Int.dvd_refl g), Int.ediv_self (by omega)]
theorem ceil_one (m g : Int) (hm : 1 ≤ m) (h : m ≤ g) : (m + g - 1) / g = 1 := by
  have : m + g - 1 = (m - 1) + g := by omega
  rw [this, Int.add_ediv_of_dvd_right (Int.dvd_refl g), Int.ediv_self (by omega), Int.ediv_eq_zero_of_lt (by omega) (by omega)]
  rfl

theorem sig_rep (g wt : Int) (hg : 1 ≤ g) (hw : 0 ≤ wt) : ∀ (q m : Nat), m ≤ q → ((sigP g wt (List.replicate m 50)).length : Int) = ((m : Int) + g - 1) / g := by
  intro q
  induction q with
  | zero =>
    intro m h
    obtain rfl : m = 0 := by omega
    rw [List.replicate_zero, sigP_nil, List.length_nil]
    rw [Int.ediv_eq_zero_of_lt (by omega) (by omega)]
    rfl
  | succ q ih =>
    intro m h
    by_cases h0 : m = 0
    · subst h0
      rw [List.replicate_zero, sigP_nil, List.length_nil]
      rw [Int.ediv_eq_zero_of_lt (by omega) (by omega)]
      rfl
    · have hc := cntS_rep g wt m (by omega) hw
      rw [sigP_step g wt _ hg hw (by intro e; have := congrArg List.length e; simp at this; omega), List.length_cons, hc, List.drop_replicate]
      have := ih (m - min g.toNat m) (by omega)
      rw [Int.natCast_add, this]
      by_cases hgm : g ≤ m
      · rw [ceil_step m g hg hgm]
        have e : (((m - min g.toNat m : Nat) : Int)) = (m : Int) - g := by omega
        rw [e]; rfl
      · rw [ceil_one m g (by omega) (by omega)]
        have e : (((m - min g.toNat m : Nat) : Int)) = 0 := by omega
        rw [e, Int.ediv_eq_zero_of_lt (by omega) (by omega)]
        rfl

theorem tvB_rep (m : Nat) (hm : m ≤ 60) : tvB (List.replicate m 50) = true := by
  unfold tvB allB sortB
  simp only [Bool.and_eq_true, decide_eq_true_eq, List.length_replicate, List.all_replicate]
  refine ⟨⟨?_, ?_⟩, hm⟩
  · cases m <;> simp [inB]
  · rw [List.pairwise_replicate]; right; omega

theorem burst_ok (m : Nat) (g wt : Int) (hm : m ≤ 60) (hg : 1 ≤ g ∧ g ≤ 10) (hw : 0 ≤ wt ∧ wt ≤ 100000) : ((sgR (List.replicate m 50) g wt).length : Int) = ((m : Int) + g - 1) / g := by
  have hok : sgOk (List.replicate m 50) g wt = true := by
    unfold sgOk
    rw [tvB_rep m hm, inB_iff.2 hg, inB_iff.2 hw]
    rfl
  unfold sgR
  rw [hok, if_pos rfl, List.length_map]
  exact sig_rep g wt hg.1 hw.1 m m (Nat.le_refl _)
theorem burst_no (l : List Int) (g wt : Int) (h : ¬ (1 ≤ g ∧ g ≤ 10) ∨ ¬ 0 ≤ wt) : sgR l g wt = [] := by
  unfold sgR
  rw [if_neg]
  intro hok
  obtain ⟨_, q1, q2⟩ := sgOk_parts hok
  have b1 := inB_iff.1 q1
  have b2 := inB_iff.1 q2
  omega
end Go.Proofs.Ytjgpmihkmobcoaa
