/-
  Requests, plain: what the laws say.
-/
import Derived.Test.YtmcpkoogcglomaaRqP
namespace Go.Proofs.Ytmcpkoogcglomaa
open Go.ChangeShapes Go.WideShapes Go.ChangeAt Go.RowKit Go.BigFrame

theorem rv_take {l : List Rq} (h : rv l = true) (k : Nat) : rv (l.take k) = true := by
  rw [rv_iff] at *
  exact ⟨fun x hx => h.1 x (List.mem_of_mem_take hx), Nat.le_trans (List.length_take_le' _ _) h.2⟩
theorem rv_drop {l : List Rq} (h : rv l = true) (k : Nat) : rv (l.drop k) = true := by
  rw [rv_iff] at *
  exact ⟨fun x hx => h.1 x (List.mem_of_mem_drop hx), by rw [List.length_drop]; omega⟩
theorem rv_zero (l : List Rq) : rv (l ++ [⟨0, 0, false⟩]) = false := by
  cases q : rv (l ++ [⟨0, 0, false⟩])
  · rfl
  · have := (rv_iff.1 q).1 ⟨0, 0, false⟩ (by simp)
    rw [okR_iff] at this
    simp at this
theorem totR_neg {l : List Rq} (h : totR l < 0) : totR l = -1 := by
  unfold totR at h ⊢
  split at h
  · rename_i hv
    have := tot_bd l hv l.length (Nat.le_refl _)
    rw [List.take_of_length_le (Nat.le_refl _)] at this
    omega
  · rename_i hv; rw [if_neg hv]
theorem totR_ok {l : List Rq} (h : 0 ≤ totR l) : rv l = true ∧ totR l = tot l := by
  unfold totR at h ⊢
  split at h
  · rename_i hv; exact ⟨hv, by rw [if_pos hv]⟩
  · omega
theorem tot_ge {l : List Rq} (h : ∀ x ∈ l, 1 ≤ x.count) : (l.length : Int) ≤ tot l := by
  induction l with
  | nil => simp [tot]
  | cons x r ih =>
    have h1 := h x List.mem_cons_self
    have h2 := ih (fun y hy => h y (List.mem_cons_of_mem _ hy))
    rw [tot_cons]
    simp only [List.length_cons]
    omega
theorem totR_parts {l : List Rq} (h : 0 ≤ totR l) (k : Nat) : totR l = totR (l.take k) + totR (l.drop k) ∧ (l.length : Int) ≤ totR l ∧ 0 ≤ totR (l.take k) ∧ totR (l.take k) ≤ 6000 ∧ 0 ≤ totR (l.drop k) ∧ totR (l.drop k) ≤ 6000 := by
  obtain ⟨hv, e⟩ := totR_ok h
  have e1 : totR (l.take k) = tot (l.take k) := by unfold totR; rw [if_pos (rv_take hv k)]
  have e2 : totR (l.drop k) = tot (l.drop k) := by unfold totR; rw [if_pos (rv_drop hv k)]
  have hb : ∀ q : List Rq, rv q = true → 0 ≤ tot q ∧ tot q ≤ 6000 := fun q hq => by
    have := tot_bd q hq q.length (Nat.le_refl _)
    rw [List.take_of_length_le (Nat.le_refl _)] at this
    have := rv_length hq
    omega
  have b1 := hb _ (rv_take hv k)
  have b2 := hb _ (rv_drop hv k)
  have hs : tot l = tot (l.take k) + tot (l.drop k) := by rw [← tot_append, List.take_append_drop]
  have hg : (l.length : Int) ≤ tot l := tot_ge (fun x hx => (okR_iff.1 ((rv_iff.1 hv).1 x hx)).2.1)
  rw [e, e1, e2]
  omega

theorem splN_border {most border : Int} {r : Rq} (h1 : 1 ≤ most) (h2 : 1 ≤ border) (h3 : 1 ≤ r.count) (h0 : 0 ≤ r.at_) : r.at_ / border = (r.at_ + splN most border r - 1) / border := by
  have b := splN_bd (most := most) (border := border) (r := r) h1 h2 h3
  have hn : splN most border r ≤ border - r.at_ % border := by unfold splN; omega
  have e := Int.mul_ediv_add_emod r.at_ border
  have m0 := Int.emod_nonneg r.at_ (show border ≠ 0 by omega)
  have := (Int.ediv_emod_unique (a := r.at_ + splN most border r - 1) (b := border) (r := r.at_ % border + splN most border r - 1) (q := r.at_ / border) (by omega)).2 ⟨by omega, by omega, by omega⟩
  exact this.1.symm

/-- the parts of a request -/
def PartsOk (r : Rq) (most border : Int) (X : List Rq) : Prop :=
  (∀ k (hk : k < X.length), X[k].at_ = r.at_ + tot (X.take k) ∧ (1 ≤ X[k].count ∧ X[k].count ≤ most) ∧ X[k].at_ / border = (X[k].at_ + X[k].count - 1) / border ∧ X[k].write = r.write) ∧ tot X = r.count
theorem splP_parts (most border : Int) (h1 : 1 ≤ most) (h2 : 1 ≤ border) : ∀ (q : Nat) (r : Rq), r.count.toNat ≤ q → 0 ≤ r.at_ → 0 ≤ r.count → PartsOk r most border (splP most border r) := by
  intro q
  induction q with
  | zero =>
    intro r h _ h0
    rw [splP_nil most border r (by omega)]
    exact ⟨fun k hk => by simp at hk, by simp [tot]; omega⟩
  | succ q ih =>
    intro r h ha h0
    by_cases hc : r.count ≤ 0
    · rw [splP_nil most border r hc]
      exact ⟨fun k hk => by simp at hk, by simp [tot]; omega⟩
    · have b := splN_bd (most := most) (border := border) (r := r) h1 h2 (by omega)
      have hb := splN_border (most := most) (border := border) (r := r) h1 h2 (by omega) ha
      have := ih ⟨r.at_ + splN most border r, r.count - splN most border r, r.write⟩ (by simp only; omega) (by simp only; omega) (by simp only; omega)
      rw [splP_step most border h1 h2 r (by omega)]
      obtain ⟨t1, t2⟩ := this
      simp only at t1 t2
      refine ⟨fun k hk => ?_, by rw [tot_cons]; simp only; omega⟩
      cases k with
      | zero =>
        simp only [List.getElem_cons_zero, List.take_zero]
        exact ⟨by simp [tot], ⟨b.1, b.2.2⟩, hb, trivial⟩
      | succ k =>
        have := t1 k (by simpa using hk)
        simp only [List.getElem_cons_succ, List.take_succ_cons, tot_cons]
        exact ⟨by rw [this.1]; omega, this.2.1, this.2.2.1, this.2.2.2⟩

theorem fold_spl (most border : Int) (h1 : 1 ≤ most) (h2 : 1 ≤ border) : ∀ (q : Nat) (r x : Rq), r.count.toNat ≤ q → 0 ≤ r.count → x.at_ + x.count = r.at_ → x.write = r.write → x.count + r.count ≤ 200 →
    (splP most border r).foldl (mIns 200) [x] = [⟨x.at_, x.count + r.count, x.write⟩] := by
  intro q
  induction q with
  | zero =>
    intro r x h h0 _ _ _
    rw [splP_nil most border r (by omega)]
    have : r.count = 0 := by omega
    simp [this]
  | succ q ih =>
    intro r x h h0 ha hw hs
    by_cases hc : r.count ≤ 0
    · rw [splP_nil most border r hc]
      have : r.count = 0 := by omega
      simp [this]
    · have b := splN_bd (most := most) (border := border) (r := r) h1 h2 (by omega)
      rw [splP_step most border h1 h2 r (by omega), List.foldl_cons]
      have hj : joins 200 x ⟨r.at_, splN most border r, r.write⟩ = true := joins_iff.2 ⟨hw, ha, by simp only; omega⟩
      have e : mIns 200 [x] ⟨r.at_, splN most border r, r.write⟩ = [⟨x.at_, x.count + splN most border r, x.write⟩] := by
        simp only [mIns]
        rw [if_pos hj]
      rw [e, ih _ _ (by simp only; omega) (by simp only; omega) (by simp only; omega) (by simpa using hw) (by simp only; omega)]
      simp only [List.cons.injEq, Rq.mk.injEq, and_true, true_and]
      omega
theorem mrg_spl (most border : Int) (h1 : 1 ≤ most) (h2 : 1 ≤ border) (r : Rq) (h : 1 ≤ r.count ∧ r.count ≤ 200) : mrg 200 (splP most border r) = [r] := by
  have b := splN_bd (most := most) (border := border) (r := r) h1 h2 (by omega)
  unfold mrg
  rw [splP_step most border h1 h2 r (by omega), List.foldl_cons]
  have e : mIns 200 [] ⟨r.at_, splN most border r, r.write⟩ = [⟨r.at_, splN most border r, r.write⟩] := rfl
  rw [e, fold_spl most border h1 h2 _ ⟨r.at_ + splN most border r, r.count - splN most border r, r.write⟩ ⟨r.at_, splN most border r, r.write⟩ (Nat.le_refl _) (by simp only; omega) rfl rfl (by simp only; omega)]
  obtain ⟨a, c, wr⟩ := r
  simp only [List.cons.injEq, Rq.mk.injEq, and_true, true_and]
  omega
theorem splP_okR (most border : Int) (h1 : 1 ≤ most ∧ most ≤ 200) (h2 : 1 ≤ border) (r : Rq) (ha : 0 ≤ r.at_ ∧ r.at_ ≤ 1000) (hc : 0 ≤ r.count ∧ r.count ≤ 200) : ∀ x ∈ splP most border r, okR x = true := by
  have P := splP_parts most border h1.1 h2 _ r (Nat.le_refl _) ha.1 hc.1
  intro x hx
  obtain ⟨k, hk, rfl⟩ := List.getElem_of_mem hx
  obtain ⟨p1, p2, _, _⟩ := P.1 k hk
  have ht : 0 ≤ tot ((splP most border r).take k) ∧ tot ((splP most border r).take k) ≤ r.count := by
    have e : tot (splP most border r) = tot ((splP most border r).take k) + tot ((splP most border r).drop k) := by rw [← tot_append, List.take_append_drop]
    have g : ∀ l : List Rq, (∀ x ∈ l, x ∈ splP most border r) → 0 ≤ tot l := fun l hl => by
      have := tot_ge (l := l) (fun x hx => by
        obtain ⟨i, hi, rfl⟩ := List.getElem_of_mem (hl x hx)
        exact (P.1 i hi).2.1.1)
      omega
    have g1 := g ((splP most border r).take k) (fun x hx => List.mem_of_mem_take hx)
    have g2 := g ((splP most border r).drop k) (fun x hx => List.mem_of_mem_drop hx)
    rw [P.2] at e
    exact ⟨g1, by omega⟩
  rw [okR_iff]
  omega

/-- what the law of dividing needs -/
theorem splR_facts {r : Rq} {most border : Int} {X : List Rq} (e : splR r most border = X) (h : 0 < X.length) (ha : r.at_ ≤ 1000) :
    PartsOk r most border X ∧ (1 ≤ most ∧ most ≤ 200) ∧ (1 ≤ border ∧ border ≤ 200) ∧ (0 ≤ r.at_ ∧ r.at_ ≤ 1000) ∧ (1 ≤ r.count ∧ r.count ≤ 200) ∧ X.length ≤ 200 ∧ (X.length ≤ 30 → mrR X 200 = [r]) := by
  subst e
  have hl := splR_length r most border
  rcases Classical.em (splOk r most border = true) with hok | hok
  · have e : splR r most border = splP most border r := by unfold splR; rw [if_pos hok]
    rw [e] at h hl ⊢
    obtain ⟨q0, q1, q2⟩ := splOk_parts hok
    have b0 := okR_iff.1 q0
    have b1 := inB_iff.1 q1
    have b2 := inB_iff.1 q2
    refine ⟨splP_parts most border b1.1 b2.1 _ r (Nat.le_refl _) b0.1.1 (by omega), b1, b2, ⟨b0.1.1, ha⟩, b0.2, hl, fun h30 => ?_⟩
    unfold mrR
    have hv : rv (splP most border r) = true := rv_iff.2 ⟨splP_okR most border b1 b2.1 r ⟨b0.1.1, ha⟩ ⟨by omega, b0.2.2⟩, h30⟩
    rw [hv, if_pos (by rfl), mrg_spl most border b1.1 b2.1 r b0.2]
  · exfalso
    have e : splR r most border = [] := by unfold splR; rw [if_neg hok]
    rw [e] at h
    simp at h

/-- the parts of all requests -/
def parts (l : List Rq) : List Rq := l.flatMap fun r => splR r 50 40
theorem parts_take (l : List Rq) (k : Nat) (h : k < l.length) : parts (l.take (k + 1)) = parts (l.take k) ++ splR l[k] 50 40 := by
  unfold parts
  rw [List.take_succ_eq_append_getElem h, List.flatMap_append]
  simp
theorem parts_length (l : List Rq) : (parts l).length ≤ 200 * l.length := by
  induction l with
  | nil => simp [parts]
  | cons x r ih =>
    unfold parts at *
    rw [List.flatMap_cons, List.length_append]
    have := splR_length x 50 40
    simp only [List.length_cons]
    omega
theorem tot_parts {l : List Rq} (h : ∀ x ∈ l, okR x = true) : tot (parts l) = tot l := by
  induction l with
  | nil => rfl
  | cons x r ih =>
    have hx := okR_iff.1 (h x List.mem_cons_self)
    have e : parts (x :: r) = splR x 50 40 ++ parts r := by unfold parts; rw [List.flatMap_cons]
    have e2 : splR x 50 40 = splP 50 40 x := by unfold splR splOk; rw [h x List.mem_cons_self]; rfl
    have := (splP_parts 50 40 (by omega) (by omega) _ x (Nat.le_refl _) hx.1.1 (by omega)).2
    rw [e, tot_append, tot_cons, ih (fun y hy => h y (List.mem_cons_of_mem _ hy)), e2, this]
theorem parts_ok {l : List Rq} (h : ∀ x ∈ l, okR x = true) (ha : ∀ x ∈ l, x.at_ ≤ 300 ∨ x.at_ = 100001) : ∀ y ∈ parts l, okR y = true := by
  intro y hy
  unfold parts at hy
  obtain ⟨x, hx, hy⟩ := List.mem_flatMap.1 hy
  have hb := okR_iff.1 (h x hx)
  have e2 : splR x 50 40 = splP 50 40 x := by unfold splR splOk; rw [h x hx]; rfl
  rw [e2] at hy
  have := ha x hx
  exact splP_okR 50 40 (by omega) (by omega) x (by omega) (by omega) y hy
/-- what the law of dividing and merging needs -/
theorem splitMerge {l : List Rq} {most : Int} (hd : ∀ x ∈ l, x.at_ ≤ 300 ∨ x.at_ = 100001) (h0 : 0 ≤ totR l) (hm : 1 ≤ most ∧ most ≤ 200) (hl : (parts l).length ≤ 30) : totR (mrR (parts l) most) = totR l := by
  obtain ⟨hv, e⟩ := totR_ok h0
  have hok := (rv_iff.1 hv).1
  have hpv : rv (parts l) = true := rv_iff.2 ⟨parts_ok hok hd, hl⟩
  have e1 : mrR (parts l) most = mrg most (parts l) := by unfold mrR; rw [hpv, inB_iff.2 hm]; rfl
  rw [e, e1]
  unfold totR
  rw [mrg_ok most _ hpv hm.2, if_pos rfl, mrg_tot, tot_parts hok]
theorem cov_take (l : List Rq) (at_ : Int) (wr : Bool) (k : Nat) (h : k < l.length) : cov (l.take (k + 1)) at_ wr = cov (l.take k) at_ wr + (if cov1 at_ wr l[k] = true then 1 else 0) := by
  unfold cov
  rw [List.take_succ_eq_append_getElem h, List.countP_append, List.countP_singleton]
  split <;> simp
theorem cov_bd (l : List Rq) (at_ : Int) (wr : Bool) : 0 ≤ cov l at_ wr ∧ cov l at_ wr ≤ l.length := by
  unfold cov
  have := List.countP_le_length (p := cov1 at_ wr) (l := l)
  omega
end Go.Proofs.Ytmcpkoogcglomaa
