/-
  Requests: valid ones, their sectors.
-/
import Derived.Test.YtfelfopcmkeimaaRqB
namespace Go.Proofs.Ytfelfopcmkeimaa
open Go.ChangeShapes Go.WideShapes Go.ChangeAt Go.RowKit Go.BigFrame

def okR (r : Rq) : Bool := inB r.at_ 0 100000 && inB r.count 1 200
def rv (l : List Rq) : Bool := l.all okR && decide (l.length ≤ 30)
theorem all_at {l : List Rq} {k : Nat} (h : k < l.length) (hf : okR l[k] = false) : l.all okR = false := by
  rw [List.all_eq_false]; exact ⟨l[k], List.getElem_mem h, by simp [hf]⟩
theorem all_end {l : List Rq} (h : ∀ i (hi : i < l.length), okR l[i] = true) : l.all okR = true := by
  rw [List.all_eq_true]; intro x hx; obtain ⟨i, hi, rfl⟩ := List.getElem_of_mem hx; exact h i hi
theorem rv_get {l : List Rq} (h : rv l = true) (i : Nat) (hi : i < l.length) : (0 ≤ l[i].at_ ∧ l[i].at_ ≤ 100000) ∧ 1 ≤ l[i].count ∧ l[i].count ≤ 200 := by
  unfold rv at h
  simp only [Bool.and_eq_true, List.all_eq_true] at h
  have := h.1 _ (List.getElem_mem hi)
  unfold okR at this
  simpa only [Bool.and_eq_true, inB_iff] using this
theorem rv_length {l : List Rq} (h : rv l = true) : l.length ≤ 30 := by
  unfold rv at h
  simp only [Bool.and_eq_true, decide_eq_true_eq] at h
  exact h.2

/-- the place of the first element with a property, from place n on; -1 without one -/
def idxP (p : Rq → Bool) : Nat → List Rq → Int
  | _, [] => -1
  | n, f :: r => if p f then n else idxP p (n+1) r
theorem idxP_step (p : Rq → Bool) (fl : List Rq) (k : Nat) (h : k < fl.length) : idxP p k (fl.drop k) = if p fl[k] then (k : Int) else idxP p (k+1) (fl.drop (k+1)) := by
  rw [List.drop_eq_getElem_cons h]; rfl
theorem idxP_nonneg (p : Rq → Bool) : ∀ (l : List Rq) (n : Nat), (0 ≤ idxP p n l) = (l.any p = true) := by
  intro l
  induction l with
  | nil => intro n; simp [idxP]
  | cons f r ih =>
    intro n
    simp only [idxP, List.any_cons]
    by_cases h : p f
    · simp [h]
    · simp [h, ih (n + 1)]

theorem isRequest_any (r : Rq) (w : World) : Calls Try.prog 56 #[.agg #[.int .i64 r.at_, .int .i64 r.count, .bool r.write]] w fun e w' => e = .returned (.bool (okR r)) ∧ Below w.heap.size w w' := by
  obtain ⟨a, b, c⟩ := r
  cases q1 : inB a 0 100000
  all_goals
    go_enter Try.func56, Try.ntmps56
    go_wp2_with (go_at_call 40; refine (within_any _ _ _ _).mono ?_; rintro e w1 ⟨rfl, rfl⟩)
    go_returns
    exact ⟨ret_bool (by unfold okR; simp only; rw [q1]; simp), by go_grown⟩

theorem rv1_any (r : Rq) (w : World) : Calls Try.prog 55 #[.agg #[.int .i64 r.at_, .int .i64 r.count, .bool r.write]] w fun e w' => e = .returned (.bool (!okR r)) ∧ Below w.heap.size w w' := by
  go_enter Try.func55, Try.ntmps55
  go_wp2_with (go_at_call 56; refine (isRequest_any r _).mono ?_; rintro e w1 ⟨rfl, hb1⟩)
  go_returns
  exact ⟨rfl, ((Below.refl _ _).alloc (Nat.le_refl _) _).trans (hb1.mono (by simp))⟩

set_option maxHeartbeats 400000 in
theorem indexV_any (fl : List Rq) (A : Option Addr) (n c : Nat) (w : World) (hn : fl.length = n) (hm : n ≤ maxLen) (hR : Rd w 3 A n (rqC fl)) :
    Calls Try.prog 64 #[.slice A n c, .func (.func 55) #[] #[]] w fun e w' => e = .returned (.int .i64 (idxP (fun r => !okR r) 0 fl)) ∧ Below w.heap.size w w' := by
  unfold maxLen at hm
  have HR := hid_ hR; clear hR
  have HN := hid_ hn; clear hn
  go_enter Try.func64, Try.ntmps64
  go_wp2
  go_loopw [8] (fun v wr => ∃ k : Nat, k ≤ n ∧ v = .int .i64 k ∧ Below w.heap.size w wr ∧ idxP (fun r => !okR r) 0 fl = idxP (fun r => !okR r) k (fl.drop k)) (fun v _ => n - (intOf v).toNat)
  case atStart => exact ⟨0, Nat.zero_le _, rfl, Below.refl _ _, by simp⟩
  case round =>
    obtain ⟨k, hk, rfl, hb, hid⟩ := hrel
    have HI := hid_ hid; clear hid
    by_cases hlt : k < n
    · have hlt' : k < fl.length := by rw [HN.out]; exact hlt
      obtain ⟨b, o, rfl, h0, h1, h2⟩ := (HR.out.below hb).rq k hlt HN.out
      cases q : okR fl[k]
      · go_wp2_with (go_at_call 55; refine (rv1_any fl[k] _).mono ?_; rintro e w1 ⟨rfl, hb1⟩)
        go_returns
        exact ⟨ret_int (by rw [HI.out, idxP_step _ fl k hlt', if_pos (by simp [q])]), hb.trans (hb1.mono hb.size)⟩
      · go_wp2_with (go_at_call 55; refine (rv1_any fl[k] _).mono ?_; rintro e w1 ⟨rfl, hb1⟩)
        go_roundw
        case rel => exact ⟨k + 1, by omega, by go_num, hb.trans (hb1.mono hb.size), by rw [HI.out, idxP_step _ fl k hlt', if_neg (by simp [q])]⟩
        case measure => simp [intOf] <;> omega
    · go_wp2
      go_returns
      refine ⟨ret_int ?_, hb⟩
      rw [HI.out, List.drop_of_length_le (by rw [HN.out]; omega)]; rfl

theorem not_any (fl : List Rq) : decide (0 ≤ idxP (fun r => !okR r) 0 fl) = !(fl.all okR) := by
  rw [Bool.eq_iff_iff]
  simp only [decide_eq_true_eq, idxP_nonneg]
  rw [List.any_eq_true]
  simp

theorem containsV_any (fl : List Rq) (A : Option Addr) (n c : Nat) (w : World) (hn : fl.length = n) (hm : n ≤ maxLen) (hR : Rd w 3 A n (rqC fl)) :
    Calls Try.prog 54 #[.slice A n c, .func (.func 55) #[] #[]] w fun e w' => e = .returned (.bool (!(fl.all okR))) ∧ Below w.heap.size w w' := by
  have HR := hid_ hR; clear hR
  have HN := hid_ hn; clear hn
  have HM := hid_ hm; clear hm
  go_enter Try.func54, Try.ntmps54
  go_wp2_with (go_at_call 64; refine (indexV_any fl A n c _ HN.out HM.out HR.out).mono ?_; rintro e w1 ⟨rfl, hb1⟩)
  go_returns
  exact ⟨ret_bool (by rw [← not_any]), hb1⟩

set_option maxHeartbeats 400000 in
theorem implRV_any (fl : List Rq) (A : Option Addr) (n c : Nat) (w : World) (hn : fl.length = n) (hm : n ≤ 4194304) (hc : n ≤ c) (hcm : c ≤ maxLen) (hR : Rd w 3 A n (rqC fl)) :
    Calls Try.prog 39 #[.slice A n c] w fun e w' => e = .returned (.bool (rv fl)) ∧ Below w.heap.size w w' := by
  clear hc hcm
  have HR := hid_ hR; clear hR
  have HN := hid_ hn; clear hn
  by_cases hs : n ≤ 30
  · go_enter Try.func39, Try.ntmps39
    go_wp2_with (go_at_call 54; refine (containsV_any fl A n c _ HN.out (by unfold maxLen; omega) HR.out).mono ?_; rintro e w1 ⟨rfl, hb1⟩)
    go_returns
    exact ⟨ret_bool (by unfold rv; rw [HN.out]; simp [hs]), hb1⟩
  · go_enter Try.func39, Try.ntmps39
    go_wp2
    go_returns
    exact ⟨ret_bool (by unfold rv; rw [HN.out]; simp [hs]), Below.refl _ _⟩

set_option maxHeartbeats 1000000 in
theorem specRV_any (fl : List Rq) (A : Option Addr) (n c : Nat) (w : World) (hn : fl.length = n) (hm : n ≤ 4194304) (hR : Rd w 3 A n (rqC fl)) :
    Calls Try.prog 35 #[.slice A n c] w fun e w' => e = .returned (.bool (rv fl)) ∧ w = w' := by
  have HR := hid_ hR; clear hR
  have HN := hid_ hn; clear hn
  go_enter Try.func35, Try.ntmps35
  go_wp2
  go_loop [3] (fun v => ∃ k : Nat, k ≤ n ∧ v = .int .i64 k ∧ ∀ i (hi' : i < fl.length), i < k → okR fl[i] = true) (fun v => n - (intOf v).toNat)
  case atStart => exact ⟨0, Nat.zero_le _, rfl, fun i _ hi => absurd hi (by omega)⟩
  case round =>
    obtain ⟨k, hk, rfl, hid⟩ := hrel
    have HI := hid_ hid; clear hid
    by_cases hlt : k < n
    · have hlt' : k < fl.length := by rw [HN.out]; exact hlt
      obtain ⟨b, o, rfl, h0, h1, h2⟩ := HR.out.rq k hlt HN.out
      cases q1 : inB fl[k].at_ 0 100000
      · go_wp2_with (go_at_call 42; refine (l1In_any _ _ _ _).mono ?_; rintro e w1 ⟨rfl, rfl⟩)
        go_returns
        exact ⟨ret_bool (by unfold rv; rw [all_at hlt' (by unfold okR; rw [q1]; rfl)]; rfl), rfl⟩
      · cases q2 : inB fl[k].count 1 200
        · go_wp2_with (go_at_call 42; refine (l1In_any _ _ _ _).mono ?_; rintro e w1 ⟨rfl, rfl⟩)
          go_returns
          exact ⟨ret_bool (by unfold rv; rw [all_at hlt' (by unfold okR; rw [q1, q2]; rfl)]; rfl), rfl⟩
        · go_wp2_with (go_at_call 42; refine (l1In_any _ _ _ _).mono ?_; rintro e w1 ⟨rfl, rfl⟩)
          go_round
          case rel =>
            refine ⟨k + 1, by omega, by go_num, fun i hi' hi => ?_⟩
            by_cases e : i = k
            · subst e; unfold okR; rw [q1, q2]; rfl
            · exact HI.out i hi' (by omega)
          case measure => simp [intOf] <;> omega
    · go_wp2
      go_returns
      refine ⟨ret_bool ?_, rfl⟩
      unfold rv
      rw [all_end (fun i hi => HI.out i hi (by rw [HN.out] at hi; omega)), HN.out]
      rw [Bool.eq_iff_iff]; simp; omega

/-- the sectors of requests -/
def tot (l : List Rq) : Int := (l.map Rq.count).sum
def totR (l : List Rq) : Int := if rv l = true then tot l else -1
theorem tot_take (l : List Rq) (k : Nat) (h : k < l.length) : tot (l.take (k + 1)) = tot (l.take k) + l[k].count := by
  unfold tot; rw [List.take_succ_eq_append_getElem h, List.map_append, List.sum_append]; simp
theorem tot_bd (l : List Rq) (h : rv l = true) : ∀ k, k ≤ l.length → 0 ≤ tot (l.take k) ∧ tot (l.take k) ≤ 200 * k := by
  intro k
  induction k with
  | zero => intro _; simp [tot]
  | succ k ih =>
    intro hk
    have h1 := ih (by omega)
    have h2 := rv_get h k (by omega)
    rw [tot_take l k (by omega)]
    omega

end Go.Proofs.Ytfelfopcmkeimaa
