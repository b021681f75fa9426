/-
  Orders: whether a list has each number less than n once.
-/
import Derived.Test.YtfmkjhkopocokaaItA
import Derived.Test.YtfmkjhkopocokaaAlive
import Derived.Test.YtfmkjhkopocokaaApp
namespace Go.Proofs.Ytfmkjhkopocokaa
open Go.ChangeShapes Go.WideShapes Go.ChangeAt Go.RowKit Go.BigFrame

/-- each number less than n once -/
def isOrd (n : Nat) (o : List Int) : Bool := decide (o.length = n) && allB o 0 ((n : Int) - 1) && decide o.Nodup
theorem isOrd_parts {n : Nat} {o : List Int} (h : isOrd n o = true) : o.length = n ∧ (∀ i (hi : i < o.length), 0 ≤ o[i] ∧ o[i] < n) ∧ o.Nodup := by
  unfold isOrd at h
  simp only [Bool.and_eq_true, decide_eq_true_eq] at h
  exact ⟨h.1.1, fun i hi => by have := allB_get h.1.2 i hi; omega, h.2⟩
theorem isOrd_mem {n : Nat} {o : List Int} (h : isOrd n o = true) : ∀ x ∈ o, 0 ≤ x ∧ x < n := by
  intro x hx
  obtain ⟨i, hi, rfl⟩ := List.getElem_of_mem hx
  exact (isOrd_parts h).2.1 i hi
theorem take_mem_lt {o : List Int} {k : Nat} {x : Int} (h : x ∈ o.take k) : ∃ i, ∃ hi : i < o.length, i < k ∧ o[i] = x := by
  obtain ⟨i, hi, e⟩ := List.getElem_of_mem h
  rw [List.getElem_take] at e
  rw [List.length_take] at hi
  exact ⟨i, by omega, by omega, e⟩
theorem mem_take_of {o : List Int} {k i : Nat} (hi : i < o.length) (hk : i < k) : o[i] ∈ o.take k := by
  rw [List.mem_iff_getElem]
  exact ⟨i, by rw [List.length_take]; omega, by rw [List.getElem_take]⟩
theorem nodup_no {o : List Int} {k : Nat} (hk : k < o.length) (h : o[k] ∈ o.take k) : ¬ o.Nodup := by
  intro hn
  obtain ⟨i, hi, hik, e⟩ := take_mem_lt h
  have := (List.nodup_iff_pairwise_ne.1 hn)
  exact List.pairwise_iff_getElem.1 this i k hi hk hik e
theorem nodup_yes {o : List Int} (h : ∀ k (hk : k < o.length), o[k] ∉ o.take k) : o.Nodup := by
  rw [List.nodup_iff_pairwise_ne, List.pairwise_iff_getElem]
  intro i j hi hj hij e
  exact h j hj (by rw [← e]; exact mem_take_of hi hij)

theorem intC_take_ (l : List Int) (m : Nat) : (intC l).take (m * 1) = intC (l.take m) := by simp [intC, List.map_take]
def posI (v : Int) : Nat → List Int → Int
  | _, [] => -1
  | n, x :: r => if v = x then n else posI v (n + 1) r
theorem posI_step (v : Int) (l : List Int) (k : Nat) (h : k < l.length) : posI v k (l.drop k) = if v = l[k] then (k : Int) else posI v (k + 1) (l.drop (k + 1)) := by
  rw [List.drop_eq_getElem_cons h]; rfl
theorem posI_iff (v : Int) : ∀ (l : List Int) (n : Nat), 0 ≤ posI v n l ↔ v ∈ l := by
  intro l
  induction l with
  | nil => intro n; simp [posI]
  | cons x r ih =>
    intro n
    simp only [posI]
    split
    · rename_i h; subst h; simp
    · rename_i h; rw [ih]; simp [h]

set_option maxHeartbeats 400000 in
theorem indexI_any (l : List Int) (A : Option Addr) (n c : Nat) (v : Int) (w : World) (hn : l.length = n) (hm : n ≤ 4194304) (hR : Rd w 1 A n (intC l)) :
    Calls Try.prog 55 #[.slice A n c, .int .i64 v] w fun e w' => e = .returned (.int .i64 (posI v 0 l)) ∧ w = w' := by
  have HR := hid_ hR; clear hR
  have HN := hid_ hn; clear hn
  go_enter Try.func55, Try.ntmps55
  go_wp2
  go_loop [8] (fun v' => ∃ k : Nat, k ≤ n ∧ v' = .int .i64 k ∧ posI v 0 l = posI v k (l.drop k)) (fun v => n - (intOf v).toNat)
  case atStart => exact ⟨0, Nat.zero_le _, rfl, by simp⟩
  case round =>
    obtain ⟨k, hk, rfl, hid⟩ := hrel
    have HI := hid_ hid; clear hid
    by_cases hlt : k < n
    · have hlt' : k < l.length := by rw [HN.out]; exact hlt
      obtain ⟨b, o, rfl, h0⟩ := HR.out.int k hlt HN.out
      have HS := hid_ (posI_step v l k hlt')
      obtain ⟨x, hx⟩ : ∃ x, l[k] = x := ⟨_, rfl⟩
      rw [hx] at h0 HS
      clear hx
      by_cases q : v = x
      · have e := hid_ (HI.out.trans (HS.out.trans (if_pos q)))
        subst q
        go_wp2
        go_returns
        exact ⟨ret_int e.out.symm, rfl⟩
      · have e := hid_ (HI.out.trans (HS.out.trans (if_neg q)))
        go_wp2
        go_round
        case rel => exact ⟨k + 1, by omega, by go_num, e.out⟩
        case measure => exact meas_ hlt
    · go_wp2
      go_returns
      refine ⟨ret_int ?_, rfl⟩
      rw [HI.out, List.drop_of_length_le (by rw [HN.out]; omega)]; rfl
theorem containsI_any (l : List Int) (A : Option Addr) (n c : Nat) (v : Int) (w : World) (hn : l.length = n) (hm : n ≤ 4194304) (hR : Rd w 1 A n (intC l)) :
    Calls Try.prog 54 #[.slice A n c, .int .i64 v] w fun e w' => e = .returned (.bool (decide (v ∈ l))) ∧ w = w' := by
  have HR := hid_ hR; clear hR
  have HN := hid_ hn; clear hn
  go_enter Try.func54, Try.ntmps54
  go_wp2_with (go_at_call 55; refine (indexI_any l A n c v _ HN.out hm HR.out).mono ?_; rintro e w1 ⟨rfl, rfl⟩)
  all_goals (go_returns; refine ⟨ret_bool ?_, rfl⟩; rw [Bool.eq_iff_iff]; simp [posI_iff])

set_option maxHeartbeats 1000000 in
theorem implOrd_any (o : List Int) (A : Option Addr) (n c m : Nat) (w : World) (hn : o.length = n) (hm : n ≤ 4194304) (hmm : m ≤ 4194304) (hc : n ≤ c) (hcm : c ≤ maxLen) (hR : Rd w 1 A n (intC o)) :
    Calls Try.prog 52 #[.slice A n c, .int .i64 m] w fun e w' => e = .returned (.bool (isOrd m o)) ∧ w = w' := by
  have HR := hid_ hR; clear hR
  have HN := hid_ hn; clear hn
  have HC := hid_ hcm; clear hcm
  by_cases hs : n = m
  · subst hs
    have hD := hid_ (show isOrd n o = (allB o 0 ((n : Int) - 1) && decide o.Nodup) by unfold isOrd; rw [HN.out]; simp)
    cases q1 : allB o 0 ((n : Int) - 1)
    · go_enter Try.func52, Try.ntmps52
      go_wp2_with (go_at_call 53; refine (allWithin_any o A n c _ _ _ HN.out hm HR.out).mono ?_; rintro e w1 ⟨rfl, rfl⟩)
      go_returns
      exact ⟨ret_bool (by rw [hD.out, q1]; rfl), rfl⟩
    · go_enter Try.func52, Try.ntmps52
      go_wp2_with (go_at_call 53; refine (allWithin_any o A n c _ _ _ HN.out hm HR.out).mono ?_; rintro e w1 ⟨rfl, rfl⟩)
      have hD1 := hid_ (hD.out.trans (by rw [q1]; rfl : _ = decide o.Nodup))
      clear hD q1
      go_loop [20] (fun v => ∃ k : Nat, k ≤ n ∧ v = .int .i64 k ∧ ∀ i (hi' : i < o.length), i < k → o[i] ∉ o.take i) (fun v => n - (intOf v).toNat)
      case atStart => exact ⟨0, Nat.zero_le _, rfl, fun i _ h => absurd h (by omega)⟩
      case round =>
        obtain ⟨k, hk, rfl, hid⟩ := hrel
        have HI := hid_ hid; clear hid
        by_cases hlt : k < n
        · have hlt' : k < o.length := by rw [HN.out]; exact hlt
          have hRt := HR.out.take (m := k) (by omega)
          rw [intC_take_] at hRt
          obtain ⟨b, ob, rfl, h0⟩ := HR.out.int k hlt HN.out
          have HRt := hid_ hRt; clear hRt
          obtain ⟨x, hx⟩ : ∃ x, o[k] = x := ⟨_, rfl⟩
          rw [hx] at h0
          have HX := hid_ hx; clear hx
          have hkl : (o.take k).length = k := by rw [List.length_take]; omega
          have HKL := hid_ hkl; clear hkl
          by_cases q : x ∈ o.take k
          · have hd : decide (x ∈ o.take k) = true := by simpa using q
            have Q := hid_ q; clear q
            go_wp2_with (go_at_call 54; refine (containsI_any (o.take k) _ k _ x _ HKL.out (by omega) HRt.out).mono ?_; rintro e w1 ⟨rfl, rfl⟩)
            go_returns
            exact ⟨ret_bool (hD1.out.trans (decide_eq_false (nodup_no hlt' (by rw [HX.out]; exact Q.out)))).symm, rfl⟩
          · have hd : decide (x ∈ o.take k) = false := by simpa using q
            have Q := hid_ q; clear q
            go_wp2_with (go_at_call 54; refine (containsI_any (o.take k) _ k _ x _ HKL.out (by omega) HRt.out).mono ?_; rintro e w1 ⟨rfl, rfl⟩)
            go_round
            case rel =>
              refine ⟨k + 1, by omega, by go_num, fun i hi' h => ?_⟩
              by_cases e : i = k
              · subst e; rw [HX.out]; exact Q.out
              · exact HI.out i hi' (by omega)
            case measure => exact meas_ hlt
        · go_wp2
          go_returns
          exact ⟨ret_bool (hD1.out.trans (decide_eq_true (nodup_yes (fun i hi => HI.out i hi (by rw [HN.out] at hi; omega))))).symm, rfl⟩
  · go_enter Try.func52, Try.ntmps52
    go_wp2
    go_returns
    exact ⟨ret_bool (by unfold isOrd; rw [HN.out]; simp [hs]), rfl⟩
end Go.Proofs.Ytfmkjhkopocokaa
