/-
  Signals: the functions on valid times.
-/
import Derived.Test.YtfelfopcmkeimaaSgP
import Derived.Test.YtfelfopcmkeimaaScA
namespace Go.Proofs.Ytfelfopcmkeimaa
open Go.ChangeShapes Go.WideShapes Go.ChangeAt Go.RowKit Go.BigFrame


theorem less_any (a b : Int) (w : World) : Calls Try.prog 67 #[.int .i64 a, .int .i64 b] w fun e w' => e = .returned (.bool (decide (a < b))) ∧ w = w' := by
  go_enter Try.func67, Try.ntmps67
  go_wp2_with (go_at_call 66; refine (isNaN_any _ _).mono ?_; rintro e w1 ⟨rfl, rfl⟩)
  all_goals (go_returns; exact ⟨ret_bool (by simp), rfl⟩)

set_option maxHeartbeats 1000000 in
theorem isSorted_any (l : List Int) (A : Option Addr) (n c : Nat) (w : World) (hn : l.length = n) (hm : n ≤ 4194304) (hR : Rd w 1 A n (intC l)) :
    Calls Try.prog 62 #[.slice A n c] w fun e w' => e = .returned (.bool (sortB l)) ∧ Below w.heap.size w w' := by
  have HR := hid_ hR; clear hR
  have HN := hid_ hn; clear hn
  go_enter Try.func62, Try.ntmps62
  go_wp2
  go_loopw [3] (fun v wr => ∃ k : Int, -1 ≤ k ∧ k < n ∧ v = .int .i64 k ∧ Below w.heap.size w wr ∧ ∀ i (hi' : i < l.length), k < i → 0 < i → l[i-1]'(by omega) ≤ l[i]) (fun v _ => (intOf v + 1).toNat)
  case atStart => exact ⟨(n : Int) - 1, by omega, by omega, rfl, Below.refl _ _, fun i hi h _ => absurd h (by rw [HN.out] at hi; omega)⟩
  case round =>
    obtain ⟨k, hk0, hkn, rfl, hb, hid⟩ := hrel
    have HI := hid_ hid; clear hid
    by_cases hlt : 0 < k
    · obtain ⟨k, rfl⟩ := Int.eq_ofNat_of_zero_le (show 0 ≤ k by omega)
      have hlt' : k < l.length := by rw [HN.out]; omega
      obtain ⟨b, o, rfl, h0⟩ := (HR.out.below hb).int k (by omega) HN.out
      obtain ⟨b', o', e', h1⟩ := (HR.out.below hb).int (k - 1) (by omega) HN.out
      injection e' with e1
      injection e1 with e2 e3
      subst e2; subst e3
      have hk1 : ((k : Int) - 1).toNat = k - 1 := by omega
      have z0 := fun m : Later wr => m.cell h0
      have z1 := fun m : Later wr => m.cell h1
      clear h0 h1
      have hsp : l[k] < l[k-1] ∨ ¬ l[k] < l[k-1] := by omega
      rcases hsp with hs | hs
      · have hd : decide (l[k] < l[k-1]) = true := by simpa using hs
        go_wp2
        (refine wp_region_later (by kernel_rfl) (by kernel_rfl) ?_
         repeat (go_big_quiet_step ((go_at_call 67; exact later_same (less_any _ _ _))))
         refine wpQuiet_nil ?_
         rintro _ ⟨nq, rfl⟩
         have hbq := nq.property)
        go_wp2
        go_returns
        exact ⟨ret_bool (sortB_at hlt' (by omega) hs).symm, hb.trans (hbq.mono hb.size)⟩
      · have hd : decide (l[k] < l[k-1]) = false := by simpa using hs
        go_wp2
        (refine wp_region_later (by kernel_rfl) (by kernel_rfl) ?_
         repeat (go_big_quiet_step ((go_at_call 67; exact later_same (less_any _ _ _))))
         refine wpQuiet_nil ?_
         rintro _ ⟨nq, rfl⟩
         have hbq := nq.property)
        go_wp2
        go_roundw
        case rel =>
          refine ⟨(k : Int) - 1, by omega, by omega, by go_num, hb.trans (hbq.mono hb.size), fun i hi h1 h2 => ?_⟩
          by_cases e : i = k
          · subst e; omega
          · exact HI.out i hi (by omega) h2
        case measure => simp [intOf] <;> omega
    · go_wp2
      go_returns
      exact ⟨ret_bool (sortB_end (fun i hi h0 => HI.out i hi (by omega) h0)).symm, hb⟩

set_option maxHeartbeats 1000000 in
theorem implTV_any (l : List Int) (A : Option Addr) (n c : Nat) (w : World) (hn : l.length = n) (hm : n ≤ 4194304) (hc : n ≤ c) (hcm : c ≤ maxLen) (hR : Rd w 1 A n (intC l)) :
    Calls Try.prog 47 #[.slice A n c] w fun e w' => e = .returned (.bool (tvB l)) ∧ Below w.heap.size w w' := by
  clear hc hcm
  have HR := hid_ hR; clear hR
  have HN := hid_ hn; clear hn
  by_cases hs : n ≤ 60
  · cases q1 : allB l 0 100000
    · go_enter Try.func47, Try.ntmps47
      go_wp2_with (go_at_call 61; refine (allWithin_any l A n c _ _ _ HN.out hm HR.out).mono ?_; rintro e w1 ⟨rfl, rfl⟩)
      go_returns
      exact ⟨ret_bool (by unfold tvB; rw [q1]; rfl), Below.refl _ _⟩
    · go_enter Try.func47, Try.ntmps47
      go_wp2_with (first | (go_at_call 61; refine (allWithin_any l A n c _ _ _ HN.out hm HR.out).mono ?_; rintro e w1 ⟨rfl, rfl⟩) | (go_at_call 62; refine (isSorted_any l A n c _ HN.out hm HR.out).mono ?_; rintro e w2 ⟨rfl, hb2⟩))
      go_returns
      exact ⟨ret_bool (by unfold tvB; rw [q1, HN.out]; simp [hs]), hb2⟩
  · go_enter Try.func47, Try.ntmps47
    go_wp2
    go_returns
    exact ⟨ret_bool (by unfold tvB; rw [HN.out]; simp [hs]), Below.refl _ _⟩

set_option maxHeartbeats 1000000 in
theorem specTV_any (l : List Int) (A : Option Addr) (n c : Nat) (w : World) (hn : l.length = n) (hm : n ≤ 4194304) (hR : Rd w 1 A n (intC l)) :
    Calls Try.prog 45 #[.slice A n c] w fun e w' => e = .returned (.bool (tvB l)) ∧ Below w.heap.size w w' := by
  have HR := hid_ hR; clear hR
  have HN := hid_ hn; clear hn
  go_enter Try.func45, Try.ntmps45
  go_wp2
  go_loopw [3] (fun v wr => ∃ k : Nat, k ≤ n ∧ v = .int .i64 k ∧ Below w.heap.size w wr ∧ (∀ i (hi' : i < l.length), i < k → inB l[i] 0 100000 = true) ∧ (∀ i (hi' : i < l.length), i < k → 0 < i → l[i-1]'(by omega) ≤ l[i])) (fun v _ => n - (intOf v).toNat)
  case atStart => exact ⟨0, Nat.zero_le _, rfl, Below.refl _ _, fun i _ h => absurd h (by omega), fun i _ h => absurd h (by omega)⟩
  case round =>
    obtain ⟨k, hk, rfl, hb, hid, hid2⟩ := hrel
    have HI := hid_ hid; clear hid
    have HJ := hid_ hid2; clear hid2
    by_cases hlt : k < n
    · have hlt' : k < l.length := by rw [HN.out]; exact hlt
      obtain ⟨b, o, rfl, h0⟩ := (HR.out.below hb).int k hlt HN.out
      have z0 := fun m : Later wr => m.cell h0
      cases q : inB l[k] 0 100000
      · clear h0
        go_wp2
        (refine wp_region_later (by kernel_rfl) (by kernel_rfl) ?_
         repeat (go_big_quiet_step ((go_at_call 42; exact later_same (l1In_any _ _ _ _))))
         refine wpQuiet_nil ?_
         rintro _ ⟨nq, rfl⟩
         have hbq := nq.property)
        go_wp2
        go_returns
        exact ⟨ret_bool (by unfold tvB; rw [allB_at hlt' q]; rfl), hb.trans (hbq.mono hb.size)⟩
      · by_cases hk0 : 0 < k
        · obtain ⟨b', o', e', h1⟩ := (HR.out.below hb).int (k - 1) (by omega) HN.out
          injection e' with e1
          injection e1 with e2 e3
          subst e2; subst e3
          have hk1 : ((k : Int) - 1).toNat = k - 1 := by omega
          have z1 := fun m : Later wr => m.cell h1
          have hk0' : (0 : Int) < (k : Int) := by omega
          clear h0 h1
          have hsp : l[k] < l[k-1] ∨ ¬ l[k] < l[k-1] := by omega
          rcases hsp with hs | hs
          · go_wp2
            (refine wp_region_later (by kernel_rfl) (by kernel_rfl) ?_
             repeat (go_big_quiet_step ((go_at_call 42; exact later_same (l1In_any _ _ _ _))))
             refine wpQuiet_nil ?_
             rintro _ ⟨nq, rfl⟩
             have hbq := nq.property)
            go_wp2
            go_returns
            exact ⟨ret_bool (by unfold tvB; rw [sortB_at hlt' hk0 hs]; simp), hb.trans (hbq.mono hb.size)⟩
          · go_wp2
            (refine wp_region_later (by kernel_rfl) (by kernel_rfl) ?_
             repeat (go_big_quiet_step ((go_at_call 42; exact later_same (l1In_any _ _ _ _))))
             refine wpQuiet_nil ?_
             rintro _ ⟨nq, rfl⟩
             have hbq := nq.property)
            go_wp2
            go_roundw
            case rel =>
              refine ⟨k + 1, by omega, by go_num, hb.trans (hbq.mono hb.size), fun i hi h => ?_, fun i hi h h2 => ?_⟩
              · by_cases e : i = k
                · subst e; exact q
                · exact HI.out i hi (by omega)
              · by_cases e : i = k
                · subst e; omega
                · exact HJ.out i hi (by omega) h2
            case measure => simp [intOf] <;> omega
        · have hk0' : ¬ ((0 : Int) < (k : Int)) := by omega
          clear h0
          go_wp2
          (refine wp_region_later (by kernel_rfl) (by kernel_rfl) ?_
           repeat (go_big_quiet_step ((go_at_call 42; exact later_same (l1In_any _ _ _ _))))
           refine wpQuiet_nil ?_
           rintro _ ⟨nq, rfl⟩
           have hbq := nq.property)
          go_wp2
          go_roundw
          case rel =>
            refine ⟨k + 1, by omega, by go_num, hb.trans (hbq.mono hb.size), fun i hi h => ?_, fun i hi h h2 => by omega⟩
            have : i = k := by omega
            subst this; exact q
          case measure => simp [intOf] <;> omega
    · go_wp2
      go_returns
      refine ⟨ret_bool ?_, hb⟩
      unfold tvB
      rw [allB_end (fun i hi => HI.out i hi (by rw [HN.out] at hi; omega)), sortB_end (fun i hi h0 => HJ.out i hi (by rw [HN.out] at hi; omega) h0), HN.out]
      rw [Bool.eq_iff_iff]; simp; omega
end Go.Proofs.Ytfelfopcmkeimaa
