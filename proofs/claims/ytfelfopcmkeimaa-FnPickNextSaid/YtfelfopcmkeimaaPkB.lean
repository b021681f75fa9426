/-
  Schedulers: the request that is served next, as the program tells it.
-/
import Derived.Test.YtfelfopcmkeimaaPkA
namespace Go.Proofs.Ytfelfopcmkeimaa
open Go.ChangeShapes Go.WideShapes Go.ChangeAt Go.RowKit Go.BigFrame

set_option maxHeartbeats 4000000 in
theorem implPick_any (l : List Rq) (A : Option Addr) (n c : Nat) (ts : List Int) (A2 : Option Addr) (n2 c2 : Nat) (now head reads writes : Int) (w : World) (hn : l.length = n) (hm : n ≤ 1048576) (hc : n ≤ c) (hcm : c ≤ maxLen) (hR : Rd w 3 A n (rqC l)) (hn2 : ts.length = n2) (hm2 : n2 ≤ 1048576) (hc2 : n2 ≤ c2) (hcm2 : c2 ≤ maxLen) (hR2 : Rd w 1 A2 n2 (intC ts)) :
    Calls Try.prog 22 #[.slice A n c, .slice A2 n2 c2, .int .i64 now, .int .i64 head, .int .i64 reads, .int .i64 writes] w fun e w' => e = .returned (.int .i64 (pickR l ts now head reads writes)) ∧ Below w.heap.size w w' := by
  have HR := hid_ hR; clear hR
  have HR2 := hid_ hR2; clear hR2
  have HN := hid_ hn; clear hn
  have HN2 := hid_ hn2; clear hn2
  have HC2 := hid_ hcm2; clear hcm2
  have HC := hid_ hcm; clear hcm
  cases hok : pkOk l ts now head reads writes
  · have hR0 := hid_ (pickR_no hok)
    rcases pkOk_not hok with q0 | ⟨q0, q1⟩ | ⟨q0, q1, q2⟩ | ⟨q0, q1, q2, q3⟩ | ⟨q0, q1, q2, q3, q4⟩ | ⟨q0, q1, q2, q3, q4, q5⟩ | ⟨q0, q1, q2, q3, q4, q5, q6⟩
    all_goals
      clear hok
      try rw [HN.out, HN2.out] at q2
      try subst q2
      go_enter Try.func22, Try.ntmps22
      go_wp2_with (first | (go_at_call 39; refine (implRV_any l A _ c _ HN.out (by omega) hc HC.out HR.out).mono ?_; rintro e w1 ⟨rfl, hb1⟩; have HR2b := hid_ (HR2.out.below hb1)) | (go_at_call 47; refine (implTV_any ts A2 _ c2 _ HN2.out (by omega) hc2 HC2.out HR2b.out).mono ?_; rintro e w2 ⟨rfl, hb2⟩) | (go_at_call 40; refine (iwithin_any _ _ _ _).mono ?_; rintro e w3 ⟨rfl, rfl⟩))
      all_goals
        go_returns
        exact ⟨ret_int (by rw [hR0.out]), by first | exact hb1 | exact hb1.trans (hb2.mono hb1.size)⟩
  · obtain ⟨q0, q1, q2, q3, q4, q5, q6⟩ := pkOk_parts hok
    have hR0 := hid_ (pickR_ok hok)
    clear hok
    rw [HN.out, HN2.out] at q2
    subst q2
    have b3 := inB_iff.1 q3
    have b4 := inB_iff.1 q4
    have b5 := inB_iff.1 q5
    have b6 := inB_iff.1 q6
    have HTM := hid_ (tm_bd q1)
    have hl30 := rv_length q0
    rw [HN.out] at hl30
    rcases Nat.eq_zero_or_pos n2 with e | hz
    · subst e
      have hl0 : l = [] := List.eq_nil_of_length_eq_zero HN.out
      have HL0 := hid_ hl0; clear hl0
      go_enter Try.func22, Try.ntmps22
      go_wp2_with (first | (go_at_call 39; refine (implRV_any l A _ c _ HN.out (by omega) hc HC.out HR.out).mono ?_; rintro e w1 ⟨rfl, hb1⟩; have HR2b := hid_ (HR2.out.below hb1)) | (go_at_call 47; refine (implTV_any ts A2 _ c2 _ HN2.out (by omega) hc2 HC2.out HR2b.out).mono ?_; rintro e w2 ⟨rfl, hb2⟩) | (go_at_call 40; refine (iwithin_any _ _ _ _).mono ?_; rintro e w3 ⟨rfl, rfl⟩))
      go_returns
      exact ⟨ret_int (by rw [hR0.out, HL0.out]; rfl), hb1.trans (hb2.mono hb1.size)⟩
    have hz' : ¬ (n2 : Int) = 0 := by omega
    go_enter Try.func22, Try.ntmps22
    go_wp2_with (first | (go_at_call 39; refine (implRV_any l A _ c _ HN.out (by omega) hc HC.out HR.out).mono ?_; rintro e w1 ⟨rfl, hb1⟩; have HR2b := hid_ (HR2.out.below hb1)) | (go_at_call 47; refine (implTV_any ts A2 _ c2 _ HN2.out (by omega) hc2 HC2.out HR2b.out).mono ?_; rintro e w2 ⟨rfl, hb2⟩) | (go_at_call 40; refine (iwithin_any _ _ _ _).mono ?_; rintro e w3 ⟨rfl, rfl⟩))
    clear q0 q1 q3 q4 q5 q6
    have hbb := hb1.trans (hb2.mono hb1.size)
    obtain ⟨b2, o2, rfl⟩ := addr_of_ HR2.out hz
    obtain ⟨b1, o1, rfl⟩ := addr_of_ HR.out hz
    go_loopw [59] (fun v wr => ∃ k : Nat, k ≤ n2 ∧ v = .int .i64 k ∧ Below w.heap.size w wr ∧ ∀ i, i < k → dueB l ts now false reads i = false) (fun v _ => n2 - (intOf v).toNat)
    case atStart => exact ⟨0, Nat.zero_le _, rfl, hbb, fun i h => absurd h (by omega)⟩
    case round =>
      obtain ⟨k, hk, rfl, hb, hid⟩ := hrel
      have HI := hid_ hid; clear hid
      by_cases hlt : k < n2
      · obtain ⟨c0, c1, c2'⟩ := rq_at3 (HR.out.below hb) k hlt HN.out
        have t0 := tm_at (HR2.out.below hb) k hlt HN2.out
        have tb := HTM.out k (by rw [HN2.out]; exact hlt)
        have HD := hid_ (show dueB l ts now false reads k = ((wrK l k == false) && decide (reads ≤ now - tmK ts k)) from rfl)
        obtain ⟨t, ht⟩ : ∃ t, tmK ts k = t := ⟨_, rfl⟩
        rw [ht] at t0 tb HD
        obtain ⟨wb, hwb⟩ : ∃ b, wrK l k = b := ⟨_, rfl⟩
        rw [hwb] at c2' HD
        clear ht hwb
        have t1 : ∀ o, (wr.alloc o).cell? ⟨b2, o2 + k, none⟩ = some (.int .i64 t) := fun o => (World.cell?_alloc_past _ _ _ (cell_lt t0)).trans t0
        have hltz : (k : Int) < (n2 : Int) := by omega
        by_cases hdue : reads ≤ now - t
        · cases wb
          · have HQ := hid_ (HD.out.trans (by rw [decide_eq_true hdue])); clear HD
            go_wp2
            go_returns
            exact ⟨ret_int (by rw [hR0.out]; exact (pickN_a (by rw [HN.out]; exact hlt) HQ.out HI.out).symm), hb.alloc hb.size _⟩
          · have HQ := hid_ (HD.out.trans (by rfl : _ = false)); clear HD
            go_wp2
            go_roundw
            case rel =>
              refine ⟨k + 1, by omega, by go_num, hb.alloc hb.size _, fun i h => ?_⟩
              by_cases e : i = k
              · subst e; exact HQ.out
              · exact HI.out i (by omega)
            case measure => exact meas_ hlt
        · have HQ := hid_ (HD.out.trans (by rw [decide_eq_false hdue]; simp : _ = false)); clear HD
          cases wb
          all_goals
            go_wp2
            go_roundw
            case rel =>
              refine ⟨k + 1, by omega, by go_num, hb.alloc hb.size _, fun i h => ?_⟩
              by_cases e : i = k
              · subst e; exact HQ.out
              · exact HI.out i (by omega)
            case measure => exact meas_ hlt
      · have e : k = n2 := by omega
        subst e
        go_wp2
        go_loopw [81] (fun v wr => ∃ j : Nat, j ≤ k ∧ v = .int .i64 j ∧ Below w.heap.size w wr ∧ ∀ i, i < j → dueB l ts now true writes i = false) (fun v _ => k - (intOf v).toNat)
        case atStart => exact ⟨0, Nat.zero_le _, rfl, hb, fun i h => absurd h (by omega)⟩
        case round =>
          obtain ⟨j, hj, rfl, hb, hid⟩ := hrel
          have HJ := hid_ hid; clear hid
          by_cases hlt : j < k
          · obtain ⟨c0, c1, c2'⟩ := rq_at3 (HR.out.below hb) j hlt HN.out
            have t0 := tm_at (HR2.out.below hb) j hlt HN2.out
            have tb := HTM.out j (by rw [HN2.out]; exact hlt)
            have HD := hid_ (show dueB l ts now true writes j = ((wrK l j == true) && decide (writes ≤ now - tmK ts j)) from rfl)
            obtain ⟨t, ht⟩ : ∃ t, tmK ts j = t := ⟨_, rfl⟩
            rw [ht] at t0 tb HD
            obtain ⟨wb, hwb⟩ : ∃ b, wrK l j = b := ⟨_, rfl⟩
            rw [hwb] at c2' HD
            clear ht hwb
            have t1 : ∀ o, (wr.alloc o).cell? ⟨b2, o2 + j, none⟩ = some (.int .i64 t) := fun o => (World.cell?_alloc_past _ _ _ (cell_lt t0)).trans t0
            have hltz : (j : Int) < (k : Int) := by omega
            by_cases hdue : writes ≤ now - t
            · cases wb
              · have HQ := hid_ (HD.out.trans (by rfl : _ = false)); clear HD
                go_wp2
                go_roundw
                case rel =>
                  refine ⟨j + 1, by omega, by go_num, hb.alloc hb.size _, fun i h => ?_⟩
                  by_cases e : i = j
                  · subst e; exact HQ.out
                  · exact HJ.out i (by omega)
                case measure => exact meas_ hlt
              · have HQ := hid_ (HD.out.trans (by rw [decide_eq_true hdue])); clear HD
                go_wp2
                go_returns
                exact ⟨ret_int (by rw [hR0.out]; exact (pickN_b (by rw [HN.out]; exact hlt) (by rw [HN.out]; exact HI.out) HQ.out HJ.out).symm), hb.alloc hb.size _⟩
            · have HQ := hid_ (HD.out.trans (by rw [decide_eq_false hdue]; simp : _ = false)); clear HD
              cases wb
              all_goals
                go_wp2
                go_roundw
                case rel =>
                  refine ⟨j + 1, by omega, by go_num, hb.alloc hb.size _, fun i h => ?_⟩
                  by_cases e : i = j
                  · subst e; exact HQ.out
                  · exact HJ.out i (by omega)
                case measure => exact meas_ hlt
          · have e : j = k := by omega
            subst e
            have HP := hid_ (pickN_c (head := head) (by rw [HN.out]; exact HI.out) (by rw [HN.out]; exact HJ.out)); clear HI HJ
            have hsl := (sweepO_length l head (sortN l j)).trans (sortN_length l j)
            go_wp2_with fail
            refine (implSwp_any l _ j c head _ HN.out hl30 (HR.out.below hb)).mono ?_
            rw [HN.out] at HP
            obtain ⟨S, hS⟩ : ∃ S, sweepO l head (sortN l j) = S := ⟨_, rfl⟩
            rw [hS] at HP hsl ⊢
            clear hS
            rintro e w3 ⟨A3, c3, rfl, h1, h2, hown, hb3⟩
            obtain ⟨b3', o3, rfl, h0⟩ := (own_rd hown).int 0 (by omega) rfl
            rw [Nat.add_zero] at h0
            have hp : (0 : Int) < ((S.length : Nat) : Int) := by omega
            have HS0 := hid_ (show S.getD 0 (-1) = S[0]'(by omega) from by simp [show 0 < S.length by omega])
            have HSL := hid_ hsl; clear hown
            go_wp2
            go_returns
            exact ⟨ret_int (by rw [hR0.out, HP.out, HS0.out]), hb.trans (hb3.mono hb.size)⟩
end Go.Proofs.Ytfelfopcmkeimaa
