/-
  Schedulers: the request that is served next, as the reference tells it.
-/
import Derived.Test.YtfelfopcmkeimaaPkB
import Derived.BigRegion
namespace Go.Proofs.Ytfelfopcmkeimaa
open Go.ChangeShapes Go.WideShapes Go.ChangeAt Go.RowKit Go.BigFrame

set_option maxHeartbeats 8000000 in
theorem specPick_any (l : List Rq) (A : Option Addr) (n c : Nat) (ts : List Int) (A2 : Option Addr) (n2 c2 : Nat) (now head reads writes : Int) (w : World) (hn : l.length = n) (hm : n ≤ 1048576) (hR : Rd w 3 A n (rqC l)) (hn2 : ts.length = n2) (hm2 : n2 ≤ 1048576) (hR2 : Rd w 1 A2 n2 (intC ts)) :
    Calls Try.prog 19 #[.slice A n c, .slice A2 n2 c2, .int .i64 now, .int .i64 head, .int .i64 reads, .int .i64 writes] w fun e w' => e = .returned (.int .i64 (pickR l ts now head reads writes)) ∧ Below w.heap.size w w' := by
  have HR := hid_ hR; clear hR
  have HR2 := hid_ hR2; clear hR2
  have HN := hid_ hn; clear hn
  have HN2 := hid_ hn2; clear hn2
  cases hok : pkOk l ts now head reads writes
  · have hR0 := hid_ (pickR_no hok)
    rcases pkOk_not hok with q0 | ⟨q0, q1⟩ | ⟨q0, q1, q2⟩ | ⟨q0, q1, q2, q3⟩ | ⟨q0, q1, q2, q3, q4⟩ | ⟨q0, q1, q2, q3, q4, q5⟩ | ⟨q0, q1, q2, q3, q4, q5, q6⟩
    all_goals
      clear hok
      try rw [HN.out, HN2.out] at q2
      try subst q2
      go_enter Try.func19, Try.ntmps19
      go_wp2_with (first | (go_at_call 35; refine (specRV_any l A _ c _ HN.out (by omega) HR.out).mono ?_; rintro e w1 ⟨rfl, rfl⟩) | (go_at_call 45; refine (specTV_any ts A2 _ c2 _ HN2.out (by omega) HR2.out).mono ?_; rintro e w2 ⟨rfl, hb2⟩) | (go_at_call 42; refine (l1In_any _ _ _ _).mono ?_; rintro e w3 ⟨rfl, rfl⟩))
      all_goals
        go_returns
        exact ⟨ret_int (by rw [hR0.out]), by first | exact hb2 | exact Below.refl _ _⟩
  · obtain ⟨q0, q1, q2, q3, q4, q5, q6⟩ := pkOk_parts hok
    have hR0 := hid_ (pickR_ok hok)
    clear hok
    rw [HN.out, HN2.out] at q2
    subst q2
    have b3 := inB_iff.1 q3
    have b4 := inB_iff.1 q4
    have b5 := inB_iff.1 q5
    have b6 := inB_iff.1 q6
    have HTM := hid_ (tm_bd q1)
    have HRV := hid_ q0
    have HIH := hid_ q4
    have hl30 := rv_length q0
    rw [HN.out] at hl30
    go_enter Try.func19, Try.ntmps19
    go_wp2_with (first | (go_at_call 35; refine (specRV_any l A _ c _ HN.out (by omega) HR.out).mono ?_; rintro e w1 ⟨rfl, rfl⟩) | (go_at_call 45; refine (specTV_any ts A2 _ c2 _ HN2.out (by omega) HR2.out).mono ?_; rintro e w2 ⟨rfl, hb2⟩) | (go_at_call 42; refine (l1In_any _ _ _ _).mono ?_; rintro e w3 ⟨rfl, rfl⟩))
    clear q0 q1 q3 q4 q5 q6
    go_loopw [13] (fun v wr => ∃ p : Int, 0 ≤ p ∧ p ≤ 2 ∧ v = .int .i64 p ∧ Below w.heap.size w wr ∧ (0 < p → ∀ i, i < n2 → dueB l ts now false reads i = false) ∧ (1 < p → ∀ i, i < n2 → dueB l ts now true writes i = false)) (fun v _ => 2 - (intOf v).toNat)
    case atStart => exact ⟨0, by omega, by omega, rfl, hb2, fun h => absurd h (by omega), fun h => absurd h (by omega)⟩
    case round =>
      obtain ⟨p, hp0, hp, rfl, hb, ha, hbb⟩ := hrel
      have HA := hid_ ha; clear ha
      have HBB := hid_ hbb; clear hbb
      rcases (show p = 0 ∨ p = 1 ∨ p = 2 by omega) with rfl | rfl | rfl
      · clear hp0 hp
        go_wp2
        go_loopw [14] (fun v wi => ∃ k : Nat, k ≤ n2 ∧ v = .int .i64 k ∧ Below w.heap.size w wi ∧ ∀ i, i < k → dueB l ts now false reads i = false) (fun v _ => n2 - (intOf v).toNat)
        case atStart => exact ⟨0, Nat.zero_le _, rfl, hb, fun i h => absurd h (by omega)⟩
        case round =>
          obtain ⟨k, hk, rfl, hbi, hid⟩ := hrel
          have HI := hid_ hid; clear hid
          by_cases hlt : k < n2
          · obtain ⟨b2, o2, rfl⟩ := addr_of_ HR2.out (by omega)
            obtain ⟨b1, o1, rfl⟩ := addr_of_ HR.out (by omega)
            obtain ⟨c0, c1, c2'⟩ := rq_at3 (HR.out.below hbi) k hlt HN.out
            have t0 := tm_at (HR2.out.below hbi) k hlt HN2.out
            have tb := HTM.out k (by rw [HN2.out]; exact hlt)
            have HD := hid_ (show dueB l ts now false reads k = ((wrK l k == false) && decide (reads ≤ now - tmK ts k)) from rfl)
            obtain ⟨t, ht⟩ : ∃ t, tmK ts k = t := ⟨_, rfl⟩
            rw [ht] at t0 tb HD
            obtain ⟨wb, hwb⟩ : ∃ b, wrK l k = b := ⟨_, rfl⟩
            rw [hwb] at c2' HD
            clear ht hwb c0 c1
            have hltz : (k : Int) < (n2 : Int) := by omega
            have HF := hid_ (fun (h : dueB l ts now false reads k = false) i (hi : i < k + 1) => show dueB l ts now false reads i = false from (by
              by_cases e : i = k
              · subst e; exact h
              · exact HI.out i (by omega)))
            by_cases hwe : wb = true
            · subst hwe
              have HQ := hid_ (HD.out.trans (by rfl : _ = false)); clear HD
              go_wp2
              go_quiet (fail)
              go_wp2
              go_roundw
              case rel => exact ⟨k + 1, by omega, by go_num, bdN hbi _, HF.out HQ.out⟩
              case measure => exact meas_ hlt
            · have hwe' : wb = false := by cases wb <;> simp_all
              subst hwe'
              clear hwe
              have t1 : ∀ o, (wr.alloc o).cell? ⟨b2, o2 + k, none⟩ = some (.int .i64 t) := fun o => (World.cell?_alloc_past _ _ _ (cell_lt t0)).trans t0
              have t2 : ∀ o, (wr.alloc o).cell? ⟨b1, o1 + k * 3 + 2, none⟩ = some (.bool false) := fun o => (World.cell?_alloc_past _ _ _ (cell_lt c2')).trans c2'
              by_cases hdue : reads ≤ now - t
              · have HQ := hid_ (HD.out.trans (by rw [decide_eq_true hdue]; rfl : _ = true)); clear HD
                have hd : decide (reads ≤ now - t) = true := decide_eq_true hdue
                go_wp2
                go_big_region
                all_goals go_wp2
                all_goals
                  go_returns
                  exact ⟨ret_int (by rw [hR0.out]; exact (pickN_a (by rw [HN.out]; exact hlt) HQ.out HI.out).symm), (hbi.alloc hbi.size _).drew⟩
              · have HQ := hid_ (HD.out.trans (by rw [decide_eq_false hdue]; simp : _ = false)); clear HD
                have hd : decide (reads ≤ now - t) = false := decide_eq_false hdue
                go_wp2
                go_big_region
                all_goals go_wp2
                all_goals
                  go_roundw
                  case rel => exact ⟨k + 1, by omega, by go_num, (hbi.alloc hbi.size _).drew, HF.out HQ.out⟩
                  case measure => exact meas_ hlt
          · have e : k = n2 := by omega
            subst e
            go_wp2
            go_roundw
            case rel => exact ⟨1, by omega, by omega, by go_num, hbi, fun _ => HI.out, fun h => absurd h (by omega)⟩
            case measure => simp [intOf]
      · clear hp0 hp
        go_wp2
        go_loopw [14] (fun v wi => ∃ k : Nat, k ≤ n2 ∧ v = .int .i64 k ∧ Below w.heap.size w wi ∧ ∀ i, i < k → dueB l ts now true writes i = false) (fun v _ => n2 - (intOf v).toNat)
        case atStart => exact ⟨0, Nat.zero_le _, rfl, hb, fun i h => absurd h (by omega)⟩
        case round =>
          obtain ⟨k, hk, rfl, hbi, hid⟩ := hrel
          have HI := hid_ hid; clear hid
          by_cases hlt : k < n2
          · obtain ⟨b2, o2, rfl⟩ := addr_of_ HR2.out (by omega)
            obtain ⟨b1, o1, rfl⟩ := addr_of_ HR.out (by omega)
            obtain ⟨c0, c1, c2'⟩ := rq_at3 (HR.out.below hbi) k hlt HN.out
            have t0 := tm_at (HR2.out.below hbi) k hlt HN2.out
            have tb := HTM.out k (by rw [HN2.out]; exact hlt)
            have HD := hid_ (show dueB l ts now true writes k = ((wrK l k == true) && decide (writes ≤ now - tmK ts k)) from rfl)
            obtain ⟨t, ht⟩ : ∃ t, tmK ts k = t := ⟨_, rfl⟩
            rw [ht] at t0 tb HD
            obtain ⟨wb, hwb⟩ : ∃ b, wrK l k = b := ⟨_, rfl⟩
            rw [hwb] at c2' HD
            clear ht hwb c0 c1
            have hltz : (k : Int) < (n2 : Int) := by omega
            have HF := hid_ (fun (h : dueB l ts now true writes k = false) i (hi : i < k + 1) => show dueB l ts now true writes i = false from (by
              by_cases e : i = k
              · subst e; exact h
              · exact HI.out i (by omega)))
            by_cases hwe : wb = false
            · subst hwe
              have HQ := hid_ (HD.out.trans (by rfl : _ = false)); clear HD
              go_wp2
              go_quiet (fail)
              go_wp2
              go_roundw
              case rel => exact ⟨k + 1, by omega, by go_num, bdN hbi _, HF.out HQ.out⟩
              case measure => exact meas_ hlt
            · have hwe' : wb = true := by cases wb <;> simp_all
              subst hwe'
              clear hwe
              have t1 : ∀ o, (wr.alloc o).cell? ⟨b2, o2 + k, none⟩ = some (.int .i64 t) := fun o => (World.cell?_alloc_past _ _ _ (cell_lt t0)).trans t0
              have t2 : ∀ o, (wr.alloc o).cell? ⟨b1, o1 + k * 3 + 2, none⟩ = some (.bool true) := fun o => (World.cell?_alloc_past _ _ _ (cell_lt c2')).trans c2'
              by_cases hdue : writes ≤ now - t
              · have HQ := hid_ (HD.out.trans (by rw [decide_eq_true hdue]; rfl : _ = true)); clear HD
                have hd : decide (writes ≤ now - t) = true := decide_eq_true hdue
                go_wp2
                go_big_region
                all_goals go_wp2
                all_goals
                  go_returns
                  exact ⟨ret_int (by rw [hR0.out]; exact (pickN_b (by rw [HN.out]; exact hlt) (by rw [HN.out]; exact HA.out (by omega)) HQ.out HI.out).symm), (hbi.alloc hbi.size _).drew⟩
              · have HQ := hid_ (HD.out.trans (by rw [decide_eq_false hdue]; simp : _ = false)); clear HD
                have hd : decide (writes ≤ now - t) = false := decide_eq_false hdue
                go_wp2
                go_big_region
                all_goals go_wp2
                all_goals
                  go_roundw
                  case rel => exact ⟨k + 1, by omega, by go_num, (hbi.alloc hbi.size _).drew, HF.out HQ.out⟩
                  case measure => exact meas_ hlt
          · have e : k = n2 := by omega
            subst e
            go_wp2
            go_roundw
            case rel => exact ⟨2, by omega, by omega, by go_num, hbi, fun _ => HA.out (by omega), fun _ => HI.out⟩
            case measure => simp [intOf]
      · have HP := hid_ (pickN_c (head := head) (by rw [HN.out]; exact HA.out (by omega)) (by rw [HN.out]; exact HBB.out (by omega))); clear HA HBB
        have hsr := sweepR_ok (head := head) HRV.out HIH.out
        rw [HN.out] at hsr HP
        have hsl := (sweepO_length l head (sortN l n2)).trans (sortN_length l n2)
        go_wp2_with fail
        refine (specSwR_any l A n2 c head _ HN.out (by omega) (HR.out.below hb)).mono ?_
        rw [hsr]
        clear hsr
        obtain ⟨S, hS⟩ : ∃ S, sweepO l head (sortN l n2) = S := ⟨_, rfl⟩
        rw [hS] at HP hsl ⊢
        clear hS
        rintro e w3 ⟨A3, c3, rfl, h1, h2, hown, hb3⟩
        rcases Nat.eq_zero_or_pos n2 with e | hz
        · subst e
          have hS0 : S = [] := List.eq_nil_of_length_eq_zero hsl
          subst hS0
          go_wp2
          go_returns
          exact ⟨ret_int (by rw [hR0.out, HP.out]; rfl), hb.trans (hb3.mono hb.size)⟩
        · obtain ⟨b3', o3, rfl, h0⟩ := (own_rd hown).int 0 (by omega) rfl
          rw [Nat.add_zero] at h0
          have hp0 : (0 : Int) < ((S.length : Nat) : Int) := by omega
          have hp1 : ¬ ((S.length : Nat) : Int) = 0 := by omega
          have HS0 := hid_ (show S.getD 0 (-1) = S[0]'(by omega) from by simp [show 0 < S.length by omega])
          have HSL := hid_ hsl; clear hown
          go_wp2
          go_returns
          exact ⟨ret_int (by rw [hR0.out, HP.out, HS0.out]), hb.trans (hb3.mono hb.size)⟩
end Go.Proofs.Ytfelfopcmkeimaa
