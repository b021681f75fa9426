/-
  Requests: merging as the reference does it; dividing.
-/
import Derived.Test.YtmcpkoogcglomaaRqD
namespace Go.Proofs.Ytmcpkoogcglomaa
open Go.ChangeShapes Go.WideShapes Go.ChangeAt Go.RowKit Go.BigFrame

set_option maxHeartbeats 2000000 in
theorem specMrg_any (fl : List Rq) (A : Option Addr) (n c : Nat) (most : Int) (w : World) (hn : fl.length = n) (hm : n ≤ 1048576) (hR : Rd w 3 A n (rqC fl)) :
    Calls Try.prog 27 #[.slice A n c, .int .i64 most] w (RSl w 33 3 (mrR fl most).length (rqC (mrR fl most))) := by
  have HR := hid_ hR; clear hR
  have HN := hid_ hn; clear hn
  rcases mrR_cases fl most with ⟨q1, h0⟩ | ⟨q1, q2, h0⟩ | ⟨q1, q2, h0⟩
  rotate_right
  · have hR0 := hid_ h0; clear h0
    have b2 := inB_iff.1 q2
    have HS := hid_ (rv_sm q1)
    have HM := hid_ (fun k => mrg_sm (l := fl) (most := most) q1 b2.2 k)
    have hl30 := rv_length q1
    rw [HN.out] at hl30
    go_enter Try.func27, Try.ntmps27
    go_wp2_with (first | (go_at_call 13; refine (specRV_any fl A n c _ HN.out (by omega) (HR.out.alloc _)).mono ?_; rintro e w1 ⟨rfl, rfl⟩) | (go_at_call 33; refine (l1In_any _ _ _ _).mono ?_; rintro e w2 ⟨rfl, rfl⟩))
    clear q1 q2
    go_loopw [5, 6] (fun v i wr => ∃ k : Nat, k ≤ n ∧ i = .int .i64 k ∧ wr.ownsRow w.heap.size 33 3 v (mrg most (fl.take k)).length (rqC (mrg most (fl.take k))) ∧ Below w.heap.size w wr) (fun _ i _ => n - (intOf i).toNat)
    case atStart => exact ⟨0, Nat.zero_le _, rfl, own_empty w 33 3, (Below.refl _ _).alloc (Nat.le_refl _) _⟩
    case round =>
      obtain ⟨k, hk, rfl, ho, hb⟩ := hrel
      have HO := hid_ ho; clear ho
      have hbs := hb.size
      by_cases hlt : k < n
      · have hlt' : k < fl.length := by rw [HN.out]; exact hlt
        have hT := hid_ (mrg_take most fl k hlt')
        have hsm := hid_ (HS.out.get k hlt')
        have hmm := hid_ (HM.out k)
        have hml := mrg_length most (fl.take k)
        have hml2 : (fl.take k).length ≤ k := List.length_take_le _ _
        obtain ⟨X, hX⟩ : ∃ X, mrg most (fl.take k) = X := ⟨_, rfl⟩
        rw [hX] at HO hT hmm hml
        clear hX
        obtain ⟨A5, c5, rfl, hc5, hcm5⟩ := own_shape HO.out
        have HC5 := hid_ hcm5; clear hcm5
        go_wp2
        go_loopw [7, 8] (fun q v wi => ∃ (j : Nat) (Y : List Rq) (jd : Bool), j ≤ X.length ∧ Y.length = X.length ∧ v = .int .i64 j ∧ q = .bool jd ∧ wi.ownsRow w.heap.size 33 3 (.slice A5 X.length c5) X.length (rqC Y) ∧ Below w.heap.size w wi ∧ (jd = false → Y = X ∧ ∀ i (hi : i < X.length), i < j → joins most X[i] fl[k] = false) ∧ (jd = true → Y = mIns most X fl[k])) (fun _ v _ => X.length - (intOf v).toNat)
        case atStart => exact ⟨0, X, false, Nat.zero_le _, rfl, rfl, rfl, HO.out, hb, fun _ => ⟨rfl, fun i _ h => absurd h (by omega)⟩, fun h => by cases h⟩
        case round =>
          obtain ⟨j, Y, jd, hj, hyl, rfl, rfl, ho, hbi, hF, hTT⟩ := hrel
          have HOi := hid_ ho; clear ho
          have hbis := hbi.size
          clear HO
          cases jd
          · obtain ⟨hYX, hno⟩ := hF rfl
            subst hYX
            have HNO := hid_ hno; clear hno hF hTT hyl
            by_cases hlt2 : j < Y.length
            · obtain ⟨b, o, rfl, h0, h1, h2⟩ := (HR.out.below hbi).rq k hlt HN.out
              obtain ⟨g, rfl, hB, hgl, hcells, hfz⟩ := own_block HOi.out (by omega)
              have x0 := hcells (j * 3) _ (rqC_get Y j hlt2).1
              have x1 := hcells (j * 3 + 1) _ (rqC_get Y j hlt2).2.1
              have x2 := hcells (j * 3 + 2) _ (rqC_get Y j hlt2).2.2
              have f1 := hfz (j * 3 + 1)
              clear hcells hfz
              have z0 := fun m : Later wr => m.cell h0
              have z1 := fun m : Later wr => m.cell h1
              have z2 := fun m : Later wr => m.cell h2
              have y0 := fun m : Later wr => m.cell x0
              have y1 := fun m : Later wr => m.cell x1
              have y2 := fun m : Later wr => m.cell x2
              have F1 := hid_ f1; clear f1
              clear h0 h1 h2 x0 x1 x2
              have hjm := hid_ ((rv_sm hmm.out).get j hlt2)
              have hjl : (j : Int) < (Y.length : Int) := by omega
              have hj0 : (0 : Int) ≤ (j : Int) := by omega
              have hJ := hid_ (fun W => l9Joins_any Y[j] fl[k] most W hjm.out hsm.out)
              cases q : joins most Y[j] fl[k]
              all_goals
                simp only [q] at hJ
                have Q0 := hid_ q; clear q
              · go_wp2
                (refine wp_region_later (by kernel_rfl) (by kernel_rfl) ?_
                 repeat (go_big_quiet_step ((go_at_call 42; exact later_below (hJ.out _))))
                 refine wpQuiet_nil ?_
                 rintro _ ⟨nq, rfl⟩
                 have hbq := nq.property)
                go_wp2
                go_roundw
                case rel =>
                  refine ⟨j + 1, Y, false, by omega, rfl, by go_num, rfl, own_below HOi.out hbq, hbi.trans (hbq.mono hbi.size), fun _ => ⟨rfl, fun i hi h => ?_⟩, fun h => by cases h⟩
                  by_cases e : i = j
                  · subst e; exact Q0.out
                  · exact HNO.out i hi (by omega)
                case measure => exact meas_ hlt2
              · go_wp2
                (refine wp_region_later (by kernel_rfl) (by kernel_rfl) ?_
                 repeat (go_big_quiet_step ((go_at_call 42; exact later_below (hJ.out _))))
                 refine wpQuiet_nil ?_
                 rintro _ ⟨nq, rfl⟩
                 have hbq := nq.property)
                have hs1 := hjm.out
                have hs2 := hsm.out
                have f1 := (hbq.frozen (p := ⟨g, j * 3 + 1, none⟩) hgl).trans F1.out
                have v1 := y1 nq
                have u1 := z1 nq
                have hnq := hbq.size
                clear y0 y1 y2 z0 z1 z2
                have HOq := hid_ (own_below HOi.out hbq)
                go_wp2
                go_still_tail 15, (by kernel_rfl)
                go_wp2
                go_roundw
                case rel =>
                  have hI := mIns_at most fl[k] Y j hlt2 (fun i hi h => HNO.out i hi h) Q0.out
                  refine ⟨j + 1, mIns most Y fl[k], true, by omega, by rw [hI]; simp, by go_num, rfl, ?_, (hbi.trans (hbq.mono hbi.size)).drew.setCell (by omega) _, (fun h => by cases h), fun _ => rfl⟩
                  rw [hI, ← rqC_set Y j _ hlt2]
                  exact (HOq.out.stored (j * 3 + 1) (.int .i64 (Y[j].count + fl[k].count))).1.drew
                case measure => exact meas_ hlt2
            · have hj2 : j = Y.length := by omega
              have hI := hid_ (mIns_no most fl[k] Y (fun i hi => HNO.out i hi (by omega)))
              obtain ⟨b, o, rfl, h0, h1, h2⟩ := (HR.out.below hbi).rq k hlt HN.out
              go_wp2_with (at_builtin; refine wpList_push _ rfl _ _ 25 rfl w.heap.size 33 (.agg #[.int .i64 0, .int .i64 0, .bool false]) 3 24 Try.underlying25 rq_info rfl (by decide) (by decide) _ _ rfl rfl _ _ _ HOi.out rfl _ rfl (by simp) (by omega) hbi.size ?_; intro v' w' ho' hg')
              go_roundw
              case rel => exact ⟨k + 1, by omega, by go_num, own_eq ho' (by rw [hT.out, hI.out]; simp) (by rw [hT.out, hI.out, rqC_append]; rfl), below_push hbi HOi.out hg' hbi.size⟩
              case measure => exact meas_ hlt
          · have hY := hid_ (hTT rfl)
            have hyl2 := hid_ hyl
            clear hF hTT hyl
            by_cases hlt2 : j < X.length
            all_goals
              go_wp2
              go_roundw
              case rel => exact ⟨k + 1, by omega, by go_num, own_eq HOi.out (by rw [hT.out, ← hY.out, hyl2.out]) (by rw [hT.out, ← hY.out]), hbi⟩
              case measure => exact meas_ hlt
      · go_wp2
        go_returns
        have hk' : fl.take k = fl := List.take_of_length_le (by rw [HN.out]; omega)
        exact RSl.of_own' HO.out hb (by rw [hR0.out, hk']) (by rw [hR0.out, hk'])
  all_goals
    have hR0 := hid_ h0; clear h0
    go_enter Try.func27, Try.ntmps27
    go_wp2_with (first | (go_at_call 13; refine (specRV_any fl A n c _ HN.out (by omega) (HR.out.alloc _)).mono ?_; rintro e w1 ⟨rfl, rfl⟩) | (go_at_call 33; refine (l1In_any _ _ _ _).mono ?_; rintro e w2 ⟨rfl, rfl⟩))
    go_returns
    exact RSl.of_own' (own_empty w 33 3) ((Below.refl _ _).alloc (Nat.le_refl _) _) (by rw [hR0.out]; rfl) (by rw [hR0.out]; rfl)
end Go.Proofs.Ytmcpkoogcglomaa
