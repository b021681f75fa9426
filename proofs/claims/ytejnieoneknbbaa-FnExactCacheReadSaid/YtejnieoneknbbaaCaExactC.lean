/-
  Caches: the exact law of CacheRead.
-/
import Derived.Test.YtejnieoneknbbaaCaExactB
import Derived.Test.YtejnieoneknbbaaCaM
namespace Go.Proofs.Ytejnieoneknbbaa
open Go.ChangeShapes Go.WideShapes Go.ChangeAt Go.RowKit Go.BigFrame Go.Deep

theorem readC_small (c : Ca) (a : Int) : (readC c a).L.length ≤ 64 ∧ (readC c a).D.length ≤ 64 := by
  cases h : caAt c a
  · rw [readC_no h]; simp [Ca.zero]
  · exact cok_small (read_law h).2.2.2.1

set_option maxRecDepth 100000 in
set_option maxHeartbeats 4000000 in
theorem exactRead_walk (ca : List Ln) (Aca : Option Addr) (nca cca : Nat) (mca : Int) (d : List Int) (Ad : Option Addr) (nd cd : Nat) (a : Int) (w : World) (hnca : ca.length = nca) (hcca : nca ≤ cca) (hcmca : cca ≤ maxLen) (qca : ∀ f ∈ ca, I64 f.at_ ∧ I64 f.value) (hRca : Rd w 3 Aca nca (lnC ca)) (qmca : I64 mca) (hnd : d.length = nd) (hcd : nd ≤ cd) (hcmd : cd ≤ maxLen) (qd : ∀ f ∈ d, I64 f) (hRd : Rd w 1 Ad nd (intC d)) (qa : I64 a) :
    Calls Try.prog 14 #[.agg #[.slice Aca nca cca, .int .i64 mca], .slice Ad nd cd, .int .i64 a] w fun e w' => e = .returned (.bool true) ∧ Below w.heap.size w w' := by
  clear qca
  clear qd
  clear qa
  clear qmca
  have HMca := hid_ (Nat.le_trans hcca hcmca)
  have hmca : nca ≤ 9223372036854775807 := by have := HMca.out; unfold maxLen at this; omega
  clear hcca hcmca
  have HRca := hid_ hRca; clear hRca
  have HNca := hid_ hnca; clear hnca
  have HMd := hid_ (Nat.le_trans hcd hcmd)
  have hmd : nd ≤ 9223372036854775807 := by have := HMd.out; unfold maxLen at this; omega
  clear hcd hcmd
  have HRd := hid_ hRd; clear hRd
  have HNd := hid_ hnd; clear hnd
  by_cases hbigd : (1048576 : Int) < (nd : Int)
  · go_enter Try.func14, Try.ntmps14
    go_wp2
    go_returns
    exact ⟨rfl, (Below.refl _ _).alloc (Nat.le_refl _) _⟩
  have hnsd : nd ≤ 1048576 := by omega
  by_cases hbigca : (1048576 : Int) < (nca : Int)
  · go_enter Try.func14, Try.ntmps14
    go_wp2_with (go_at_call 15; refine (szCa_any Aca nca cca mca 1048576 _ HMca.out (by omega) (by omega)).mono ?_; rw [if_pos hbigca]; rintro e w1 ⟨rfl, hb1⟩)
    go_returns
    exact ⟨rfl, ((Below.refl _ _).alloc (Nat.le_refl _) _).trans (hb1.mono (by simp))⟩
  have hnsca : nca ≤ 1048576 := by omega
  have hl1 : ((readC ⟨ca, mca, d⟩ a).L).length ≤ 64 := (readC_small _ _).1
  have HLm1 := hid_ (show ((readC ⟨ca, mca, d⟩ a).L).length ≤ maxLen by unfold maxLen; omega)
  have hl2 : ((readC ⟨ca, mca, d⟩ a).D).length ≤ 64 := (readC_small _ _).2
  have HLm2 := hid_ (show ((readC ⟨ca, mca, d⟩ a).D).length ≤ maxLen by unfold maxLen; omega)
  obtain ⟨w1, hw1⟩ : ∃ x, w.alloc (.cells #[.slice Aca nca cca, .int .i64 mca] 24) = x := ⟨_, rfl⟩
  have hb1 : Below w.heap.size w w1 := by rw [← hw1]; exact (Below.refl _ _).alloc (Nat.le_refl _) _
  have hz1 : w.heap.size < w1.heap.size := by rw [← hw1]; simp
  have bx_a0 : w1.cell? ⟨w.heap.size, 0, none⟩ = some (.slice Aca nca cca) := by rw [← hw1]; simp [go_sem]
  have bx_a1 : w1.cell? ⟨w.heap.size, 1, none⟩ = some (.int .i64 mca) := by rw [← hw1]; simp [go_sem]
  have hs1 := hb1.size
  have hbb1 := (Below.refl w.heap.size w).trans (hb1.mono (Below.refl w.heap.size w).size)
  clear hb1
  go_enter Try.func14, Try.ntmps14
  go_wp2_with fail
  clear hw1
  refine (szCa_any Aca nca cca mca 1048576 _ HMca.out (by omega) (by omega)).mono ?_
  rw [if_neg (show ¬ (1048576 : Int) < (nca : Int) by omega)]
  rintro e w2 ⟨rfl, hb2⟩
  have hs2 := hb2.size
  have hbb2 := hbb1.trans (hb2.mono hbb1.size)
  replace bx_a0 := (hb2.cell (cell_lt bx_a0)).trans bx_a0
  replace bx_a1 := (hb2.cell (cell_lt bx_a1)).trans bx_a1
  clear hb2
  go_wp2_with fail
  refine (toCache_any ca Aca nca cca mca w2 HNca.out hnsca (HRca.out.below hbb2)).mono ?_
  rintro e w3 ⟨A_sca, c_sca, rfl, hc_sca, hcm_sca, ho_sca, hb3⟩
  have HC_sca := hid_ hc_sca; clear hc_sca
  have HCM_sca := hid_ hcm_sca; clear hcm_sca
  have hs3 := hb3.size
  have hbb3 := hbb2.trans (hb3.mono hbb2.size)
  replace bx_a0 := (hb3.cell (cell_lt bx_a0)).trans bx_a0
  replace bx_a1 := (hb3.cell (cell_lt bx_a1)).trans bx_a1
  clear hb3
  have HO_sca := hid_ ho_sca; clear ho_sca
  have HLT_sca := hid_ (fun g e => (HO_sca.out.lt g e).2)
  go_wp2_with fail
  refine (toIntS_any d Ad nd cd w3 HNd.out hnsd (HRd.out.below hbb3)).mono ?_
  rintro e w4 ⟨A_sd, c_sd, rfl, hc_sd, hcm_sd, ho_sd, hb4⟩
  have HC_sd := hid_ hc_sd; clear hc_sd
  have HCM_sd := hid_ hcm_sd; clear hcm_sd
  have hs4 := hb4.size
  have hbb4 := hbb3.trans (hb4.mono hbb3.size)
  replace bx_a0 := (hb4.cell (cell_lt bx_a0)).trans bx_a0
  replace bx_a1 := (hb4.cell (cell_lt bx_a1)).trans bx_a1
  have HO_sca_4 := hid_ (own_below HO_sca.out hb4)
  clear HO_sca
  clear hb4
  have HO_sd := hid_ ho_sd; clear ho_sd
  have HLT_sd := hid_ (fun g e => (HO_sd.out.lt g e).2)
  go_wp2_with fail
  refine (specRead_any ca A_sca nca c_sca mca d A_sd nd c_sd a w4 HNca.out (by omega) (own_rd HO_sca_4.out) HNd.out (by omega) (own_rd HO_sd.out)).mono ?_
  rintro e w5 ⟨A_w1, c_w1, A_w2, c_w2, rfl, hc_w1, hcm_w1, hc_w2, hcm_w2, ho_w1, ho_w2, hb5⟩
  clear hc_w1 hcm_w1
  clear hc_w2 hcm_w2
  have hs5 := hb5.size
  have hbb5 := hbb4.trans (hb5.mono hbb4.size)
  replace bx_a0 := (hb5.cell (cell_lt bx_a0)).trans bx_a0
  replace bx_a1 := (hb5.cell (cell_lt bx_a1)).trans bx_a1
  have HO_sca_5 := hid_ (own_below HO_sca_4.out hb5)
  clear HO_sca_4
  have HO_sd_5 := hid_ (own_below HO_sd.out hb5)
  clear HO_sd
  clear hb5
  have HO_w1 := hid_ ho_w1; clear ho_w1
  have HLT_w1 := hid_ (fun g e => (HO_w1.out.lt g e).2)
  have HO_w2 := hid_ ho_w2; clear ho_w2
  have HLT_w2 := hid_ (fun g e => (HO_w2.out.lt g e).2)
  obtain ⟨w6, hw6⟩ : ∃ x, w5.alloc (.cells #[.slice A_w1 ((readC ⟨ca, mca, d⟩ a).L).length c_w1, .int .i64 (readC ⟨ca, mca, d⟩ a).M] 29) = x := ⟨_, rfl⟩
  have hb6 : Below w5.heap.size w5 w6 := by rw [← hw6]; exact (Below.refl _ _).alloc (Nat.le_refl _) _
  have hz6 : w5.heap.size < w6.heap.size := by rw [← hw6]; simp
  have bx_w10 : w6.cell? ⟨w5.heap.size, 0, none⟩ = some (.slice A_w1 ((readC ⟨ca, mca, d⟩ a).L).length c_w1) := by rw [← hw6]; simp [go_sem]
  have bx_w11 : w6.cell? ⟨w5.heap.size, 1, none⟩ = some (.int .i64 (readC ⟨ca, mca, d⟩ a).M) := by rw [← hw6]; simp [go_sem]
  have hs6 := hb6.size
  have hbb6 := hbb5.trans (hb6.mono hbb5.size)
  replace bx_a0 := (hb6.cell (cell_lt bx_a0)).trans bx_a0
  replace bx_a1 := (hb6.cell (cell_lt bx_a1)).trans bx_a1
  have HO_sca_6 := hid_ (own_below HO_sca_5.out hb6)
  clear HO_sca_5
  have HO_sd_6 := hid_ (own_below HO_sd_5.out hb6)
  clear HO_sd_5
  have HO_w1_6 := hid_ (own_below HO_w1.out hb6)
  clear HO_w1
  have HO_w2_6 := hid_ (own_below HO_w2.out hb6)
  clear HO_w2
  clear hb6
  clear HO_sca_6 HLT_sca
  clear HO_sd_6 HLT_sd
  go_wp2_with fail
  clear hw6
  refine (toCache_any ca Aca nca cca mca w6 HNca.out hnsca (HRca.out.below hbb6)).mono ?_
  rintro e w7 ⟨A_xca, c_xca, rfl, hc_xca, hcm_xca, ho_xca, hb7⟩
  have HC_xca := hid_ hc_xca; clear hc_xca
  have HCM_xca := hid_ hcm_xca; clear hcm_xca
  have hs7 := hb7.size
  have hbb7 := hbb6.trans (hb7.mono hbb6.size)
  replace bx_a0 := (hb7.cell (cell_lt bx_a0)).trans bx_a0
  replace bx_a1 := (hb7.cell (cell_lt bx_a1)).trans bx_a1
  replace bx_w10 := (hb7.cell (cell_lt bx_w10)).trans bx_w10
  replace bx_w11 := (hb7.cell (cell_lt bx_w11)).trans bx_w11
  have HO_w1_7 := hid_ (own_below HO_w1_6.out hb7)
  clear HO_w1_6
  have HO_w2_7 := hid_ (own_below HO_w2_6.out hb7)
  clear HO_w2_6
  clear hb7
  have HO_xca := hid_ ho_xca; clear ho_xca
  have HLT_xca := hid_ (fun g e => (HO_xca.out.lt g e).2)
  obtain ⟨w8, hw8⟩ : ∃ x, w7.alloc (.cells #[.slice A_xca nca c_xca, .int .i64 mca] 29) = x := ⟨_, rfl⟩
  have hb8 : Below w7.heap.size w7 w8 := by rw [← hw8]; exact (Below.refl _ _).alloc (Nat.le_refl _) _
  have hz8 : w7.heap.size < w8.heap.size := by rw [← hw8]; simp
  have bx_xca0 : w8.cell? ⟨w7.heap.size, 0, none⟩ = some (.slice A_xca nca c_xca) := by rw [← hw8]; simp [go_sem]
  have bx_xca1 : w8.cell? ⟨w7.heap.size, 1, none⟩ = some (.int .i64 mca) := by rw [← hw8]; simp [go_sem]
  have hs8 := hb8.size
  have hbb8 := hbb7.trans (hb8.mono hbb7.size)
  replace bx_a0 := (hb8.cell (cell_lt bx_a0)).trans bx_a0
  replace bx_a1 := (hb8.cell (cell_lt bx_a1)).trans bx_a1
  replace bx_w10 := (hb8.cell (cell_lt bx_w10)).trans bx_w10
  replace bx_w11 := (hb8.cell (cell_lt bx_w11)).trans bx_w11
  have HO_w1_8 := hid_ (own_below HO_w1_7.out hb8)
  clear HO_w1_7
  have HO_w2_8 := hid_ (own_below HO_w2_7.out hb8)
  clear HO_w2_7
  have HO_xca_8 := hid_ (own_below HO_xca.out hb8)
  clear HO_xca
  clear hb8
  go_wp2_with fail
  clear hw8
  refine (toIntS_any d Ad nd cd w8 HNd.out hnsd (HRd.out.below hbb8)).mono ?_
  rintro e w9 ⟨A_xd, c_xd, rfl, hc_xd, hcm_xd, ho_xd, hb9⟩
  have HC_xd := hid_ hc_xd; clear hc_xd
  have HCM_xd := hid_ hcm_xd; clear hcm_xd
  have hs9 := hb9.size
  have hbb9 := hbb8.trans (hb9.mono hbb8.size)
  replace bx_a0 := (hb9.cell (cell_lt bx_a0)).trans bx_a0
  replace bx_a1 := (hb9.cell (cell_lt bx_a1)).trans bx_a1
  replace bx_w10 := (hb9.cell (cell_lt bx_w10)).trans bx_w10
  replace bx_w11 := (hb9.cell (cell_lt bx_w11)).trans bx_w11
  replace bx_xca0 := (hb9.cell (cell_lt bx_xca0)).trans bx_xca0
  replace bx_xca1 := (hb9.cell (cell_lt bx_xca1)).trans bx_xca1
  have HO_w1_9 := hid_ (own_below HO_w1_8.out hb9)
  clear HO_w1_8
  have HO_w2_9 := hid_ (own_below HO_w2_8.out hb9)
  clear HO_w2_8
  have HO_xca_9 := hid_ (own_below HO_xca_8.out hb9)
  clear HO_xca_8
  clear hb9
  have HO_xd := hid_ ho_xd; clear ho_xd
  have HLT_xd := hid_ (fun g e => (HO_xd.out.lt g e).2)
  go_wp2_with fail
  refine (implRead_any ca A_xca nca c_xca mca d A_xd nd c_xd a w9 HNca.out (by omega) HC_xca.out HCM_xca.out (own_rd HO_xca_9.out) HNd.out (by omega) HC_xd.out HCM_xd.out (own_rd HO_xd.out)).mono ?_
  rintro e w10 ⟨A_g1, c_g1, A_g2, c_g2, rfl, hc_g1, hcm_g1, hc_g2, hcm_g2, ho_g1, ho_g2, hb10⟩
  clear hc_g1 hcm_g1
  clear hc_g2 hcm_g2
  have hs10 := hb10.size
  have hbb10 := hbb9.trans (hb10.mono hbb9.size)
  replace bx_a0 := (hb10.cell (cell_lt bx_a0)).trans bx_a0
  replace bx_a1 := (hb10.cell (cell_lt bx_a1)).trans bx_a1
  replace bx_w10 := (hb10.cell (cell_lt bx_w10)).trans bx_w10
  replace bx_w11 := (hb10.cell (cell_lt bx_w11)).trans bx_w11
  replace bx_xca0 := (hb10.cell (cell_lt bx_xca0)).trans bx_xca0
  replace bx_xca1 := (hb10.cell (cell_lt bx_xca1)).trans bx_xca1
  have HO_w1_10 := hid_ (own_below HO_w1_9.out hb10)
  clear HO_w1_9
  have HO_w2_10 := hid_ (own_below HO_w2_9.out hb10)
  clear HO_w2_9
  have HO_xca_10 := hid_ (own_below HO_xca_9.out hb10)
  clear HO_xca_9
  have HO_xd_10 := hid_ (own_below HO_xd.out hb10)
  clear HO_xd
  clear hb10
  have HO_g1 := hid_ ho_g1; clear ho_g1
  have HLT_g1 := hid_ (fun g e => (HO_g1.out.lt g e).2)
  have HO_g2 := hid_ ho_g2; clear ho_g2
  have HLT_g2 := hid_ (fun g e => (HO_g2.out.lt g e).2)
  obtain ⟨w11, hw11⟩ : ∃ x, w10.alloc (.cells #[.slice A_g1 ((readC ⟨ca, mca, d⟩ a).L).length c_g1, .int .i64 (readC ⟨ca, mca, d⟩ a).M] 29) = x := ⟨_, rfl⟩
  have hb11 : Below w10.heap.size w10 w11 := by rw [← hw11]; exact (Below.refl _ _).alloc (Nat.le_refl _) _
  have hz11 : w10.heap.size < w11.heap.size := by rw [← hw11]; simp
  have bx_g10 : w11.cell? ⟨w10.heap.size, 0, none⟩ = some (.slice A_g1 ((readC ⟨ca, mca, d⟩ a).L).length c_g1) := by rw [← hw11]; simp [go_sem]
  have bx_g11 : w11.cell? ⟨w10.heap.size, 1, none⟩ = some (.int .i64 (readC ⟨ca, mca, d⟩ a).M) := by rw [← hw11]; simp [go_sem]
  have hs11 := hb11.size
  have hbb11 := hbb10.trans (hb11.mono hbb10.size)
  replace bx_a0 := (hb11.cell (cell_lt bx_a0)).trans bx_a0
  replace bx_a1 := (hb11.cell (cell_lt bx_a1)).trans bx_a1
  replace bx_w10 := (hb11.cell (cell_lt bx_w10)).trans bx_w10
  replace bx_w11 := (hb11.cell (cell_lt bx_w11)).trans bx_w11
  replace bx_xca0 := (hb11.cell (cell_lt bx_xca0)).trans bx_xca0
  replace bx_xca1 := (hb11.cell (cell_lt bx_xca1)).trans bx_xca1
  have HO_w1_11 := hid_ (own_below HO_w1_10.out hb11)
  clear HO_w1_10
  have HO_w2_11 := hid_ (own_below HO_w2_10.out hb11)
  clear HO_w2_10
  have HO_xca_11 := hid_ (own_below HO_xca_10.out hb11)
  clear HO_xca_10
  have HO_xd_11 := hid_ (own_below HO_xd_10.out hb11)
  clear HO_xd_10
  have HO_g1_11 := hid_ (own_below HO_g1.out hb11)
  clear HO_g1
  have HO_g2_11 := hid_ (own_below HO_g2.out hb11)
  clear HO_g2
  clear hb11
  go_wp2_with fail
  clear hw11
  refine (eqCache_any ((readC ⟨ca, mca, d⟩ a).L) ((readC ⟨ca, mca, d⟩ a).L) A_g1 A_w1 ((readC ⟨ca, mca, d⟩ a).L).length ((readC ⟨ca, mca, d⟩ a).L).length c_g1 c_w1 (readC ⟨ca, mca, d⟩ a).M (readC ⟨ca, mca, d⟩ a).M w11 rfl rfl HLm1.out HLm1.out (own_rd HO_g1_11.out) (own_rd HO_w1_11.out)).mono ?_
  rintro e w12 ⟨rfl, hb12⟩
  have hs12 := hb12.size
  have hbb12 := hbb11.trans (hb12.mono hbb11.size)
  replace bx_a0 := (hb12.cell (cell_lt bx_a0)).trans bx_a0
  replace bx_a1 := (hb12.cell (cell_lt bx_a1)).trans bx_a1
  replace bx_w10 := (hb12.cell (cell_lt bx_w10)).trans bx_w10
  replace bx_w11 := (hb12.cell (cell_lt bx_w11)).trans bx_w11
  replace bx_xca0 := (hb12.cell (cell_lt bx_xca0)).trans bx_xca0
  replace bx_xca1 := (hb12.cell (cell_lt bx_xca1)).trans bx_xca1
  replace bx_g10 := (hb12.cell (cell_lt bx_g10)).trans bx_g10
  replace bx_g11 := (hb12.cell (cell_lt bx_g11)).trans bx_g11
  have HO_w1_12 := hid_ (own_below HO_w1_11.out hb12)
  clear HO_w1_11
  have HO_w2_12 := hid_ (own_below HO_w2_11.out hb12)
  clear HO_w2_11
  have HO_xca_12 := hid_ (own_below HO_xca_11.out hb12)
  clear HO_xca_11
  have HO_xd_12 := hid_ (own_below HO_xd_11.out hb12)
  clear HO_xd_11
  have HO_g1_12 := hid_ (own_below HO_g1_11.out hb12)
  clear HO_g1_11
  have HO_g2_12 := hid_ (own_below HO_g2_11.out hb12)
  clear HO_g2_11
  clear hb12
  go_wp2_with fail
  refine (eqIntS_any ((readC ⟨ca, mca, d⟩ a).D) ((readC ⟨ca, mca, d⟩ a).D) A_g2 A_w2 ((readC ⟨ca, mca, d⟩ a).D).length ((readC ⟨ca, mca, d⟩ a).D).length c_g2 c_w2 w12 rfl rfl HLm2.out HLm2.out (own_rd HO_g2_12.out) (own_rd HO_w2_12.out)).mono ?_
  rintro e w13 ⟨rfl, hb13⟩
  have hs13 := hb13.size
  have hbb13 := hbb12.trans (hb13.mono hbb12.size)
  replace bx_a0 := (hb13.cell (cell_lt bx_a0)).trans bx_a0
  replace bx_a1 := (hb13.cell (cell_lt bx_a1)).trans bx_a1
  replace bx_w10 := (hb13.cell (cell_lt bx_w10)).trans bx_w10
  replace bx_w11 := (hb13.cell (cell_lt bx_w11)).trans bx_w11
  replace bx_xca0 := (hb13.cell (cell_lt bx_xca0)).trans bx_xca0
  replace bx_xca1 := (hb13.cell (cell_lt bx_xca1)).trans bx_xca1
  replace bx_g10 := (hb13.cell (cell_lt bx_g10)).trans bx_g10
  replace bx_g11 := (hb13.cell (cell_lt bx_g11)).trans bx_g11
  have HO_w1_13 := hid_ (own_below HO_w1_12.out hb13)
  clear HO_w1_12
  have HO_w2_13 := hid_ (own_below HO_w2_12.out hb13)
  clear HO_w2_12
  have HO_xca_13 := hid_ (own_below HO_xca_12.out hb13)
  clear HO_xca_12
  have HO_xd_13 := hid_ (own_below HO_xd_12.out hb13)
  clear HO_xd_12
  have HO_g1_13 := hid_ (own_below HO_g1_12.out hb13)
  clear HO_g1_12
  have HO_g2_13 := hid_ (own_below HO_g2_12.out hb13)
  clear HO_g2_12
  clear hb13
  go_wp2_with fail
  refine wp_region_semT (semW (fun j => if j = 11 then .val (.pointer (some ⟨w7.heap.size, 0, none⟩)) else if j = 3 then .val (.pointer (some ⟨w.heap.size, 0, none⟩)) else if j = 67 then .val (.agg #[.slice A_xca nca c_xca, .int .i64 mca]) else if j = 68 then .val (.agg #[.slice Aca nca cca, .int .i64 mca]) else .str 3 nca (lnC ca) mca)) [3, 11] 159 3 (by kernel_rfl) (by kernel_rfl) rfl ?_ trivial ?_ ?_
  · intro j hj
    have hj' : j = 3 ∨ j = 11 := by simpa using hj
    rcases hj' with rfl | rfl <;> rfl
  · simp only [List.take_succ_cons, List.take_zero, HAll]
    refine ⟨hopw_val _ rfl rfl rfl rfl (fun a w0 h hb => run_ldc a.eval _ _ _ _ _ w0 _ (h 11 (by kernel_rfl)) ((hb.cell (cell_lt (show (w13.drew).cell? _ = _ from bx_xca0))).trans bx_xca0) ((hb.cell (cell_lt (show (w13.drew).cell? _ = _ from bx_xca1))).trans bx_xca1)),
      hopw_val _ rfl rfl rfl rfl (fun a w0 h hb => run_ldca a.eval _ _ _ _ _ w0 _ (h 3 (by kernel_rfl)) ((hb.cell (cell_lt (show (w13.drew).cell? _ = _ from bx_a0))).trans bx_a0) ((hb.cell (cell_lt (show (w13.drew).cell? _ = _ from bx_a1))).trans bx_a1)),
      hopw_call rfl rfl rfl (fun a w0 h hb => ⟨_, _, run_toc a.eval _ _ _ _ _ w0 _ _ rfl (h 68 (by kernel_rfl)), (toCache_any ca Aca nca cca mca w0 HNca.out hnsca ((HRca.out.below hbb13).below (show Below w13.heap.size w13 w0 from ((Below.refl _ _).drew).trans hb))).mono fun e w3 hh => by obtain ⟨A9, c9, h1, h2, h3, h4, h5⟩ := hh; exact ⟨_, h1, ⟨A9, c9, rfl, h2, h3, own_rd h4⟩, h5⟩⟩), trivial⟩
  · intro a' w14 haf
    have hex := haf.ex rfl [67, 68, 69] (by kernel_rfl)
    have hb14 : Below w13.heap.size w13 w14 := ((Below.refl _ _).drew).trans (show Below w13.drew.heap.size w13.drew w14 from haf.r)
    clear haf
    simp only [SemEx, Act.put, List.setIfInBounds_toArray, List.set_cons_succ, List.set_cons_zero] at hex
    obtain ⟨x0_, t0_, x1_, -, x2_, t2_, rfl⟩ := hex
    obtain rfl : x0_ = .agg #[.slice A_xca nca c_xca, .int .i64 mca] := t0_
    obtain ⟨A_e14, c_e14, rfl, -, hcme14, hre14⟩ : ∃ A c, x2_ = .agg #[.slice A nca c, .int .i64 mca] ∧ nca ≤ c ∧ c ≤ maxLen ∧ Rd w14 3 A nca (lnC ca) := t2_
    simp only [List.drop_succ_cons, List.drop_zero]
    have HRE14 := hid_ hre14; clear hre14 hcme14
    have hs14 := hb14.size
    have hbb14 := hbb13.trans (hb14.mono hbb13.size)
    replace bx_a0 := (hb14.cell (cell_lt bx_a0)).trans bx_a0
    replace bx_a1 := (hb14.cell (cell_lt bx_a1)).trans bx_a1
    replace bx_w10 := (hb14.cell (cell_lt bx_w10)).trans bx_w10
    replace bx_w11 := (hb14.cell (cell_lt bx_w11)).trans bx_w11
    replace bx_xca0 := (hb14.cell (cell_lt bx_xca0)).trans bx_xca0
    replace bx_xca1 := (hb14.cell (cell_lt bx_xca1)).trans bx_xca1
    replace bx_g10 := (hb14.cell (cell_lt bx_g10)).trans bx_g10
    replace bx_g11 := (hb14.cell (cell_lt bx_g11)).trans bx_g11
    have HO_w1_14 := hid_ (own_below HO_w1_13.out hb14)
    clear HO_w1_13
    have HO_w2_14 := hid_ (own_below HO_w2_13.out hb14)
    clear HO_w2_13
    have HO_xca_14 := hid_ (own_below HO_xca_13.out hb14)
    clear HO_xca_13
    have HO_xd_14 := hid_ (own_below HO_xd_13.out hb14)
    clear HO_xd_13
    have HO_g1_14 := hid_ (own_below HO_g1_13.out hb14)
    clear HO_g1_13
    have HO_g2_14 := hid_ (own_below HO_g2_13.out hb14)
    clear HO_g2_13
    clear hb14
    go_wp2_with fail
    refine (eqCache_any ca ca A_xca A_e14 nca nca c_xca c_e14 mca mca w14 HNca.out HNca.out HMca.out HMca.out (own_rd HO_xca_14.out) HRE14.out).mono ?_
    rintro e w15 ⟨rfl, hb15⟩
    have hs15 := hb15.size
    have hbb15 := hbb14.trans (hb15.mono hbb14.size)
    replace bx_a0 := (hb15.cell (cell_lt bx_a0)).trans bx_a0
    replace bx_a1 := (hb15.cell (cell_lt bx_a1)).trans bx_a1
    replace bx_w10 := (hb15.cell (cell_lt bx_w10)).trans bx_w10
    replace bx_w11 := (hb15.cell (cell_lt bx_w11)).trans bx_w11
    replace bx_xca0 := (hb15.cell (cell_lt bx_xca0)).trans bx_xca0
    replace bx_xca1 := (hb15.cell (cell_lt bx_xca1)).trans bx_xca1
    replace bx_g10 := (hb15.cell (cell_lt bx_g10)).trans bx_g10
    replace bx_g11 := (hb15.cell (cell_lt bx_g11)).trans bx_g11
    have HO_w1_15 := hid_ (own_below HO_w1_14.out hb15)
    clear HO_w1_14
    have HO_w2_15 := hid_ (own_below HO_w2_14.out hb15)
    clear HO_w2_14
    have HO_xca_15 := hid_ (own_below HO_xca_14.out hb15)
    clear HO_xca_14
    have HO_xd_15 := hid_ (own_below HO_xd_14.out hb15)
    clear HO_xd_14
    have HO_g1_15 := hid_ (own_below HO_g1_14.out hb15)
    clear HO_g1_14
    have HO_g2_15 := hid_ (own_below HO_g2_14.out hb15)
    clear HO_g2_14
    clear hb15
    go_wp2_with fail
    refine (toIntS_any d Ad nd cd w15 HNd.out hnsd (HRd.out.below hbb15)).mono ?_
    rintro e w16 ⟨A_yd, c_yd, rfl, hc_yd, hcm_yd, ho_yd, hb16⟩
    have HC_yd := hid_ hc_yd; clear hc_yd
    have HCM_yd := hid_ hcm_yd; clear hcm_yd
    have hs16 := hb16.size
    have hbb16 := hbb15.trans (hb16.mono hbb15.size)
    replace bx_a0 := (hb16.cell (cell_lt bx_a0)).trans bx_a0
    replace bx_a1 := (hb16.cell (cell_lt bx_a1)).trans bx_a1
    replace bx_w10 := (hb16.cell (cell_lt bx_w10)).trans bx_w10
    replace bx_w11 := (hb16.cell (cell_lt bx_w11)).trans bx_w11
    replace bx_xca0 := (hb16.cell (cell_lt bx_xca0)).trans bx_xca0
    replace bx_xca1 := (hb16.cell (cell_lt bx_xca1)).trans bx_xca1
    replace bx_g10 := (hb16.cell (cell_lt bx_g10)).trans bx_g10
    replace bx_g11 := (hb16.cell (cell_lt bx_g11)).trans bx_g11
    have HO_w1_16 := hid_ (own_below HO_w1_15.out hb16)
    clear HO_w1_15
    have HO_w2_16 := hid_ (own_below HO_w2_15.out hb16)
    clear HO_w2_15
    have HO_xca_16 := hid_ (own_below HO_xca_15.out hb16)
    clear HO_xca_15
    have HO_xd_16 := hid_ (own_below HO_xd_15.out hb16)
    clear HO_xd_15
    have HO_g1_16 := hid_ (own_below HO_g1_15.out hb16)
    clear HO_g1_15
    have HO_g2_16 := hid_ (own_below HO_g2_15.out hb16)
    clear HO_g2_15
    clear hb16
    have HO_yd := hid_ ho_yd; clear ho_yd
    have HLT_yd := hid_ (fun g e => (HO_yd.out.lt g e).2)
    go_wp2_with fail
    refine (eqIntS_any d d A_xd A_yd nd nd c_xd c_yd w16 HNd.out HNd.out HMd.out HMd.out (own_rd HO_xd_16.out) (own_rd HO_yd.out)).mono ?_
    rintro e w17 ⟨rfl, hb17⟩
    have hs17 := hb17.size
    have hbb17 := hbb16.trans (hb17.mono hbb16.size)
    replace bx_a0 := (hb17.cell (cell_lt bx_a0)).trans bx_a0
    replace bx_a1 := (hb17.cell (cell_lt bx_a1)).trans bx_a1
    replace bx_w10 := (hb17.cell (cell_lt bx_w10)).trans bx_w10
    replace bx_w11 := (hb17.cell (cell_lt bx_w11)).trans bx_w11
    replace bx_xca0 := (hb17.cell (cell_lt bx_xca0)).trans bx_xca0
    replace bx_xca1 := (hb17.cell (cell_lt bx_xca1)).trans bx_xca1
    replace bx_g10 := (hb17.cell (cell_lt bx_g10)).trans bx_g10
    replace bx_g11 := (hb17.cell (cell_lt bx_g11)).trans bx_g11
    have HO_w1_17 := hid_ (own_below HO_w1_16.out hb17)
    clear HO_w1_16
    have HO_w2_17 := hid_ (own_below HO_w2_16.out hb17)
    clear HO_w2_16
    have HO_xca_17 := hid_ (own_below HO_xca_16.out hb17)
    clear HO_xca_16
    have HO_xd_17 := hid_ (own_below HO_xd_16.out hb17)
    clear HO_xd_16
    have HO_g1_17 := hid_ (own_below HO_g1_16.out hb17)
    clear HO_g1_16
    have HO_g2_17 := hid_ (own_below HO_g2_16.out hb17)
    clear HO_g2_16
    have HO_yd_17 := hid_ (own_below HO_yd.out hb17)
    clear HO_yd
    clear hb17
    clear HO_yd_17 HLT_yd
    go_wp2_with fail
    refine (markCache_any A_xca nca c_xca _ mca 1 _ w17 (by omega) (by omega) (by omega) HO_xca_17.out).mono ?_
    rintro e w18 ⟨rfl, ho_m18, hg18⟩
    have hs18 := hg18.size
    replace bx_a0 := hg18.cell bx_a0 (fun e => by have h1 := (HO_xca_17.out.lt _ e.symm).1; have h2 := HLT_xca.out _ e.symm; simp only at h1 h2; omega)
    replace bx_a1 := hg18.cell bx_a1 (fun e => by have h1 := (HO_xca_17.out.lt _ e.symm).1; have h2 := HLT_xca.out _ e.symm; simp only at h1 h2; omega)
    replace bx_w10 := hg18.cell bx_w10 (fun e => by have h1 := (HO_xca_17.out.lt _ e.symm).1; have h2 := HLT_xca.out _ e.symm; simp only at h1 h2; omega)
    replace bx_w11 := hg18.cell bx_w11 (fun e => by have h1 := (HO_xca_17.out.lt _ e.symm).1; have h2 := HLT_xca.out _ e.symm; simp only at h1 h2; omega)
    replace bx_xca0 := hg18.cell bx_xca0 (fun e => by have h1 := (HO_xca_17.out.lt _ e.symm).1; have h2 := HLT_xca.out _ e.symm; simp only at h1 h2; omega)
    replace bx_xca1 := hg18.cell bx_xca1 (fun e => by have h1 := (HO_xca_17.out.lt _ e.symm).1; have h2 := HLT_xca.out _ e.symm; simp only at h1 h2; omega)
    replace bx_g10 := hg18.cell bx_g10 (fun e => by have h1 := (HO_xca_17.out.lt _ e.symm).1; have h2 := HLT_xca.out _ e.symm; simp only at h1 h2; omega)
    replace bx_g11 := hg18.cell bx_g11 (fun e => by have h1 := (HO_xca_17.out.lt _ e.symm).1; have h2 := HLT_xca.out _ e.symm; simp only at h1 h2; omega)
    have HG18 := hid_ hg18; clear hg18
    have hbb18 := hbb17.grown HG18.out hbb17.size (fun g e => by have := (HO_xca_17.out.lt g e).1; omega)
    have HO_w1_18 := hid_ (own_mark_older HO_w1_17.out HLT_w1.out HO_xca_17.out (by omega) HG18.out)
    have HO_w2_18 := hid_ (own_other HO_w2_17.out HO_xca_17.out (by decide) HG18.out)
    have HO_xd_18 := hid_ (own_other HO_xd_17.out HO_xca_17.out (by decide) HG18.out)
    have HO_g1_18 := hid_ (own_mark_newer HO_g1_17.out HLT_xca.out (by omega) HG18.out)
    have HO_g2_18 := hid_ (own_other HO_g2_17.out HO_xca_17.out (by decide) HG18.out)
    clear HO_w1_17
    clear HO_w2_17
    clear HO_xca_17
    clear HO_xd_17
    clear HO_g1_17
    clear HO_g2_17
    have HO_xca_18 := hid_ ho_m18; clear ho_m18
    go_wp2_with fail
    refine (markIntS_any A_xd nd c_xd _ (1 + (nca : Nat) * 3) _ w18 (by omega) (by omega) (by omega) HO_xd_18.out).mono ?_
    rintro e w19 ⟨rfl, ho_m19, hg19⟩
    have hs19 := hg19.size
    replace bx_a0 := hg19.cell bx_a0 (fun e => by have h1 := (HO_xd_18.out.lt _ e.symm).1; have h2 := HLT_xd.out _ e.symm; simp only at h1 h2; omega)
    replace bx_a1 := hg19.cell bx_a1 (fun e => by have h1 := (HO_xd_18.out.lt _ e.symm).1; have h2 := HLT_xd.out _ e.symm; simp only at h1 h2; omega)
    replace bx_w10 := hg19.cell bx_w10 (fun e => by have h1 := (HO_xd_18.out.lt _ e.symm).1; have h2 := HLT_xd.out _ e.symm; simp only at h1 h2; omega)
    replace bx_w11 := hg19.cell bx_w11 (fun e => by have h1 := (HO_xd_18.out.lt _ e.symm).1; have h2 := HLT_xd.out _ e.symm; simp only at h1 h2; omega)
    replace bx_xca0 := hg19.cell bx_xca0 (fun e => by have h1 := (HO_xd_18.out.lt _ e.symm).1; have h2 := HLT_xd.out _ e.symm; simp only at h1 h2; omega)
    replace bx_xca1 := hg19.cell bx_xca1 (fun e => by have h1 := (HO_xd_18.out.lt _ e.symm).1; have h2 := HLT_xd.out _ e.symm; simp only at h1 h2; omega)
    replace bx_g10 := hg19.cell bx_g10 (fun e => by have h1 := (HO_xd_18.out.lt _ e.symm).1; have h2 := HLT_xd.out _ e.symm; simp only at h1 h2; omega)
    replace bx_g11 := hg19.cell bx_g11 (fun e => by have h1 := (HO_xd_18.out.lt _ e.symm).1; have h2 := HLT_xd.out _ e.symm; simp only at h1 h2; omega)
    have HG19 := hid_ hg19; clear hg19
    have hbb19 := hbb18.grown HG19.out hbb18.size (fun g e => by have := (HO_xd_18.out.lt g e).1; omega)
    have HO_w1_19 := hid_ (own_other HO_w1_18.out HO_xd_18.out (by decide) HG19.out)
    have HO_w2_19 := hid_ (own_mark_older HO_w2_18.out HLT_w2.out HO_xd_18.out (by omega) HG19.out)
    have HO_xca_19 := hid_ (own_other HO_xca_18.out HO_xd_18.out (by decide) HG19.out)
    have HO_g1_19 := hid_ (own_other HO_g1_18.out HO_xd_18.out (by decide) HG19.out)
    have HO_g2_19 := hid_ (own_mark_newer HO_g2_18.out HLT_xd.out (by omega) HG19.out)
    clear HO_w1_18
    clear HO_w2_18
    clear HO_xca_18
    clear HO_xd_18
    clear HO_g1_18
    clear HO_g2_18
    have HO_xd_19 := hid_ ho_m19; clear ho_m19
    go_wp2_with fail
    refine (eqCache_any ((readC ⟨ca, mca, d⟩ a).L) ((readC ⟨ca, mca, d⟩ a).L) A_g1 A_w1 ((readC ⟨ca, mca, d⟩ a).L).length ((readC ⟨ca, mca, d⟩ a).L).length c_g1 c_w1 (readC ⟨ca, mca, d⟩ a).M (readC ⟨ca, mca, d⟩ a).M w19 rfl rfl HLm1.out HLm1.out (own_rd HO_g1_19.out) (own_rd HO_w1_19.out)).mono ?_
    rintro e w20 ⟨rfl, hb20⟩
    have hs20 := hb20.size
    have hbb20 := hbb19.trans (hb20.mono hbb19.size)
    replace bx_a0 := (hb20.cell (cell_lt bx_a0)).trans bx_a0
    replace bx_a1 := (hb20.cell (cell_lt bx_a1)).trans bx_a1
    replace bx_w10 := (hb20.cell (cell_lt bx_w10)).trans bx_w10
    replace bx_w11 := (hb20.cell (cell_lt bx_w11)).trans bx_w11
    replace bx_xca0 := (hb20.cell (cell_lt bx_xca0)).trans bx_xca0
    replace bx_xca1 := (hb20.cell (cell_lt bx_xca1)).trans bx_xca1
    replace bx_g10 := (hb20.cell (cell_lt bx_g10)).trans bx_g10
    replace bx_g11 := (hb20.cell (cell_lt bx_g11)).trans bx_g11
    have HO_w1_20 := hid_ (own_below HO_w1_19.out hb20)
    clear HO_w1_19
    have HO_w2_20 := hid_ (own_below HO_w2_19.out hb20)
    clear HO_w2_19
    have HO_xca_20 := hid_ (own_below HO_xca_19.out hb20)
    clear HO_xca_19
    have HO_xd_20 := hid_ (own_below HO_xd_19.out hb20)
    clear HO_xd_19
    have HO_g1_20 := hid_ (own_below HO_g1_19.out hb20)
    clear HO_g1_19
    have HO_g2_20 := hid_ (own_below HO_g2_19.out hb20)
    clear HO_g2_19
    clear hb20
    go_wp2_with fail
    refine (eqIntS_any ((readC ⟨ca, mca, d⟩ a).D) ((readC ⟨ca, mca, d⟩ a).D) A_g2 A_w2 ((readC ⟨ca, mca, d⟩ a).D).length ((readC ⟨ca, mca, d⟩ a).D).length c_g2 c_w2 w20 rfl rfl HLm2.out HLm2.out (own_rd HO_g2_20.out) (own_rd HO_w2_20.out)).mono ?_
    rintro e w21 ⟨rfl, hb21⟩
    have hs21 := hb21.size
    have hbb21 := hbb20.trans (hb21.mono hbb20.size)
    replace bx_a0 := (hb21.cell (cell_lt bx_a0)).trans bx_a0
    replace bx_a1 := (hb21.cell (cell_lt bx_a1)).trans bx_a1
    replace bx_w10 := (hb21.cell (cell_lt bx_w10)).trans bx_w10
    replace bx_w11 := (hb21.cell (cell_lt bx_w11)).trans bx_w11
    replace bx_xca0 := (hb21.cell (cell_lt bx_xca0)).trans bx_xca0
    replace bx_xca1 := (hb21.cell (cell_lt bx_xca1)).trans bx_xca1
    replace bx_g10 := (hb21.cell (cell_lt bx_g10)).trans bx_g10
    replace bx_g11 := (hb21.cell (cell_lt bx_g11)).trans bx_g11
    have HO_w1_21 := hid_ (own_below HO_w1_20.out hb21)
    clear HO_w1_20
    have HO_w2_21 := hid_ (own_below HO_w2_20.out hb21)
    clear HO_w2_20
    have HO_xca_21 := hid_ (own_below HO_xca_20.out hb21)
    clear HO_xca_20
    have HO_xd_21 := hid_ (own_below HO_xd_20.out hb21)
    clear HO_xd_20
    have HO_g1_21 := hid_ (own_below HO_g1_20.out hb21)
    clear HO_g1_20
    have HO_g2_21 := hid_ (own_below HO_g2_20.out hb21)
    clear HO_g2_20
    clear hb21
    clear HO_xca_21 HLT_xca
    clear bx_xca0 bx_xca1
    clear HO_xd_21 HLT_xd
    go_wp2_with fail
    refine (markCache_any A_g1 ((readC ⟨ca, mca, d⟩ a).L).length c_g1 _ (readC ⟨ca, mca, d⟩ a).M 1 _ w21 (by omega) (by omega) (by omega) HO_g1_21.out).mono ?_
    rintro e w22 ⟨rfl, ho_m22, hg22⟩
    have hs22 := hg22.size
    replace bx_a0 := hg22.cell bx_a0 (fun e => by have h1 := (HO_g1_21.out.lt _ e.symm).1; have h2 := HLT_g1.out _ e.symm; simp only at h1 h2; omega)
    replace bx_a1 := hg22.cell bx_a1 (fun e => by have h1 := (HO_g1_21.out.lt _ e.symm).1; have h2 := HLT_g1.out _ e.symm; simp only at h1 h2; omega)
    replace bx_w10 := hg22.cell bx_w10 (fun e => by have h1 := (HO_g1_21.out.lt _ e.symm).1; have h2 := HLT_g1.out _ e.symm; simp only at h1 h2; omega)
    replace bx_w11 := hg22.cell bx_w11 (fun e => by have h1 := (HO_g1_21.out.lt _ e.symm).1; have h2 := HLT_g1.out _ e.symm; simp only at h1 h2; omega)
    replace bx_g10 := hg22.cell bx_g10 (fun e => by have h1 := (HO_g1_21.out.lt _ e.symm).1; have h2 := HLT_g1.out _ e.symm; simp only at h1 h2; omega)
    replace bx_g11 := hg22.cell bx_g11 (fun e => by have h1 := (HO_g1_21.out.lt _ e.symm).1; have h2 := HLT_g1.out _ e.symm; simp only at h1 h2; omega)
    have HG22 := hid_ hg22; clear hg22
    have hbb22 := hbb21.grown HG22.out hbb21.size (fun g e => by have := (HO_g1_21.out.lt g e).1; omega)
    have HO_w1_22 := hid_ (own_mark_older HO_w1_21.out HLT_w1.out HO_g1_21.out (by omega) HG22.out)
    have HO_w2_22 := hid_ (own_other HO_w2_21.out HO_g1_21.out (by decide) HG22.out)
    have HO_g2_22 := hid_ (own_other HO_g2_21.out HO_g1_21.out (by decide) HG22.out)
    clear HO_w1_21
    clear HO_w2_21
    clear HO_g1_21
    clear HO_g2_21
    have HO_g1_22 := hid_ ho_m22; clear ho_m22
    go_wp2_with fail
    refine (markIntS_any A_g2 ((readC ⟨ca, mca, d⟩ a).D).length c_g2 _ (1 + (((readC ⟨ca, mca, d⟩ a).L).length : Nat) * 3) _ w22 (by omega) (by omega) (by omega) HO_g2_22.out).mono ?_
    rintro e w23 ⟨rfl, ho_m23, hg23⟩
    have hs23 := hg23.size
    replace bx_a0 := hg23.cell bx_a0 (fun e => by have h1 := (HO_g2_22.out.lt _ e.symm).1; have h2 := HLT_g2.out _ e.symm; simp only at h1 h2; omega)
    replace bx_a1 := hg23.cell bx_a1 (fun e => by have h1 := (HO_g2_22.out.lt _ e.symm).1; have h2 := HLT_g2.out _ e.symm; simp only at h1 h2; omega)
    replace bx_w10 := hg23.cell bx_w10 (fun e => by have h1 := (HO_g2_22.out.lt _ e.symm).1; have h2 := HLT_g2.out _ e.symm; simp only at h1 h2; omega)
    replace bx_w11 := hg23.cell bx_w11 (fun e => by have h1 := (HO_g2_22.out.lt _ e.symm).1; have h2 := HLT_g2.out _ e.symm; simp only at h1 h2; omega)
    replace bx_g10 := hg23.cell bx_g10 (fun e => by have h1 := (HO_g2_22.out.lt _ e.symm).1; have h2 := HLT_g2.out _ e.symm; simp only at h1 h2; omega)
    replace bx_g11 := hg23.cell bx_g11 (fun e => by have h1 := (HO_g2_22.out.lt _ e.symm).1; have h2 := HLT_g2.out _ e.symm; simp only at h1 h2; omega)
    have HG23 := hid_ hg23; clear hg23
    have hbb23 := hbb22.grown HG23.out hbb22.size (fun g e => by have := (HO_g2_22.out.lt g e).1; omega)
    have HO_w1_23 := hid_ (own_other HO_w1_22.out HO_g2_22.out (by decide) HG23.out)
    have HO_w2_23 := hid_ (own_mark_older HO_w2_22.out HLT_w2.out HO_g2_22.out (by omega) HG23.out)
    have HO_g1_23 := hid_ (own_other HO_g1_22.out HO_g2_22.out (by decide) HG23.out)
    clear HO_w1_22
    clear HO_w2_22
    clear HO_g1_22
    clear HO_g2_22
    have HO_g2_23 := hid_ ho_m23; clear ho_m23
    go_wp2_with fail
    refine (heldCache_any A_g1 ((readC ⟨ca, mca, d⟩ a).L).length c_g1 (readC ⟨ca, mca, d⟩ a).M 1 w23 (by omega) (by omega) (by omega) (own_rd HO_g1_23.out)).mono ?_
    rintro e w24 ⟨rfl, hb24⟩
    have hs24 := hb24.size
    have hbb24 := hbb23.trans (hb24.mono hbb23.size)
    replace bx_a0 := (hb24.cell (cell_lt bx_a0)).trans bx_a0
    replace bx_a1 := (hb24.cell (cell_lt bx_a1)).trans bx_a1
    replace bx_w10 := (hb24.cell (cell_lt bx_w10)).trans bx_w10
    replace bx_w11 := (hb24.cell (cell_lt bx_w11)).trans bx_w11
    replace bx_g10 := (hb24.cell (cell_lt bx_g10)).trans bx_g10
    replace bx_g11 := (hb24.cell (cell_lt bx_g11)).trans bx_g11
    have HO_w1_24 := hid_ (own_below HO_w1_23.out hb24)
    clear HO_w1_23
    have HO_w2_24 := hid_ (own_below HO_w2_23.out hb24)
    clear HO_w2_23
    have HO_g1_24 := hid_ (own_below HO_g1_23.out hb24)
    clear HO_g1_23
    have HO_g2_24 := hid_ (own_below HO_g2_23.out hb24)
    clear HO_g2_23
    clear hb24
    go_wp2_with fail
    refine (heldIntS_any A_g2 ((readC ⟨ca, mca, d⟩ a).D).length c_g2 (1 + (((readC ⟨ca, mca, d⟩ a).L).length : Nat) * 3) w24 (by omega) (by omega) (by omega) (own_rd HO_g2_24.out)).mono ?_
    rintro e w' ⟨rfl, rfl⟩
    go_wp2_with fail
    refine (toCache_any ca Aca nca cca mca w24 HNca.out hnsca (HRca.out.below hbb24)).mono ?_
    rintro e w25 ⟨A_zca, c_zca, rfl, hc_zca, hcm_zca, ho_zca, hb25⟩
    have HC_zca := hid_ hc_zca; clear hc_zca
    have HCM_zca := hid_ hcm_zca; clear hcm_zca
    have hs25 := hb25.size
    have hbb25 := hbb24.trans (hb25.mono hbb24.size)
    replace bx_a0 := (hb25.cell (cell_lt bx_a0)).trans bx_a0
    replace bx_a1 := (hb25.cell (cell_lt bx_a1)).trans bx_a1
    replace bx_w10 := (hb25.cell (cell_lt bx_w10)).trans bx_w10
    replace bx_w11 := (hb25.cell (cell_lt bx_w11)).trans bx_w11
    replace bx_g10 := (hb25.cell (cell_lt bx_g10)).trans bx_g10
    replace bx_g11 := (hb25.cell (cell_lt bx_g11)).trans bx_g11
    have HO_w1_25 := hid_ (own_below HO_w1_24.out hb25)
    clear HO_w1_24
    have HO_w2_25 := hid_ (own_below HO_w2_24.out hb25)
    clear HO_w2_24
    have HO_g1_25 := hid_ (own_below HO_g1_24.out hb25)
    clear HO_g1_24
    have HO_g2_25 := hid_ (own_below HO_g2_24.out hb25)
    clear HO_g2_24
    clear hb25
    have HO_zca := hid_ ho_zca; clear ho_zca
    have HLT_zca := hid_ (fun g e => (HO_zca.out.lt g e).2)
    go_wp2_with fail
    refine (toIntS_any d Ad nd cd w25 HNd.out hnsd (HRd.out.below hbb25)).mono ?_
    rintro e w26 ⟨A_zd, c_zd, rfl, hc_zd, hcm_zd, ho_zd, hb26⟩
    have HC_zd := hid_ hc_zd; clear hc_zd
    have HCM_zd := hid_ hcm_zd; clear hcm_zd
    have hs26 := hb26.size
    have hbb26 := hbb25.trans (hb26.mono hbb25.size)
    replace bx_a0 := (hb26.cell (cell_lt bx_a0)).trans bx_a0
    replace bx_a1 := (hb26.cell (cell_lt bx_a1)).trans bx_a1
    replace bx_w10 := (hb26.cell (cell_lt bx_w10)).trans bx_w10
    replace bx_w11 := (hb26.cell (cell_lt bx_w11)).trans bx_w11
    replace bx_g10 := (hb26.cell (cell_lt bx_g10)).trans bx_g10
    replace bx_g11 := (hb26.cell (cell_lt bx_g11)).trans bx_g11
    have HO_w1_26 := hid_ (own_below HO_w1_25.out hb26)
    clear HO_w1_25
    have HO_w2_26 := hid_ (own_below HO_w2_25.out hb26)
    clear HO_w2_25
    have HO_g1_26 := hid_ (own_below HO_g1_25.out hb26)
    clear HO_g1_25
    have HO_g2_26 := hid_ (own_below HO_g2_25.out hb26)
    clear HO_g2_25
    have HO_zca_26 := hid_ (own_below HO_zca.out hb26)
    clear HO_zca
    clear hb26
    have HO_zd := hid_ ho_zd; clear ho_zd
    have HLT_zd := hid_ (fun g e => (HO_zd.out.lt g e).2)
    go_wp2_with fail
    refine (implRead_any ca A_zca nca c_zca mca d A_zd nd c_zd a w26 HNca.out (by omega) HC_zca.out HCM_zca.out (own_rd HO_zca_26.out) HNd.out (by omega) HC_zd.out HCM_zd.out (own_rd HO_zd.out)).mono ?_
    rintro e w27 ⟨A_h1, c_h1, A_h2, c_h2, rfl, hc_h1, hcm_h1, hc_h2, hcm_h2, ho_h1, ho_h2, hb27⟩
    clear hc_h1 hcm_h1
    clear hc_h2 hcm_h2
    have hs27 := hb27.size
    have hbb27 := hbb26.trans (hb27.mono hbb26.size)
    replace bx_a0 := (hb27.cell (cell_lt bx_a0)).trans bx_a0
    replace bx_a1 := (hb27.cell (cell_lt bx_a1)).trans bx_a1
    replace bx_w10 := (hb27.cell (cell_lt bx_w10)).trans bx_w10
    replace bx_w11 := (hb27.cell (cell_lt bx_w11)).trans bx_w11
    replace bx_g10 := (hb27.cell (cell_lt bx_g10)).trans bx_g10
    replace bx_g11 := (hb27.cell (cell_lt bx_g11)).trans bx_g11
    have HO_w1_27 := hid_ (own_below HO_w1_26.out hb27)
    clear HO_w1_26
    have HO_w2_27 := hid_ (own_below HO_w2_26.out hb27)
    clear HO_w2_26
    have HO_g1_27 := hid_ (own_below HO_g1_26.out hb27)
    clear HO_g1_26
    have HO_g2_27 := hid_ (own_below HO_g2_26.out hb27)
    clear HO_g2_26
    have HO_zca_27 := hid_ (own_below HO_zca_26.out hb27)
    clear HO_zca_26
    have HO_zd_27 := hid_ (own_below HO_zd.out hb27)
    clear HO_zd
    clear hb27
    have HO_h1 := hid_ ho_h1; clear ho_h1
    have HLT_h1 := hid_ (fun g e => (HO_h1.out.lt g e).2)
    have HO_h2 := hid_ ho_h2; clear ho_h2
    have HLT_h2 := hid_ (fun g e => (HO_h2.out.lt g e).2)
    obtain ⟨w28, hw28⟩ : ∃ x, w27.alloc (.cells #[.slice A_h1 ((readC ⟨ca, mca, d⟩ a).L).length c_h1, .int .i64 (readC ⟨ca, mca, d⟩ a).M] 29) = x := ⟨_, rfl⟩
    have hb28 : Below w27.heap.size w27 w28 := by rw [← hw28]; exact (Below.refl _ _).alloc (Nat.le_refl _) _
    have hz28 : w27.heap.size < w28.heap.size := by rw [← hw28]; simp
    have bx_h10 : w28.cell? ⟨w27.heap.size, 0, none⟩ = some (.slice A_h1 ((readC ⟨ca, mca, d⟩ a).L).length c_h1) := by rw [← hw28]; simp [go_sem]
    have bx_h11 : w28.cell? ⟨w27.heap.size, 1, none⟩ = some (.int .i64 (readC ⟨ca, mca, d⟩ a).M) := by rw [← hw28]; simp [go_sem]
    have hs28 := hb28.size
    have hbb28 := hbb27.trans (hb28.mono hbb27.size)
    replace bx_a0 := (hb28.cell (cell_lt bx_a0)).trans bx_a0
    replace bx_a1 := (hb28.cell (cell_lt bx_a1)).trans bx_a1
    replace bx_w10 := (hb28.cell (cell_lt bx_w10)).trans bx_w10
    replace bx_w11 := (hb28.cell (cell_lt bx_w11)).trans bx_w11
    replace bx_g10 := (hb28.cell (cell_lt bx_g10)).trans bx_g10
    replace bx_g11 := (hb28.cell (cell_lt bx_g11)).trans bx_g11
    have HO_w1_28 := hid_ (own_below HO_w1_27.out hb28)
    clear HO_w1_27
    have HO_w2_28 := hid_ (own_below HO_w2_27.out hb28)
    clear HO_w2_27
    have HO_g1_28 := hid_ (own_below HO_g1_27.out hb28)
    clear HO_g1_27
    have HO_g2_28 := hid_ (own_below HO_g2_27.out hb28)
    clear HO_g2_27
    have HO_zca_28 := hid_ (own_below HO_zca_27.out hb28)
    clear HO_zca_27
    have HO_zd_28 := hid_ (own_below HO_zd_27.out hb28)
    clear HO_zd_27
    have HO_h1_28 := hid_ (own_below HO_h1.out hb28)
    clear HO_h1
    have HO_h2_28 := hid_ (own_below HO_h2.out hb28)
    clear HO_h2
    clear hb28
    go_wp2_with fail
    clear hw28
    refine (eqCache_any ((readC ⟨ca, mca, d⟩ a).L) ((readC ⟨ca, mca, d⟩ a).L) A_h1 A_w1 ((readC ⟨ca, mca, d⟩ a).L).length ((readC ⟨ca, mca, d⟩ a).L).length c_h1 c_w1 (readC ⟨ca, mca, d⟩ a).M (readC ⟨ca, mca, d⟩ a).M w28 rfl rfl HLm1.out HLm1.out (own_rd HO_h1_28.out) (own_rd HO_w1_28.out)).mono ?_
    rintro e w29 ⟨rfl, hb29⟩
    have hs29 := hb29.size
    have hbb29 := hbb28.trans (hb29.mono hbb28.size)
    replace bx_a0 := (hb29.cell (cell_lt bx_a0)).trans bx_a0
    replace bx_a1 := (hb29.cell (cell_lt bx_a1)).trans bx_a1
    replace bx_w10 := (hb29.cell (cell_lt bx_w10)).trans bx_w10
    replace bx_w11 := (hb29.cell (cell_lt bx_w11)).trans bx_w11
    replace bx_g10 := (hb29.cell (cell_lt bx_g10)).trans bx_g10
    replace bx_g11 := (hb29.cell (cell_lt bx_g11)).trans bx_g11
    replace bx_h10 := (hb29.cell (cell_lt bx_h10)).trans bx_h10
    replace bx_h11 := (hb29.cell (cell_lt bx_h11)).trans bx_h11
    have HO_w1_29 := hid_ (own_below HO_w1_28.out hb29)
    clear HO_w1_28
    have HO_w2_29 := hid_ (own_below HO_w2_28.out hb29)
    clear HO_w2_28
    have HO_g1_29 := hid_ (own_below HO_g1_28.out hb29)
    clear HO_g1_28
    have HO_g2_29 := hid_ (own_below HO_g2_28.out hb29)
    clear HO_g2_28
    have HO_zca_29 := hid_ (own_below HO_zca_28.out hb29)
    clear HO_zca_28
    have HO_zd_29 := hid_ (own_below HO_zd_28.out hb29)
    clear HO_zd_28
    have HO_h1_29 := hid_ (own_below HO_h1_28.out hb29)
    clear HO_h1_28
    have HO_h2_29 := hid_ (own_below HO_h2_28.out hb29)
    clear HO_h2_28
    clear hb29
    go_wp2_with fail
    refine (eqIntS_any ((readC ⟨ca, mca, d⟩ a).D) ((readC ⟨ca, mca, d⟩ a).D) A_h2 A_w2 ((readC ⟨ca, mca, d⟩ a).D).length ((readC ⟨ca, mca, d⟩ a).D).length c_h2 c_w2 w29 rfl rfl HLm2.out HLm2.out (own_rd HO_h2_29.out) (own_rd HO_w2_29.out)).mono ?_
    rintro e w30 ⟨rfl, hb30⟩
    have hs30 := hb30.size
    have hbb30 := hbb29.trans (hb30.mono hbb29.size)
    replace bx_a0 := (hb30.cell (cell_lt bx_a0)).trans bx_a0
    replace bx_a1 := (hb30.cell (cell_lt bx_a1)).trans bx_a1
    replace bx_w10 := (hb30.cell (cell_lt bx_w10)).trans bx_w10
    replace bx_w11 := (hb30.cell (cell_lt bx_w11)).trans bx_w11
    replace bx_g10 := (hb30.cell (cell_lt bx_g10)).trans bx_g10
    replace bx_g11 := (hb30.cell (cell_lt bx_g11)).trans bx_g11
    replace bx_h10 := (hb30.cell (cell_lt bx_h10)).trans bx_h10
    replace bx_h11 := (hb30.cell (cell_lt bx_h11)).trans bx_h11
    have HO_w1_30 := hid_ (own_below HO_w1_29.out hb30)
    clear HO_w1_29
    have HO_w2_30 := hid_ (own_below HO_w2_29.out hb30)
    clear HO_w2_29
    have HO_g1_30 := hid_ (own_below HO_g1_29.out hb30)
    clear HO_g1_29
    have HO_g2_30 := hid_ (own_below HO_g2_29.out hb30)
    clear HO_g2_29
    have HO_zca_30 := hid_ (own_below HO_zca_29.out hb30)
    clear HO_zca_29
    have HO_zd_30 := hid_ (own_below HO_zd_29.out hb30)
    clear HO_zd_29
    have HO_h1_30 := hid_ (own_below HO_h1_29.out hb30)
    clear HO_h1_29
    have HO_h2_30 := hid_ (own_below HO_h2_29.out hb30)
    clear HO_h2_29
    clear hb30
    go_wp2_with fail
    refine (heldCache_any A_g1 ((readC ⟨ca, mca, d⟩ a).L).length c_g1 (readC ⟨ca, mca, d⟩ a).M 1 w30 (by omega) (by omega) (by omega) (own_rd HO_g1_30.out)).mono ?_
    rintro e w31 ⟨rfl, hb31⟩
    have hs31 := hb31.size
    have hbb31 := hbb30.trans (hb31.mono hbb30.size)
    replace bx_a0 := (hb31.cell (cell_lt bx_a0)).trans bx_a0
    replace bx_a1 := (hb31.cell (cell_lt bx_a1)).trans bx_a1
    replace bx_w10 := (hb31.cell (cell_lt bx_w10)).trans bx_w10
    replace bx_w11 := (hb31.cell (cell_lt bx_w11)).trans bx_w11
    replace bx_g10 := (hb31.cell (cell_lt bx_g10)).trans bx_g10
    replace bx_g11 := (hb31.cell (cell_lt bx_g11)).trans bx_g11
    replace bx_h10 := (hb31.cell (cell_lt bx_h10)).trans bx_h10
    replace bx_h11 := (hb31.cell (cell_lt bx_h11)).trans bx_h11
    have HO_w1_31 := hid_ (own_below HO_w1_30.out hb31)
    clear HO_w1_30
    have HO_w2_31 := hid_ (own_below HO_w2_30.out hb31)
    clear HO_w2_30
    have HO_g1_31 := hid_ (own_below HO_g1_30.out hb31)
    clear HO_g1_30
    have HO_g2_31 := hid_ (own_below HO_g2_30.out hb31)
    clear HO_g2_30
    have HO_zca_31 := hid_ (own_below HO_zca_30.out hb31)
    clear HO_zca_30
    have HO_zd_31 := hid_ (own_below HO_zd_30.out hb31)
    clear HO_zd_30
    have HO_h1_31 := hid_ (own_below HO_h1_30.out hb31)
    clear HO_h1_30
    have HO_h2_31 := hid_ (own_below HO_h2_30.out hb31)
    clear HO_h2_30
    clear hb31
    go_wp2_with fail
    refine (heldIntS_any A_g2 ((readC ⟨ca, mca, d⟩ a).D).length c_g2 (1 + (((readC ⟨ca, mca, d⟩ a).L).length : Nat) * 3) w31 (by omega) (by omega) (by omega) (own_rd HO_g2_31.out)).mono ?_
    rintro e w' ⟨rfl, rfl⟩
    go_wp2
    go_returns
    exact ⟨rfl, hbb31⟩


set_option maxRecDepth 100000 in
theorem fnExactCacheRead_lifted (os : Os) (started : os.Started) (H : Type) (enc : TypeId × Value → H) :
    ReturnsInHanded {} Try.checked os 14 .any (Rows.fnExactCacheReadSpec.pre6 enc Try.prog Try.f14 Rows.fnExactCacheReadRow.domain false) (Rows.fnExactCacheReadSpec.post enc Try.prog Try.f14 false true false false) := by
  refine returnsInHanded_of_change (C := Try.checked) own_ started (by kernel_rfl) Try.func14
    (ChangeSpec.witness6 (enc := enc) (C := Try.checked) false ⟨#[], #[.agg #[.slice none 0 0, .int .i64 0], .slice none 0 0, .int .i64 0], []⟩ 8 (by kernel_rfl) (by kernel_rfl) (by kernel_rfl) (by kernel_rfl)) ?_
  intro W base args ds gs before hval0 hW hcnd _
  have hval : ∀ (j : Nat) t v, Try.f14.params[j]? = some t → args[j]? = some v → Value.okWide Try.prog W .any base t v := hval0
  have hW' := hW
  obtain ⟨p, q, hA0, hV, rfl, hfz, hnd⟩ := hW
  have hA : DataW.TrodAll enc Try.prog W 0 (fun _ => true) true Try.f14.params.toList args.toList ds p := hA0
  rw [Try.params14] at hA hval
  obtain ⟨v0, vs0, d0, ds0, p0, q0, hargs, rfl, rfl, h0, r0⟩ := trodAll_cons hA
  obtain ⟨v1, vs1, d1, ds1, p1, q1, rfl, rfl, rfl, h1, r1⟩ := trodAll_cons r0
  obtain ⟨v2, vs2, d2, ds2, p2, q2, rfl, rfl, rfl, h2, r2⟩ := trodAll_cons r1
  obtain ⟨rfl, rfl, rfl⟩ := trodAll_nil r2
  obtain rfl : args = #[v0, v1, v2] := by cases args; simp_all
  obtain ⟨rfl, rfl⟩ := trodVars_none hV
  have k0 := h0
  have lt0 : ∀ x ∈ p0, x.block < W.heap.size := by obtain ⟨m, hm⟩ := k0; exact DataW.trod_lt m _ _ _ hm
  obtain ⟨z0, a0, len0, cap0, m0, rfl, e0, lc0, cm0, w0, rd0, wm0⟩ := open_cache (hval 0 24 v0 rfl rfl) h0
  obtain ⟨a1, len1, cap1, rfl⟩ := okWide_slice Try.underlying40 (hval 1 40 v1 rfl rfl)
  have k1 := h1
  have lt1 : ∀ x ∈ p1, x.block < W.heap.size := by obtain ⟨m, hm⟩ := k1; exact DataW.trod_lt m _ _ _ hm
  obtain ⟨z1, e1, lc1, cm1, w1, rd1⟩ := open_ints_ h1
  obtain ⟨a2, rfl, rfl, rfl, wf2⟩ := open_int Try.underlying3 (hval 2 3 v2 rfl rfl) h2
  clear hA0 hval0
  refine (exactRead_walk z0 a0 len0 cap0 m0 z1 a1 len1 cap1 a2 W e0 lc0 cm0 w0 rd0 wm0 e1 lc1 cm1 w1 rd1 (wf_i64 wf2)).mono fun e W' ⟨he, bel⟩ => ?_
  subst he
  exact ⟨_, rfl, _, _, _, [], _, [], hW', trodAll_mk1 (shut_bool Try.underlying4 _), (trodAll_cons_mk (Below.trod laidOut_ (by kernel_rfl) (of_decide_eq_true (by kernel_rfl)) k0 bel lt0) (trodAll_cons_mk (Below.trod laidOut_ (by kernel_rfl) (of_decide_eq_true (by kernel_rfl)) k1 bel lt1) (trodAll_cons_mk (shut_int Try.underlying3 wf2) trodAll_mk0))), rfl, bel.frame _, fun h => by cases h⟩

theorem fnExactCacheRead_holds : Rows.FnExactCacheReadSaid :=
  OpenClaim.holds_of_wide 14 Try.f14 rfl rfl rfl rfl rfl rfl rfl ⟨rfl, rfl, rfl, rfl, rfl⟩ rfl rfl rfl rfl rfl (by kernel_rfl) Try.func14 (by kernel_rfl)
    (of_decide_eq_true (by kernel_rfl)) (by unfold Func.isWrapper; first | (rw [if_pos (by decide +kernel)]; kernel_rfl) | (rw [if_neg (by decide +kernel)]; exact ⟨rfl, rfl⟩))
    (fun os started H enc _ => fnExactCacheRead_lifted os started H enc)

end Go.Proofs.Ytejnieoneknbbaa
