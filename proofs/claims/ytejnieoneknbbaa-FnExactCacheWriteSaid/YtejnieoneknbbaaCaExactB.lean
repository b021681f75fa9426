/-
  Caches: the exact laws of CacheView, CacheFlush and CacheWrite.
-/
import Derived.Test.YtejnieoneknbbaaCaExactA
import Derived.Test.YtejnieoneknbbaaCaJ
import Derived.Test.YtejnieoneknbbaaOpenI
namespace Go.Proofs.Ytejnieoneknbbaa
open Go.ChangeShapes Go.WideShapes Go.ChangeAt Go.RowKit Go.BigFrame Go.Deep

theorem viewC_small (c : Ca) : (viewC c).length ≤ 64 := by
  cases h : c.ok
  · rw [viewC_no h]; simp
  · rw [viewC_length (ok_iff.1 h)]; exact (ok_iff.1 h).len
theorem cok_small {c : Ca} (h : COk c) : c.L.length ≤ 64 ∧ c.D.length ≤ 64 := ⟨by have := h.most; have := h.m1; omega, h.len⟩
theorem flushC_small (c : Ca) : (flushC c).L.length ≤ 64 ∧ (flushC c).D.length ≤ 64 := by
  cases h : c.ok
  · rw [flushC_no h]; simp [Ca.zero]
  · exact cok_small (flush_law (ok_iff.1 h)).1
theorem writeC_small (c : Ca) (a v : Int) : (writeC c a v).L.length ≤ 64 ∧ (writeC c a v).D.length ≤ 64 := by
  cases h : caAt c a
  · rw [writeC_no (Or.inl h)]; simp [Ca.zero]
  · cases h2 : inB v 0 255
    · rw [writeC_no (Or.inr h2)]; simp [Ca.zero]
    · exact cok_small (write_law h (inB_iff.1 h2)).1

set_option maxHeartbeats 4000000 in
theorem exactView_walk (ca : List Ln) (Aca : Option Addr) (nca cca : Nat) (mca : Int) (d : List Int) (Ad : Option Addr) (nd cd : Nat) (w : World) (hnca : ca.length = nca) (hcca : nca ≤ cca) (hcmca : cca ≤ maxLen) (qca : ∀ f ∈ ca, I64 f.at_ ∧ I64 f.value) (hRca : Rd w 3 Aca nca (lnC ca)) (qmca : I64 mca) (hnd : d.length = nd) (hcd : nd ≤ cd) (hcmd : cd ≤ maxLen) (qd : ∀ f ∈ d, I64 f) (hRd : Rd w 1 Ad nd (intC d)) :
    Calls Try.prog 6 #[.agg #[.slice Aca nca cca, .int .i64 mca], .slice Ad nd cd] w fun e w' => e = .returned (.bool true) ∧ Below w.heap.size w w' := by
  clear qca
  clear qd
  clear qmca
  have HMca := hid_ (Nat.le_trans hcca hcmca)
  have hmca : nca ≤ 9223372036854775807 := by have := HMca.out; unfold maxLen at this; omega
  clear hcca hcmca
  have HRca := hid_ hRca; clear hRca
  have HNca := hid_ hnca; clear hnca
  have HMd := hid_ (Nat.le_trans hcd hcmd)
  have hmd : nd ≤ 9223372036854775807 := by have := HMd.out; unfold maxLen at this; omega
  clear hcd hcmd
  have HRd := hid_ hRd; clear hRd
  have HNd := hid_ hnd; clear hnd
  by_cases hbigd : (1048576 : Int) < (nd : Int)
  · go_enter Try.func6, Try.ntmps6
    go_wp2
    go_returns
    exact ⟨rfl, (Below.refl _ _).alloc (Nat.le_refl _) _⟩
  have hnsd : nd ≤ 1048576 := by omega
  by_cases hbigca : (1048576 : Int) < (nca : Int)
  · go_enter Try.func6, Try.ntmps6
    go_wp2_with (go_at_call 15; refine (szCa_any Aca nca cca mca 1048576 _ HMca.out (by omega) (by omega)).mono ?_; rw [if_pos hbigca]; rintro e w1 ⟨rfl, hb1⟩)
    go_returns
    exact ⟨rfl, ((Below.refl _ _).alloc (Nat.le_refl _) _).trans (hb1.mono (by simp))⟩
  have hnsca : nca ≤ 1048576 := by omega
  have hl0 : (viewC ⟨ca, mca, d⟩).length ≤ 64 := viewC_small _
  have HLm0 := hid_ (show (viewC ⟨ca, mca, d⟩).length ≤ maxLen by unfold maxLen; omega)
  obtain ⟨w1, hw1⟩ : ∃ x, w.alloc (.cells #[.slice Aca nca cca, .int .i64 mca] 24) = x := ⟨_, rfl⟩
  have hb1 : Below w.heap.size w w1 := by rw [← hw1]; exact (Below.refl _ _).alloc (Nat.le_refl _) _
  have hz1 : w.heap.size < w1.heap.size := by rw [← hw1]; simp
  have bx_a0 : w1.cell? ⟨w.heap.size, 0, none⟩ = some (.slice Aca nca cca) := by rw [← hw1]; simp [go_sem]
  have bx_a1 : w1.cell? ⟨w.heap.size, 1, none⟩ = some (.int .i64 mca) := by rw [← hw1]; simp [go_sem]
  have hs1 := hb1.size
  have hbb1 := (Below.refl w.heap.size w).trans (hb1.mono (Below.refl w.heap.size w).size)
  clear hb1
  go_enter Try.func6, Try.ntmps6
  go_wp2_with fail
  clear hw1
  refine (szCa_any Aca nca cca mca 1048576 _ HMca.out (by omega) (by omega)).mono ?_
  rw [if_neg (show ¬ (1048576 : Int) < (nca : Int) by omega)]
  rintro e w2 ⟨rfl, hb2⟩
  have hs2 := hb2.size
  have hbb2 := hbb1.trans (hb2.mono hbb1.size)
  replace bx_a0 := (hb2.cell (cell_lt bx_a0)).trans bx_a0
  replace bx_a1 := (hb2.cell (cell_lt bx_a1)).trans bx_a1
  clear hb2
  go_wp2_with fail
  refine (toCache_any ca Aca nca cca mca w2 HNca.out hnsca (HRca.out.below hbb2)).mono ?_
  rintro e w3 ⟨A_sca, c_sca, rfl, hc_sca, hcm_sca, ho_sca, hb3⟩
  have HC_sca := hid_ hc_sca; clear hc_sca
  have HCM_sca := hid_ hcm_sca; clear hcm_sca
  have hs3 := hb3.size
  have hbb3 := hbb2.trans (hb3.mono hbb2.size)
  replace bx_a0 := (hb3.cell (cell_lt bx_a0)).trans bx_a0
  replace bx_a1 := (hb3.cell (cell_lt bx_a1)).trans bx_a1
  clear hb3
  have HO_sca := hid_ ho_sca; clear ho_sca
  have HLT_sca := hid_ (fun g e => (HO_sca.out.lt g e).2)
  go_wp2_with fail
  refine (toIntS_any d Ad nd cd w3 HNd.out hnsd (HRd.out.below hbb3)).mono ?_
  rintro e w4 ⟨A_sd, c_sd, rfl, hc_sd, hcm_sd, ho_sd, hb4⟩
  have HC_sd := hid_ hc_sd; clear hc_sd
  have HCM_sd := hid_ hcm_sd; clear hcm_sd
  have hs4 := hb4.size
  have hbb4 := hbb3.trans (hb4.mono hbb3.size)
  replace bx_a0 := (hb4.cell (cell_lt bx_a0)).trans bx_a0
  replace bx_a1 := (hb4.cell (cell_lt bx_a1)).trans bx_a1
  have HO_sca_4 := hid_ (own_below HO_sca.out hb4)
  clear HO_sca
  clear hb4
  have HO_sd := hid_ ho_sd; clear ho_sd
  have HLT_sd := hid_ (fun g e => (HO_sd.out.lt g e).2)
  go_wp2_with fail
  refine (specView_any ca A_sca nca c_sca mca d A_sd nd c_sd w4 HNca.out (by omega) (own_rd HO_sca_4.out) HNd.out (by omega) (own_rd HO_sd.out)).mono ?_
  rintro e w5 ⟨A_w0, c_w0, rfl, hc_w0, hcm_w0, ho_w0, hb5⟩
  clear hc_w0 hcm_w0
  have hs5 := hb5.size
  have hbb5 := hbb4.trans (hb5.mono hbb4.size)
  replace bx_a0 := (hb5.cell (cell_lt bx_a0)).trans bx_a0
  replace bx_a1 := (hb5.cell (cell_lt bx_a1)).trans bx_a1
  have HO_sca_5 := hid_ (own_below HO_sca_4.out hb5)
  clear HO_sca_4
  have HO_sd_5 := hid_ (own_below HO_sd.out hb5)
  clear HO_sd
  clear hb5
  have HO_w0 := hid_ ho_w0; clear ho_w0
  have HLT_w0 := hid_ (fun g e => (HO_w0.out.lt g e).2)
  clear HO_sca_5 HLT_sca
  clear HO_sd_5 HLT_sd
  go_wp2_with fail
  refine (toCache_any ca Aca nca cca mca w5 HNca.out hnsca (HRca.out.below hbb5)).mono ?_
  rintro e w6 ⟨A_xca, c_xca, rfl, hc_xca, hcm_xca, ho_xca, hb6⟩
  have HC_xca := hid_ hc_xca; clear hc_xca
  have HCM_xca := hid_ hcm_xca; clear hcm_xca
  have hs6 := hb6.size
  have hbb6 := hbb5.trans (hb6.mono hbb5.size)
  replace bx_a0 := (hb6.cell (cell_lt bx_a0)).trans bx_a0
  replace bx_a1 := (hb6.cell (cell_lt bx_a1)).trans bx_a1
  have HO_w0_6 := hid_ (own_below HO_w0.out hb6)
  clear HO_w0
  clear hb6
  have HO_xca := hid_ ho_xca; clear ho_xca
  have HLT_xca := hid_ (fun g e => (HO_xca.out.lt g e).2)
  obtain ⟨w7, hw7⟩ : ∃ x, w6.alloc (.cells #[.slice A_xca nca c_xca, .int .i64 mca] 29) = x := ⟨_, rfl⟩
  have hb7 : Below w6.heap.size w6 w7 := by rw [← hw7]; exact (Below.refl _ _).alloc (Nat.le_refl _) _
  have hz7 : w6.heap.size < w7.heap.size := by rw [← hw7]; simp
  have bx_xca0 : w7.cell? ⟨w6.heap.size, 0, none⟩ = some (.slice A_xca nca c_xca) := by rw [← hw7]; simp [go_sem]
  have bx_xca1 : w7.cell? ⟨w6.heap.size, 1, none⟩ = some (.int .i64 mca) := by rw [← hw7]; simp [go_sem]
  have hs7 := hb7.size
  have hbb7 := hbb6.trans (hb7.mono hbb6.size)
  replace bx_a0 := (hb7.cell (cell_lt bx_a0)).trans bx_a0
  replace bx_a1 := (hb7.cell (cell_lt bx_a1)).trans bx_a1
  have HO_w0_7 := hid_ (own_below HO_w0_6.out hb7)
  clear HO_w0_6
  have HO_xca_7 := hid_ (own_below HO_xca.out hb7)
  clear HO_xca
  clear hb7
  go_wp2_with fail
  clear hw7
  refine (toIntS_any d Ad nd cd w7 HNd.out hnsd (HRd.out.below hbb7)).mono ?_
  rintro e w8 ⟨A_xd, c_xd, rfl, hc_xd, hcm_xd, ho_xd, hb8⟩
  have HC_xd := hid_ hc_xd; clear hc_xd
  have HCM_xd := hid_ hcm_xd; clear hcm_xd
  have hs8 := hb8.size
  have hbb8 := hbb7.trans (hb8.mono hbb7.size)
  replace bx_a0 := (hb8.cell (cell_lt bx_a0)).trans bx_a0
  replace bx_a1 := (hb8.cell (cell_lt bx_a1)).trans bx_a1
  replace bx_xca0 := (hb8.cell (cell_lt bx_xca0)).trans bx_xca0
  replace bx_xca1 := (hb8.cell (cell_lt bx_xca1)).trans bx_xca1
  have HO_w0_8 := hid_ (own_below HO_w0_7.out hb8)
  clear HO_w0_7
  have HO_xca_8 := hid_ (own_below HO_xca_7.out hb8)
  clear HO_xca_7
  clear hb8
  have HO_xd := hid_ ho_xd; clear ho_xd
  have HLT_xd := hid_ (fun g e => (HO_xd.out.lt g e).2)
  go_wp2_with fail
  refine (implView_any ca A_xca nca c_xca mca d A_xd nd c_xd w8 HNca.out (by omega) HC_xca.out HCM_xca.out (own_rd HO_xca_8.out) HNd.out (by omega) HC_xd.out HCM_xd.out (own_rd HO_xd.out)).mono ?_
  rintro e w9 ⟨A_g0, c_g0, rfl, hc_g0, hcm_g0, ho_g0, hb9⟩
  clear hc_g0 hcm_g0
  have hs9 := hb9.size
  have hbb9 := hbb8.trans (hb9.mono hbb8.size)
  replace bx_a0 := (hb9.cell (cell_lt bx_a0)).trans bx_a0
  replace bx_a1 := (hb9.cell (cell_lt bx_a1)).trans bx_a1
  replace bx_xca0 := (hb9.cell (cell_lt bx_xca0)).trans bx_xca0
  replace bx_xca1 := (hb9.cell (cell_lt bx_xca1)).trans bx_xca1
  have HO_w0_9 := hid_ (own_below HO_w0_8.out hb9)
  clear HO_w0_8
  have HO_xca_9 := hid_ (own_below HO_xca_8.out hb9)
  clear HO_xca_8
  have HO_xd_9 := hid_ (own_below HO_xd.out hb9)
  clear HO_xd
  clear hb9
  have HO_g0 := hid_ ho_g0; clear ho_g0
  have HLT_g0 := hid_ (fun g e => (HO_g0.out.lt g e).2)
  go_wp2_with fail
  refine (eqIntS_any (viewC ⟨ca, mca, d⟩) (viewC ⟨ca, mca, d⟩) A_g0 A_w0 (viewC ⟨ca, mca, d⟩).length (viewC ⟨ca, mca, d⟩).length c_g0 c_w0 w9 rfl rfl HLm0.out HLm0.out (own_rd HO_g0.out) (own_rd HO_w0_9.out)).mono ?_
  rintro e w10 ⟨rfl, hb10⟩
  have hs10 := hb10.size
  have hbb10 := hbb9.trans (hb10.mono hbb9.size)
  replace bx_a0 := (hb10.cell (cell_lt bx_a0)).trans bx_a0
  replace bx_a1 := (hb10.cell (cell_lt bx_a1)).trans bx_a1
  replace bx_xca0 := (hb10.cell (cell_lt bx_xca0)).trans bx_xca0
  replace bx_xca1 := (hb10.cell (cell_lt bx_xca1)).trans bx_xca1
  have HO_w0_10 := hid_ (own_below HO_w0_9.out hb10)
  clear HO_w0_9
  have HO_xca_10 := hid_ (own_below HO_xca_9.out hb10)
  clear HO_xca_9
  have HO_xd_10 := hid_ (own_below HO_xd_9.out hb10)
  clear HO_xd_9
  have HO_g0_10 := hid_ (own_below HO_g0.out hb10)
  clear HO_g0
  clear hb10
  go_wp2_with fail
  refine wp_region_semT (semW (fun j => if j = 7 then .val (.pointer (some ⟨w6.heap.size, 0, none⟩)) else if j = 2 then .val (.pointer (some ⟨w.heap.size, 0, none⟩)) else if j = 38 then .val (.agg #[.slice A_xca nca c_xca, .int .i64 mca]) else if j = 39 then .val (.agg #[.slice Aca nca cca, .int .i64 mca]) else .str 3 nca (lnC ca) mca)) [2, 7] 90 3 (by kernel_rfl) (by kernel_rfl) rfl ?_ trivial ?_ ?_
  · intro j hj
    have hj' : j = 2 ∨ j = 7 := by simpa using hj
    rcases hj' with rfl | rfl <;> rfl
  · simp only [List.take_succ_cons, List.take_zero, HAll]
    refine ⟨hopw_val _ rfl rfl rfl rfl (fun a w0 h hb => run_ldc a.eval _ _ _ _ _ w0 _ (h 7 (by kernel_rfl)) ((hb.cell (cell_lt (show (w10.drew).cell? _ = _ from bx_xca0))).trans bx_xca0) ((hb.cell (cell_lt (show (w10.drew).cell? _ = _ from bx_xca1))).trans bx_xca1)),
      hopw_val _ rfl rfl rfl rfl (fun a w0 h hb => run_ldca a.eval _ _ _ _ _ w0 _ (h 2 (by kernel_rfl)) ((hb.cell (cell_lt (show (w10.drew).cell? _ = _ from bx_a0))).trans bx_a0) ((hb.cell (cell_lt (show (w10.drew).cell? _ = _ from bx_a1))).trans bx_a1)),
      hopw_call rfl rfl rfl (fun a w0 h hb => ⟨_, _, run_toc a.eval _ _ _ _ _ w0 _ _ rfl (h 39 (by kernel_rfl)), (toCache_any ca Aca nca cca mca w0 HNca.out hnsca ((HRca.out.below hbb10).below (show Below w10.heap.size w10 w0 from ((Below.refl _ _).drew).trans hb))).mono fun e w3 hh => by obtain ⟨A9, c9, h1, h2, h3, h4, h5⟩ := hh; exact ⟨_, h1, ⟨A9, c9, rfl, h2, h3, own_rd h4⟩, h5⟩⟩), trivial⟩
  · intro a' w11 haf
    have hex := haf.ex rfl [38, 39, 40] (by kernel_rfl)
    have hb11 : Below w10.heap.size w10 w11 := ((Below.refl _ _).drew).trans (show Below w10.drew.heap.size w10.drew w11 from haf.r)
    clear haf
    simp only [SemEx, Act.put, List.setIfInBounds_toArray, List.set_cons_succ, List.set_cons_zero] at hex
    obtain ⟨x0_, t0_, x1_, -, x2_, t2_, rfl⟩ := hex
    obtain rfl : x0_ = .agg #[.slice A_xca nca c_xca, .int .i64 mca] := t0_
    obtain ⟨A_e11, c_e11, rfl, -, hcme11, hre11⟩ : ∃ A c, x2_ = .agg #[.slice A nca c, .int .i64 mca] ∧ nca ≤ c ∧ c ≤ maxLen ∧ Rd w11 3 A nca (lnC ca) := t2_
    simp only [List.drop_succ_cons, List.drop_zero]
    have HRE11 := hid_ hre11; clear hre11 hcme11
    have hs11 := hb11.size
    have hbb11 := hbb10.trans (hb11.mono hbb10.size)
    replace bx_a0 := (hb11.cell (cell_lt bx_a0)).trans bx_a0
    replace bx_a1 := (hb11.cell (cell_lt bx_a1)).trans bx_a1
    replace bx_xca0 := (hb11.cell (cell_lt bx_xca0)).trans bx_xca0
    replace bx_xca1 := (hb11.cell (cell_lt bx_xca1)).trans bx_xca1
    have HO_w0_11 := hid_ (own_below HO_w0_10.out hb11)
    clear HO_w0_10
    have HO_xca_11 := hid_ (own_below HO_xca_10.out hb11)
    clear HO_xca_10
    have HO_xd_11 := hid_ (own_below HO_xd_10.out hb11)
    clear HO_xd_10
    have HO_g0_11 := hid_ (own_below HO_g0_10.out hb11)
    clear HO_g0_10
    clear hb11
    go_wp2_with fail
    refine (eqCache_any ca ca A_xca A_e11 nca nca c_xca c_e11 mca mca w11 HNca.out HNca.out HMca.out HMca.out (own_rd HO_xca_11.out) HRE11.out).mono ?_
    rintro e w12 ⟨rfl, hb12⟩
    have hs12 := hb12.size
    have hbb12 := hbb11.trans (hb12.mono hbb11.size)
    replace bx_a0 := (hb12.cell (cell_lt bx_a0)).trans bx_a0
    replace bx_a1 := (hb12.cell (cell_lt bx_a1)).trans bx_a1
    replace bx_xca0 := (hb12.cell (cell_lt bx_xca0)).trans bx_xca0
    replace bx_xca1 := (hb12.cell (cell_lt bx_xca1)).trans bx_xca1
    have HO_w0_12 := hid_ (own_below HO_w0_11.out hb12)
    clear HO_w0_11
    have HO_xca_12 := hid_ (own_below HO_xca_11.out hb12)
    clear HO_xca_11
    have HO_xd_12 := hid_ (own_below HO_xd_11.out hb12)
    clear HO_xd_11
    have HO_g0_12 := hid_ (own_below HO_g0_11.out hb12)
    clear HO_g0_11
    clear hb12
    go_wp2_with fail
    refine (toIntS_any d Ad nd cd w12 HNd.out hnsd (HRd.out.below hbb12)).mono ?_
    rintro e w13 ⟨A_yd, c_yd, rfl, hc_yd, hcm_yd, ho_yd, hb13⟩
    have HC_yd := hid_ hc_yd; clear hc_yd
    have HCM_yd := hid_ hcm_yd; clear hcm_yd
    have hs13 := hb13.size
    have hbb13 := hbb12.trans (hb13.mono hbb12.size)
    replace bx_a0 := (hb13.cell (cell_lt bx_a0)).trans bx_a0
    replace bx_a1 := (hb13.cell (cell_lt bx_a1)).trans bx_a1
    replace bx_xca0 := (hb13.cell (cell_lt bx_xca0)).trans bx_xca0
    replace bx_xca1 := (hb13.cell (cell_lt bx_xca1)).trans bx_xca1
    have HO_w0_13 := hid_ (own_below HO_w0_12.out hb13)
    clear HO_w0_12
    have HO_xca_13 := hid_ (own_below HO_xca_12.out hb13)
    clear HO_xca_12
    have HO_xd_13 := hid_ (own_below HO_xd_12.out hb13)
    clear HO_xd_12
    have HO_g0_13 := hid_ (own_below HO_g0_12.out hb13)
    clear HO_g0_12
    clear hb13
    have HO_yd := hid_ ho_yd; clear ho_yd
    have HLT_yd := hid_ (fun g e => (HO_yd.out.lt g e).2)
    go_wp2_with fail
    refine (eqIntS_any d d A_xd A_yd nd nd c_xd c_yd w13 HNd.out HNd.out HMd.out HMd.out (own_rd HO_xd_13.out) (own_rd HO_yd.out)).mono ?_
    rintro e w14 ⟨rfl, hb14⟩
    have hs14 := hb14.size
    have hbb14 := hbb13.trans (hb14.mono hbb13.size)
    replace bx_a0 := (hb14.cell (cell_lt bx_a0)).trans bx_a0
    replace bx_a1 := (hb14.cell (cell_lt bx_a1)).trans bx_a1
    replace bx_xca0 := (hb14.cell (cell_lt bx_xca0)).trans bx_xca0
    replace bx_xca1 := (hb14.cell (cell_lt bx_xca1)).trans bx_xca1
    have HO_w0_14 := hid_ (own_below HO_w0_13.out hb14)
    clear HO_w0_13
    have HO_xca_14 := hid_ (own_below HO_xca_13.out hb14)
    clear HO_xca_13
    have HO_xd_14 := hid_ (own_below HO_xd_13.out hb14)
    clear HO_xd_13
    have HO_g0_14 := hid_ (own_below HO_g0_13.out hb14)
    clear HO_g0_13
    have HO_yd_14 := hid_ (own_below HO_yd.out hb14)
    clear HO_yd
    clear hb14
    clear HO_yd_14 HLT_yd
    go_wp2_with fail
    refine (markCache_any A_xca nca c_xca _ mca 1 _ w14 (by omega) (by omega) (by omega) HO_xca_14.out).mono ?_
    rintro e w15 ⟨rfl, ho_m15, hg15⟩
    have hs15 := hg15.size
    replace bx_a0 := hg15.cell bx_a0 (fun e => by have h1 := (HO_xca_14.out.lt _ e.symm).1; have h2 := HLT_xca.out _ e.symm; simp only at h1 h2; omega)
    replace bx_a1 := hg15.cell bx_a1 (fun e => by have h1 := (HO_xca_14.out.lt _ e.symm).1; have h2 := HLT_xca.out _ e.symm; simp only at h1 h2; omega)
    replace bx_xca0 := hg15.cell bx_xca0 (fun e => by have h1 := (HO_xca_14.out.lt _ e.symm).1; have h2 := HLT_xca.out _ e.symm; simp only at h1 h2; omega)
    replace bx_xca1 := hg15.cell bx_xca1 (fun e => by have h1 := (HO_xca_14.out.lt _ e.symm).1; have h2 := HLT_xca.out _ e.symm; simp only at h1 h2; omega)
    have HG15 := hid_ hg15; clear hg15
    have hbb15 := hbb14.grown HG15.out hbb14.size (fun g e => by have := (HO_xca_14.out.lt g e).1; omega)
    have HO_w0_15 := hid_ (own_other HO_w0_14.out HO_xca_14.out (by decide) HG15.out)
    have HO_xd_15 := hid_ (own_other HO_xd_14.out HO_xca_14.out (by decide) HG15.out)
    have HO_g0_15 := hid_ (own_other HO_g0_14.out HO_xca_14.out (by decide) HG15.out)
    clear HO_w0_14
    clear HO_xca_14
    clear HO_xd_14
    clear HO_g0_14
    have HO_xca_15 := hid_ ho_m15; clear ho_m15
    go_wp2_with fail
    refine (markIntS_any A_xd nd c_xd _ (1 + (nca : Nat) * 3) _ w15 (by omega) (by omega) (by omega) HO_xd_15.out).mono ?_
    rintro e w16 ⟨rfl, ho_m16, hg16⟩
    have hs16 := hg16.size
    replace bx_a0 := hg16.cell bx_a0 (fun e => by have h1 := (HO_xd_15.out.lt _ e.symm).1; have h2 := HLT_xd.out _ e.symm; simp only at h1 h2; omega)
    replace bx_a1 := hg16.cell bx_a1 (fun e => by have h1 := (HO_xd_15.out.lt _ e.symm).1; have h2 := HLT_xd.out _ e.symm; simp only at h1 h2; omega)
    replace bx_xca0 := hg16.cell bx_xca0 (fun e => by have h1 := (HO_xd_15.out.lt _ e.symm).1; have h2 := HLT_xd.out _ e.symm; simp only at h1 h2; omega)
    replace bx_xca1 := hg16.cell bx_xca1 (fun e => by have h1 := (HO_xd_15.out.lt _ e.symm).1; have h2 := HLT_xd.out _ e.symm; simp only at h1 h2; omega)
    have HG16 := hid_ hg16; clear hg16
    have hbb16 := hbb15.grown HG16.out hbb15.size (fun g e => by have := (HO_xd_15.out.lt g e).1; omega)
    have HO_w0_16 := hid_ (own_mark_older HO_w0_15.out HLT_w0.out HO_xd_15.out (by omega) HG16.out)
    have HO_xca_16 := hid_ (own_other HO_xca_15.out HO_xd_15.out (by decide) HG16.out)
    have HO_g0_16 := hid_ (own_mark_newer HO_g0_15.out HLT_xd.out (by omega) HG16.out)
    clear HO_w0_15
    clear HO_xca_15
    clear HO_xd_15
    clear HO_g0_15
    have HO_xd_16 := hid_ ho_m16; clear ho_m16
    go_wp2_with fail
    refine (eqIntS_any (viewC ⟨ca, mca, d⟩) (viewC ⟨ca, mca, d⟩) A_g0 A_w0 (viewC ⟨ca, mca, d⟩).length (viewC ⟨ca, mca, d⟩).length c_g0 c_w0 w16 rfl rfl HLm0.out HLm0.out (own_rd HO_g0_16.out) (own_rd HO_w0_16.out)).mono ?_
    rintro e w17 ⟨rfl, hb17⟩
    have hs17 := hb17.size
    have hbb17 := hbb16.trans (hb17.mono hbb16.size)
    replace bx_a0 := (hb17.cell (cell_lt bx_a0)).trans bx_a0
    replace bx_a1 := (hb17.cell (cell_lt bx_a1)).trans bx_a1
    replace bx_xca0 := (hb17.cell (cell_lt bx_xca0)).trans bx_xca0
    replace bx_xca1 := (hb17.cell (cell_lt bx_xca1)).trans bx_xca1
    have HO_w0_17 := hid_ (own_below HO_w0_16.out hb17)
    clear HO_w0_16
    have HO_xca_17 := hid_ (own_below HO_xca_16.out hb17)
    clear HO_xca_16
    have HO_xd_17 := hid_ (own_below HO_xd_16.out hb17)
    clear HO_xd_16
    have HO_g0_17 := hid_ (own_below HO_g0_16.out hb17)
    clear HO_g0_16
    clear hb17
    clear HO_xca_17 HLT_xca
    clear bx_xca0 bx_xca1
    clear HO_xd_17 HLT_xd
    go_wp2_with fail
    refine (markIntS_any A_g0 (viewC ⟨ca, mca, d⟩).length c_g0 _ 1 _ w17 (by omega) (by omega) (by omega) HO_g0_17.out).mono ?_
    rintro e w18 ⟨rfl, ho_m18, hg18⟩
    have hs18 := hg18.size
    replace bx_a0 := hg18.cell bx_a0 (fun e => by have h1 := (HO_g0_17.out.lt _ e.symm).1; have h2 := HLT_g0.out _ e.symm; simp only at h1 h2; omega)
    replace bx_a1 := hg18.cell bx_a1 (fun e => by have h1 := (HO_g0_17.out.lt _ e.symm).1; have h2 := HLT_g0.out _ e.symm; simp only at h1 h2; omega)
    have HG18 := hid_ hg18; clear hg18
    have hbb18 := hbb17.grown HG18.out hbb17.size (fun g e => by have := (HO_g0_17.out.lt g e).1; omega)
    have HO_w0_18 := hid_ (own_mark_older HO_w0_17.out HLT_w0.out HO_g0_17.out (by omega) HG18.out)
    clear HO_w0_17
    clear HO_g0_17
    have HO_g0_18 := hid_ ho_m18; clear ho_m18
    go_wp2_with fail
    refine (heldIntS_any A_g0 (viewC ⟨ca, mca, d⟩).length c_g0 1 w18 (by omega) (by omega) (by omega) (own_rd HO_g0_18.out)).mono ?_
    rintro e w' ⟨rfl, rfl⟩
    go_wp2_with fail
    refine (toCache_any ca Aca nca cca mca w18 HNca.out hnsca (HRca.out.below hbb18)).mono ?_
    rintro e w19 ⟨A_zca, c_zca, rfl, hc_zca, hcm_zca, ho_zca, hb19⟩
    have HC_zca := hid_ hc_zca; clear hc_zca
    have HCM_zca := hid_ hcm_zca; clear hcm_zca
    have hs19 := hb19.size
    have hbb19 := hbb18.trans (hb19.mono hbb18.size)
    replace bx_a0 := (hb19.cell (cell_lt bx_a0)).trans bx_a0
    replace bx_a1 := (hb19.cell (cell_lt bx_a1)).trans bx_a1
    have HO_w0_19 := hid_ (own_below HO_w0_18.out hb19)
    clear HO_w0_18
    have HO_g0_19 := hid_ (own_below HO_g0_18.out hb19)
    clear HO_g0_18
    clear hb19
    have HO_zca := hid_ ho_zca; clear ho_zca
    have HLT_zca := hid_ (fun g e => (HO_zca.out.lt g e).2)
    go_wp2_with fail
    refine (toIntS_any d Ad nd cd w19 HNd.out hnsd (HRd.out.below hbb19)).mono ?_
    rintro e w20 ⟨A_zd, c_zd, rfl, hc_zd, hcm_zd, ho_zd, hb20⟩
    have HC_zd := hid_ hc_zd; clear hc_zd
    have HCM_zd := hid_ hcm_zd; clear hcm_zd
    have hs20 := hb20.size
    have hbb20 := hbb19.trans (hb20.mono hbb19.size)
    replace bx_a0 := (hb20.cell (cell_lt bx_a0)).trans bx_a0
    replace bx_a1 := (hb20.cell (cell_lt bx_a1)).trans bx_a1
    have HO_w0_20 := hid_ (own_below HO_w0_19.out hb20)
    clear HO_w0_19
    have HO_g0_20 := hid_ (own_below HO_g0_19.out hb20)
    clear HO_g0_19
    have HO_zca_20 := hid_ (own_below HO_zca.out hb20)
    clear HO_zca
    clear hb20
    have HO_zd := hid_ ho_zd; clear ho_zd
    have HLT_zd := hid_ (fun g e => (HO_zd.out.lt g e).2)
    go_wp2_with fail
    refine (implView_any ca A_zca nca c_zca mca d A_zd nd c_zd w20 HNca.out (by omega) HC_zca.out HCM_zca.out (own_rd HO_zca_20.out) HNd.out (by omega) HC_zd.out HCM_zd.out (own_rd HO_zd.out)).mono ?_
    rintro e w21 ⟨A_h0, c_h0, rfl, hc_h0, hcm_h0, ho_h0, hb21⟩
    clear hc_h0 hcm_h0
    have hs21 := hb21.size
    have hbb21 := hbb20.trans (hb21.mono hbb20.size)
    replace bx_a0 := (hb21.cell (cell_lt bx_a0)).trans bx_a0
    replace bx_a1 := (hb21.cell (cell_lt bx_a1)).trans bx_a1
    have HO_w0_21 := hid_ (own_below HO_w0_20.out hb21)
    clear HO_w0_20
    have HO_g0_21 := hid_ (own_below HO_g0_20.out hb21)
    clear HO_g0_20
    have HO_zca_21 := hid_ (own_below HO_zca_20.out hb21)
    clear HO_zca_20
    have HO_zd_21 := hid_ (own_below HO_zd.out hb21)
    clear HO_zd
    clear hb21
    have HO_h0 := hid_ ho_h0; clear ho_h0
    have HLT_h0 := hid_ (fun g e => (HO_h0.out.lt g e).2)
    go_wp2_with fail
    refine (eqIntS_any (viewC ⟨ca, mca, d⟩) (viewC ⟨ca, mca, d⟩) A_h0 A_w0 (viewC ⟨ca, mca, d⟩).length (viewC ⟨ca, mca, d⟩).length c_h0 c_w0 w21 rfl rfl HLm0.out HLm0.out (own_rd HO_h0.out) (own_rd HO_w0_21.out)).mono ?_
    rintro e w22 ⟨rfl, hb22⟩
    have hs22 := hb22.size
    have hbb22 := hbb21.trans (hb22.mono hbb21.size)
    replace bx_a0 := (hb22.cell (cell_lt bx_a0)).trans bx_a0
    replace bx_a1 := (hb22.cell (cell_lt bx_a1)).trans bx_a1
    have HO_w0_22 := hid_ (own_below HO_w0_21.out hb22)
    clear HO_w0_21
    have HO_g0_22 := hid_ (own_below HO_g0_21.out hb22)
    clear HO_g0_21
    have HO_zca_22 := hid_ (own_below HO_zca_21.out hb22)
    clear HO_zca_21
    have HO_zd_22 := hid_ (own_below HO_zd_21.out hb22)
    clear HO_zd_21
    have HO_h0_22 := hid_ (own_below HO_h0.out hb22)
    clear HO_h0
    clear hb22
    go_wp2_with fail
    refine (heldIntS_any A_g0 (viewC ⟨ca, mca, d⟩).length c_g0 1 w22 (by omega) (by omega) (by omega) (own_rd HO_g0_22.out)).mono ?_
    rintro e w' ⟨rfl, rfl⟩
    go_wp2
    go_returns
    exact ⟨rfl, hbb22⟩


set_option maxRecDepth 100000 in
theorem fnExactCacheView_lifted (os : Os) (started : os.Started) (H : Type) (enc : TypeId × Value → H) :
    ReturnsInHanded {} Try.checked os 6 .any (Rows.fnExactCacheViewSpec.pre6 enc Try.prog Try.f6 Rows.fnExactCacheViewRow.domain false) (Rows.fnExactCacheViewSpec.post enc Try.prog Try.f6 false true false false) := by
  refine returnsInHanded_of_change (C := Try.checked) own_ started (by kernel_rfl) Try.func6
    (ChangeSpec.witness6 (enc := enc) (C := Try.checked) false ⟨#[], #[.agg #[.slice none 0 0, .int .i64 0], .slice none 0 0], []⟩ 8 (by kernel_rfl) (by kernel_rfl) (by kernel_rfl) (by kernel_rfl)) ?_
  intro W base args ds gs before hval0 hW hcnd _
  have hval : ∀ (j : Nat) t v, Try.f6.params[j]? = some t → args[j]? = some v → Value.okWide Try.prog W .any base t v := hval0
  have hW' := hW
  obtain ⟨p, q, hA0, hV, rfl, hfz, hnd⟩ := hW
  have hA : DataW.TrodAll enc Try.prog W 0 (fun _ => true) true Try.f6.params.toList args.toList ds p := hA0
  rw [Try.params6] at hA hval
  obtain ⟨v0, vs0, d0, ds0, p0, q0, hargs, rfl, rfl, h0, r0⟩ := trodAll_cons hA
  obtain ⟨v1, vs1, d1, ds1, p1, q1, rfl, rfl, rfl, h1, r1⟩ := trodAll_cons r0
  obtain ⟨rfl, rfl, rfl⟩ := trodAll_nil r1
  obtain rfl : args = #[v0, v1] := by cases args; simp_all
  obtain ⟨rfl, rfl⟩ := trodVars_none hV
  have k0 := h0
  have lt0 : ∀ x ∈ p0, x.block < W.heap.size := by obtain ⟨m, hm⟩ := k0; exact DataW.trod_lt m _ _ _ hm
  obtain ⟨z0, a0, len0, cap0, m0, rfl, e0, lc0, cm0, w0, rd0, wm0⟩ := open_cache (hval 0 24 v0 rfl rfl) h0
  obtain ⟨a1, len1, cap1, rfl⟩ := okWide_slice Try.underlying40 (hval 1 40 v1 rfl rfl)
  have k1 := h1
  have lt1 : ∀ x ∈ p1, x.block < W.heap.size := by obtain ⟨m, hm⟩ := k1; exact DataW.trod_lt m _ _ _ hm
  obtain ⟨z1, e1, lc1, cm1, w1, rd1⟩ := open_ints_ h1
  clear hA0 hval0
  refine (exactView_walk z0 a0 len0 cap0 m0 z1 a1 len1 cap1 W e0 lc0 cm0 w0 rd0 wm0 e1 lc1 cm1 w1 rd1).mono fun e W' ⟨he, bel⟩ => ?_
  subst he
  exact ⟨_, rfl, _, _, _, [], _, [], hW', trodAll_mk1 (shut_bool Try.underlying4 _), (trodAll_cons_mk (Below.trod laidOut_ (by kernel_rfl) (of_decide_eq_true (by kernel_rfl)) k0 bel lt0) (trodAll_cons_mk (Below.trod laidOut_ (by kernel_rfl) (of_decide_eq_true (by kernel_rfl)) k1 bel lt1) trodAll_mk0)), rfl, bel.frame _, fun h => by cases h⟩

theorem fnExactCacheView_holds : Rows.FnExactCacheViewSaid :=
  OpenClaim.holds_of_wide 6 Try.f6 rfl rfl rfl rfl rfl rfl rfl ⟨rfl, rfl, rfl, rfl, rfl⟩ rfl rfl rfl rfl rfl (by kernel_rfl) Try.func6 (by kernel_rfl)
    (of_decide_eq_true (by kernel_rfl)) (by unfold Func.isWrapper; first | (rw [if_pos (by decide +kernel)]; kernel_rfl) | (rw [if_neg (by decide +kernel)]; exact ⟨rfl, rfl⟩))
    (fun os started H enc _ => fnExactCacheView_lifted os started H enc)

set_option maxHeartbeats 4000000 in
theorem exactFlush_walk (ca : List Ln) (Aca : Option Addr) (nca cca : Nat) (mca : Int) (d : List Int) (Ad : Option Addr) (nd cd : Nat) (w : World) (hnca : ca.length = nca) (hcca : nca ≤ cca) (hcmca : cca ≤ maxLen) (qca : ∀ f ∈ ca, I64 f.at_ ∧ I64 f.value) (hRca : Rd w 3 Aca nca (lnC ca)) (qmca : I64 mca) (hnd : d.length = nd) (hcd : nd ≤ cd) (hcmd : cd ≤ maxLen) (qd : ∀ f ∈ d, I64 f) (hRd : Rd w 1 Ad nd (intC d)) :
    Calls Try.prog 10 #[.agg #[.slice Aca nca cca, .int .i64 mca], .slice Ad nd cd] w fun e w' => e = .returned (.bool true) ∧ Below w.heap.size w w' := by
  clear qca
  clear qd
  clear qmca
  have HMca := hid_ (Nat.le_trans hcca hcmca)
  have hmca : nca ≤ 9223372036854775807 := by have := HMca.out; unfold maxLen at this; omega
  clear hcca hcmca
  have HRca := hid_ hRca; clear hRca
  have HNca := hid_ hnca; clear hnca
  have HMd := hid_ (Nat.le_trans hcd hcmd)
  have hmd : nd ≤ 9223372036854775807 := by have := HMd.out; unfold maxLen at this; omega
  clear hcd hcmd
  have HRd := hid_ hRd; clear hRd
  have HNd := hid_ hnd; clear hnd
  by_cases hbigd : (1048576 : Int) < (nd : Int)
  · go_enter Try.func10, Try.ntmps10
    go_wp2
    go_returns
    exact ⟨rfl, (Below.refl _ _).alloc (Nat.le_refl _) _⟩
  have hnsd : nd ≤ 1048576 := by omega
  by_cases hbigca : (1048576 : Int) < (nca : Int)
  · go_enter Try.func10, Try.ntmps10
    go_wp2_with (go_at_call 15; refine (szCa_any Aca nca cca mca 1048576 _ HMca.out (by omega) (by omega)).mono ?_; rw [if_pos hbigca]; rintro e w1 ⟨rfl, hb1⟩)
    go_returns
    exact ⟨rfl, ((Below.refl _ _).alloc (Nat.le_refl _) _).trans (hb1.mono (by simp))⟩
  have hnsca : nca ≤ 1048576 := by omega
  have hl0 : ((flushC ⟨ca, mca, d⟩).L).length ≤ 64 := (flushC_small _).1
  have HLm0 := hid_ (show ((flushC ⟨ca, mca, d⟩).L).length ≤ maxLen by unfold maxLen; omega)
  have hl1 : ((flushC ⟨ca, mca, d⟩).D).length ≤ 64 := (flushC_small _).2
  have HLm1 := hid_ (show ((flushC ⟨ca, mca, d⟩).D).length ≤ maxLen by unfold maxLen; omega)
  obtain ⟨w1, hw1⟩ : ∃ x, w.alloc (.cells #[.slice Aca nca cca, .int .i64 mca] 24) = x := ⟨_, rfl⟩
  have hb1 : Below w.heap.size w w1 := by rw [← hw1]; exact (Below.refl _ _).alloc (Nat.le_refl _) _
  have hz1 : w.heap.size < w1.heap.size := by rw [← hw1]; simp
  have bx_a0 : w1.cell? ⟨w.heap.size, 0, none⟩ = some (.slice Aca nca cca) := by rw [← hw1]; simp [go_sem]
  have bx_a1 : w1.cell? ⟨w.heap.size, 1, none⟩ = some (.int .i64 mca) := by rw [← hw1]; simp [go_sem]
  have hs1 := hb1.size
  have hbb1 := (Below.refl w.heap.size w).trans (hb1.mono (Below.refl w.heap.size w).size)
  clear hb1
  go_enter Try.func10, Try.ntmps10
  go_wp2_with fail
  clear hw1
  refine (szCa_any Aca nca cca mca 1048576 _ HMca.out (by omega) (by omega)).mono ?_
  rw [if_neg (show ¬ (1048576 : Int) < (nca : Int) by omega)]
  rintro e w2 ⟨rfl, hb2⟩
  have hs2 := hb2.size
  have hbb2 := hbb1.trans (hb2.mono hbb1.size)
  replace bx_a0 := (hb2.cell (cell_lt bx_a0)).trans bx_a0
  replace bx_a1 := (hb2.cell (cell_lt bx_a1)).trans bx_a1
  clear hb2
  go_wp2_with fail
  refine (toCache_any ca Aca nca cca mca w2 HNca.out hnsca (HRca.out.below hbb2)).mono ?_
  rintro e w3 ⟨A_sca, c_sca, rfl, hc_sca, hcm_sca, ho_sca, hb3⟩
  have HC_sca := hid_ hc_sca; clear hc_sca
  have HCM_sca := hid_ hcm_sca; clear hcm_sca
  have hs3 := hb3.size
  have hbb3 := hbb2.trans (hb3.mono hbb2.size)
  replace bx_a0 := (hb3.cell (cell_lt bx_a0)).trans bx_a0
  replace bx_a1 := (hb3.cell (cell_lt bx_a1)).trans bx_a1
  clear hb3
  have HO_sca := hid_ ho_sca; clear ho_sca
  have HLT_sca := hid_ (fun g e => (HO_sca.out.lt g e).2)
  go_wp2_with fail
  refine (toIntS_any d Ad nd cd w3 HNd.out hnsd (HRd.out.below hbb3)).mono ?_
  rintro e w4 ⟨A_sd, c_sd, rfl, hc_sd, hcm_sd, ho_sd, hb4⟩
  have HC_sd := hid_ hc_sd; clear hc_sd
  have HCM_sd := hid_ hcm_sd; clear hcm_sd
  have hs4 := hb4.size
  have hbb4 := hbb3.trans (hb4.mono hbb3.size)
  replace bx_a0 := (hb4.cell (cell_lt bx_a0)).trans bx_a0
  replace bx_a1 := (hb4.cell (cell_lt bx_a1)).trans bx_a1
  have HO_sca_4 := hid_ (own_below HO_sca.out hb4)
  clear HO_sca
  clear hb4
  have HO_sd := hid_ ho_sd; clear ho_sd
  have HLT_sd := hid_ (fun g e => (HO_sd.out.lt g e).2)
  go_wp2_with fail
  refine (specFlush_any ca A_sca nca c_sca mca d A_sd nd c_sd w4 HNca.out (by omega) (own_rd HO_sca_4.out) HNd.out (by omega) (own_rd HO_sd.out)).mono ?_
  rintro e w5 ⟨A_w0, c_w0, A_w1, c_w1, rfl, hc_w0, hcm_w0, hc_w1, hcm_w1, ho_w0, ho_w1, hb5⟩
  clear hc_w0 hcm_w0
  clear hc_w1 hcm_w1
  have hs5 := hb5.size
  have hbb5 := hbb4.trans (hb5.mono hbb4.size)
  replace bx_a0 := (hb5.cell (cell_lt bx_a0)).trans bx_a0
  replace bx_a1 := (hb5.cell (cell_lt bx_a1)).trans bx_a1
  have HO_sca_5 := hid_ (own_below HO_sca_4.out hb5)
  clear HO_sca_4
  have HO_sd_5 := hid_ (own_below HO_sd.out hb5)
  clear HO_sd
  clear hb5
  have HO_w0 := hid_ ho_w0; clear ho_w0
  have HLT_w0 := hid_ (fun g e => (HO_w0.out.lt g e).2)
  have HO_w1 := hid_ ho_w1; clear ho_w1
  have HLT_w1 := hid_ (fun g e => (HO_w1.out.lt g e).2)
  obtain ⟨w6, hw6⟩ : ∃ x, w5.alloc (.cells #[.slice A_w0 ((flushC ⟨ca, mca, d⟩).L).length c_w0, .int .i64 (flushC ⟨ca, mca, d⟩).M] 29) = x := ⟨_, rfl⟩
  have hb6 : Below w5.heap.size w5 w6 := by rw [← hw6]; exact (Below.refl _ _).alloc (Nat.le_refl _) _
  have hz6 : w5.heap.size < w6.heap.size := by rw [← hw6]; simp
  have bx_w00 : w6.cell? ⟨w5.heap.size, 0, none⟩ = some (.slice A_w0 ((flushC ⟨ca, mca, d⟩).L).length c_w0) := by rw [← hw6]; simp [go_sem]
  have bx_w01 : w6.cell? ⟨w5.heap.size, 1, none⟩ = some (.int .i64 (flushC ⟨ca, mca, d⟩).M) := by rw [← hw6]; simp [go_sem]
  have hs6 := hb6.size
  have hbb6 := hbb5.trans (hb6.mono hbb5.size)
  replace bx_a0 := (hb6.cell (cell_lt bx_a0)).trans bx_a0
  replace bx_a1 := (hb6.cell (cell_lt bx_a1)).trans bx_a1
  have HO_sca_6 := hid_ (own_below HO_sca_5.out hb6)
  clear HO_sca_5
  have HO_sd_6 := hid_ (own_below HO_sd_5.out hb6)
  clear HO_sd_5
  have HO_w0_6 := hid_ (own_below HO_w0.out hb6)
  clear HO_w0
  have HO_w1_6 := hid_ (own_below HO_w1.out hb6)
  clear HO_w1
  clear hb6
  clear HO_sca_6 HLT_sca
  clear HO_sd_6 HLT_sd
  go_wp2_with fail
  clear hw6
  refine (toCache_any ca Aca nca cca mca w6 HNca.out hnsca (HRca.out.below hbb6)).mono ?_
  rintro e w7 ⟨A_xca, c_xca, rfl, hc_xca, hcm_xca, ho_xca, hb7⟩
  have HC_xca := hid_ hc_xca; clear hc_xca
  have HCM_xca := hid_ hcm_xca; clear hcm_xca
  have hs7 := hb7.size
  have hbb7 := hbb6.trans (hb7.mono hbb6.size)
  replace bx_a0 := (hb7.cell (cell_lt bx_a0)).trans bx_a0
  replace bx_a1 := (hb7.cell (cell_lt bx_a1)).trans bx_a1
  replace bx_w00 := (hb7.cell (cell_lt bx_w00)).trans bx_w00
  replace bx_w01 := (hb7.cell (cell_lt bx_w01)).trans bx_w01
  have HO_w0_7 := hid_ (own_below HO_w0_6.out hb7)
  clear HO_w0_6
  have HO_w1_7 := hid_ (own_below HO_w1_6.out hb7)
  clear HO_w1_6
  clear hb7
  have HO_xca := hid_ ho_xca; clear ho_xca
  have HLT_xca := hid_ (fun g e => (HO_xca.out.lt g e).2)
  obtain ⟨w8, hw8⟩ : ∃ x, w7.alloc (.cells #[.slice A_xca nca c_xca, .int .i64 mca] 29) = x := ⟨_, rfl⟩
  have hb8 : Below w7.heap.size w7 w8 := by rw [← hw8]; exact (Below.refl _ _).alloc (Nat.le_refl _) _
  have hz8 : w7.heap.size < w8.heap.size := by rw [← hw8]; simp
  have bx_xca0 : w8.cell? ⟨w7.heap.size, 0, none⟩ = some (.slice A_xca nca c_xca) := by rw [← hw8]; simp [go_sem]
  have bx_xca1 : w8.cell? ⟨w7.heap.size, 1, none⟩ = some (.int .i64 mca) := by rw [← hw8]; simp [go_sem]
  have hs8 := hb8.size
  have hbb8 := hbb7.trans (hb8.mono hbb7.size)
  replace bx_a0 := (hb8.cell (cell_lt bx_a0)).trans bx_a0
  replace bx_a1 := (hb8.cell (cell_lt bx_a1)).trans bx_a1
  replace bx_w00 := (hb8.cell (cell_lt bx_w00)).trans bx_w00
  replace bx_w01 := (hb8.cell (cell_lt bx_w01)).trans bx_w01
  have HO_w0_8 := hid_ (own_below HO_w0_7.out hb8)
  clear HO_w0_7
  have HO_w1_8 := hid_ (own_below HO_w1_7.out hb8)
  clear HO_w1_7
  have HO_xca_8 := hid_ (own_below HO_xca.out hb8)
  clear HO_xca
  clear hb8
  go_wp2_with fail
  clear hw8
  refine (toIntS_any d Ad nd cd w8 HNd.out hnsd (HRd.out.below hbb8)).mono ?_
  rintro e w9 ⟨A_xd, c_xd, rfl, hc_xd, hcm_xd, ho_xd, hb9⟩
  have HC_xd := hid_ hc_xd; clear hc_xd
  have HCM_xd := hid_ hcm_xd; clear hcm_xd
  have hs9 := hb9.size
  have hbb9 := hbb8.trans (hb9.mono hbb8.size)
  replace bx_a0 := (hb9.cell (cell_lt bx_a0)).trans bx_a0
  replace bx_a1 := (hb9.cell (cell_lt bx_a1)).trans bx_a1
  replace bx_w00 := (hb9.cell (cell_lt bx_w00)).trans bx_w00
  replace bx_w01 := (hb9.cell (cell_lt bx_w01)).trans bx_w01
  replace bx_xca0 := (hb9.cell (cell_lt bx_xca0)).trans bx_xca0
  replace bx_xca1 := (hb9.cell (cell_lt bx_xca1)).trans bx_xca1
  have HO_w0_9 := hid_ (own_below HO_w0_8.out hb9)
  clear HO_w0_8
  have HO_w1_9 := hid_ (own_below HO_w1_8.out hb9)
  clear HO_w1_8
  have HO_xca_9 := hid_ (own_below HO_xca_8.out hb9)
  clear HO_xca_8
  clear hb9
  have HO_xd := hid_ ho_xd; clear ho_xd
  have HLT_xd := hid_ (fun g e => (HO_xd.out.lt g e).2)
  go_wp2_with fail
  refine (implFlush_any ca A_xca nca c_xca mca d A_xd nd c_xd w9 HNca.out (by omega) HC_xca.out HCM_xca.out (own_rd HO_xca_9.out) HNd.out (by omega) HC_xd.out HCM_xd.out (own_rd HO_xd.out)).mono ?_
  rintro e w10 ⟨A_g0, c_g0, A_g1, c_g1, rfl, hc_g0, hcm_g0, hc_g1, hcm_g1, ho_g0, ho_g1, hb10⟩
  clear hc_g0 hcm_g0
  clear hc_g1 hcm_g1
  have hs10 := hb10.size
  have hbb10 := hbb9.trans (hb10.mono hbb9.size)
  replace bx_a0 := (hb10.cell (cell_lt bx_a0)).trans bx_a0
  replace bx_a1 := (hb10.cell (cell_lt bx_a1)).trans bx_a1
  replace bx_w00 := (hb10.cell (cell_lt bx_w00)).trans bx_w00
  replace bx_w01 := (hb10.cell (cell_lt bx_w01)).trans bx_w01
  replace bx_xca0 := (hb10.cell (cell_lt bx_xca0)).trans bx_xca0
  replace bx_xca1 := (hb10.cell (cell_lt bx_xca1)).trans bx_xca1
  have HO_w0_10 := hid_ (own_below HO_w0_9.out hb10)
  clear HO_w0_9
  have HO_w1_10 := hid_ (own_below HO_w1_9.out hb10)
  clear HO_w1_9
  have HO_xca_10 := hid_ (own_below HO_xca_9.out hb10)
  clear HO_xca_9
  have HO_xd_10 := hid_ (own_below HO_xd.out hb10)
  clear HO_xd
  clear hb10
  have HO_g0 := hid_ ho_g0; clear ho_g0
  have HLT_g0 := hid_ (fun g e => (HO_g0.out.lt g e).2)
  have HO_g1 := hid_ ho_g1; clear ho_g1
  have HLT_g1 := hid_ (fun g e => (HO_g1.out.lt g e).2)
  obtain ⟨w11, hw11⟩ : ∃ x, w10.alloc (.cells #[.slice A_g0 ((flushC ⟨ca, mca, d⟩).L).length c_g0, .int .i64 (flushC ⟨ca, mca, d⟩).M] 29) = x := ⟨_, rfl⟩
  have hb11 : Below w10.heap.size w10 w11 := by rw [← hw11]; exact (Below.refl _ _).alloc (Nat.le_refl _) _
  have hz11 : w10.heap.size < w11.heap.size := by rw [← hw11]; simp
  have bx_g00 : w11.cell? ⟨w10.heap.size, 0, none⟩ = some (.slice A_g0 ((flushC ⟨ca, mca, d⟩).L).length c_g0) := by rw [← hw11]; simp [go_sem]
  have bx_g01 : w11.cell? ⟨w10.heap.size, 1, none⟩ = some (.int .i64 (flushC ⟨ca, mca, d⟩).M) := by rw [← hw11]; simp [go_sem]
  have hs11 := hb11.size
  have hbb11 := hbb10.trans (hb11.mono hbb10.size)
  replace bx_a0 := (hb11.cell (cell_lt bx_a0)).trans bx_a0
  replace bx_a1 := (hb11.cell (cell_lt bx_a1)).trans bx_a1
  replace bx_w00 := (hb11.cell (cell_lt bx_w00)).trans bx_w00
  replace bx_w01 := (hb11.cell (cell_lt bx_w01)).trans bx_w01
  replace bx_xca0 := (hb11.cell (cell_lt bx_xca0)).trans bx_xca0
  replace bx_xca1 := (hb11.cell (cell_lt bx_xca1)).trans bx_xca1
  have HO_w0_11 := hid_ (own_below HO_w0_10.out hb11)
  clear HO_w0_10
  have HO_w1_11 := hid_ (own_below HO_w1_10.out hb11)
  clear HO_w1_10
  have HO_xca_11 := hid_ (own_below HO_xca_10.out hb11)
  clear HO_xca_10
  have HO_xd_11 := hid_ (own_below HO_xd_10.out hb11)
  clear HO_xd_10
  have HO_g0_11 := hid_ (own_below HO_g0.out hb11)
  clear HO_g0
  have HO_g1_11 := hid_ (own_below HO_g1.out hb11)
  clear HO_g1
  clear hb11
  go_wp2_with fail
  clear hw11
  refine (eqCache_any ((flushC ⟨ca, mca, d⟩).L) ((flushC ⟨ca, mca, d⟩).L) A_g0 A_w0 ((flushC ⟨ca, mca, d⟩).L).length ((flushC ⟨ca, mca, d⟩).L).length c_g0 c_w0 (flushC ⟨ca, mca, d⟩).M (flushC ⟨ca, mca, d⟩).M w11 rfl rfl HLm0.out HLm0.out (own_rd HO_g0_11.out) (own_rd HO_w0_11.out)).mono ?_
  rintro e w12 ⟨rfl, hb12⟩
  have hs12 := hb12.size
  have hbb12 := hbb11.trans (hb12.mono hbb11.size)
  replace bx_a0 := (hb12.cell (cell_lt bx_a0)).trans bx_a0
  replace bx_a1 := (hb12.cell (cell_lt bx_a1)).trans bx_a1
  replace bx_w00 := (hb12.cell (cell_lt bx_w00)).trans bx_w00
  replace bx_w01 := (hb12.cell (cell_lt bx_w01)).trans bx_w01
  replace bx_xca0 := (hb12.cell (cell_lt bx_xca0)).trans bx_xca0
  replace bx_xca1 := (hb12.cell (cell_lt bx_xca1)).trans bx_xca1
  replace bx_g00 := (hb12.cell (cell_lt bx_g00)).trans bx_g00
  replace bx_g01 := (hb12.cell (cell_lt bx_g01)).trans bx_g01
  have HO_w0_12 := hid_ (own_below HO_w0_11.out hb12)
  clear HO_w0_11
  have HO_w1_12 := hid_ (own_below HO_w1_11.out hb12)
  clear HO_w1_11
  have HO_xca_12 := hid_ (own_below HO_xca_11.out hb12)
  clear HO_xca_11
  have HO_xd_12 := hid_ (own_below HO_xd_11.out hb12)
  clear HO_xd_11
  have HO_g0_12 := hid_ (own_below HO_g0_11.out hb12)
  clear HO_g0_11
  have HO_g1_12 := hid_ (own_below HO_g1_11.out hb12)
  clear HO_g1_11
  clear hb12
  go_wp2_with fail
  refine (eqIntS_any ((flushC ⟨ca, mca, d⟩).D) ((flushC ⟨ca, mca, d⟩).D) A_g1 A_w1 ((flushC ⟨ca, mca, d⟩).D).length ((flushC ⟨ca, mca, d⟩).D).length c_g1 c_w1 w12 rfl rfl HLm1.out HLm1.out (own_rd HO_g1_12.out) (own_rd HO_w1_12.out)).mono ?_
  rintro e w13 ⟨rfl, hb13⟩
  have hs13 := hb13.size
  have hbb13 := hbb12.trans (hb13.mono hbb12.size)
  replace bx_a0 := (hb13.cell (cell_lt bx_a0)).trans bx_a0
  replace bx_a1 := (hb13.cell (cell_lt bx_a1)).trans bx_a1
  replace bx_w00 := (hb13.cell (cell_lt bx_w00)).trans bx_w00
  replace bx_w01 := (hb13.cell (cell_lt bx_w01)).trans bx_w01
  replace bx_xca0 := (hb13.cell (cell_lt bx_xca0)).trans bx_xca0
  replace bx_xca1 := (hb13.cell (cell_lt bx_xca1)).trans bx_xca1
  replace bx_g00 := (hb13.cell (cell_lt bx_g00)).trans bx_g00
  replace bx_g01 := (hb13.cell (cell_lt bx_g01)).trans bx_g01
  have HO_w0_13 := hid_ (own_below HO_w0_12.out hb13)
  clear HO_w0_12
  have HO_w1_13 := hid_ (own_below HO_w1_12.out hb13)
  clear HO_w1_12
  have HO_xca_13 := hid_ (own_below HO_xca_12.out hb13)
  clear HO_xca_12
  have HO_xd_13 := hid_ (own_below HO_xd_12.out hb13)
  clear HO_xd_12
  have HO_g0_13 := hid_ (own_below HO_g0_12.out hb13)
  clear HO_g0_12
  have HO_g1_13 := hid_ (own_below HO_g1_12.out hb13)
  clear HO_g1_12
  clear hb13
  go_wp2_with fail
  refine wp_region_semT (semW (fun j => if j = 8 then .val (.pointer (some ⟨w7.heap.size, 0, none⟩)) else if j = 2 then .val (.pointer (some ⟨w.heap.size, 0, none⟩)) else if j = 53 then .val (.agg #[.slice A_xca nca c_xca, .int .i64 mca]) else if j = 54 then .val (.agg #[.slice Aca nca cca, .int .i64 mca]) else .str 3 nca (lnC ca) mca)) [2, 8] 133 3 (by kernel_rfl) (by kernel_rfl) rfl ?_ trivial ?_ ?_
  · intro j hj
    have hj' : j = 2 ∨ j = 8 := by simpa using hj
    rcases hj' with rfl | rfl <;> rfl
  · simp only [List.take_succ_cons, List.take_zero, HAll]
    refine ⟨hopw_val _ rfl rfl rfl rfl (fun a w0 h hb => run_ldc a.eval _ _ _ _ _ w0 _ (h 8 (by kernel_rfl)) ((hb.cell (cell_lt (show (w13.drew).cell? _ = _ from bx_xca0))).trans bx_xca0) ((hb.cell (cell_lt (show (w13.drew).cell? _ = _ from bx_xca1))).trans bx_xca1)),
      hopw_val _ rfl rfl rfl rfl (fun a w0 h hb => run_ldca a.eval _ _ _ _ _ w0 _ (h 2 (by kernel_rfl)) ((hb.cell (cell_lt (show (w13.drew).cell? _ = _ from bx_a0))).trans bx_a0) ((hb.cell (cell_lt (show (w13.drew).cell? _ = _ from bx_a1))).trans bx_a1)),
      hopw_call rfl rfl rfl (fun a w0 h hb => ⟨_, _, run_toc a.eval _ _ _ _ _ w0 _ _ rfl (h 54 (by kernel_rfl)), (toCache_any ca Aca nca cca mca w0 HNca.out hnsca ((HRca.out.below hbb13).below (show Below w13.heap.size w13 w0 from ((Below.refl _ _).drew).trans hb))).mono fun e w3 hh => by obtain ⟨A9, c9, h1, h2, h3, h4, h5⟩ := hh; exact ⟨_, h1, ⟨A9, c9, rfl, h2, h3, own_rd h4⟩, h5⟩⟩), trivial⟩
  · intro a' w14 haf
    have hex := haf.ex rfl [53, 54, 55] (by kernel_rfl)
    have hb14 : Below w13.heap.size w13 w14 := ((Below.refl _ _).drew).trans (show Below w13.drew.heap.size w13.drew w14 from haf.r)
    clear haf
    simp only [SemEx, Act.put, List.setIfInBounds_toArray, List.set_cons_succ, List.set_cons_zero] at hex
    obtain ⟨x0_, t0_, x1_, -, x2_, t2_, rfl⟩ := hex
    obtain rfl : x0_ = .agg #[.slice A_xca nca c_xca, .int .i64 mca] := t0_
    obtain ⟨A_e14, c_e14, rfl, -, hcme14, hre14⟩ : ∃ A c, x2_ = .agg #[.slice A nca c, .int .i64 mca] ∧ nca ≤ c ∧ c ≤ maxLen ∧ Rd w14 3 A nca (lnC ca) := t2_
    simp only [List.drop_succ_cons, List.drop_zero]
    have HRE14 := hid_ hre14; clear hre14 hcme14
    have hs14 := hb14.size
    have hbb14 := hbb13.trans (hb14.mono hbb13.size)
    replace bx_a0 := (hb14.cell (cell_lt bx_a0)).trans bx_a0
    replace bx_a1 := (hb14.cell (cell_lt bx_a1)).trans bx_a1
    replace bx_w00 := (hb14.cell (cell_lt bx_w00)).trans bx_w00
    replace bx_w01 := (hb14.cell (cell_lt bx_w01)).trans bx_w01
    replace bx_xca0 := (hb14.cell (cell_lt bx_xca0)).trans bx_xca0
    replace bx_xca1 := (hb14.cell (cell_lt bx_xca1)).trans bx_xca1
    replace bx_g00 := (hb14.cell (cell_lt bx_g00)).trans bx_g00
    replace bx_g01 := (hb14.cell (cell_lt bx_g01)).trans bx_g01
    have HO_w0_14 := hid_ (own_below HO_w0_13.out hb14)
    clear HO_w0_13
    have HO_w1_14 := hid_ (own_below HO_w1_13.out hb14)
    clear HO_w1_13
    have HO_xca_14 := hid_ (own_below HO_xca_13.out hb14)
    clear HO_xca_13
    have HO_xd_14 := hid_ (own_below HO_xd_13.out hb14)
    clear HO_xd_13
    have HO_g0_14 := hid_ (own_below HO_g0_13.out hb14)
    clear HO_g0_13
    have HO_g1_14 := hid_ (own_below HO_g1_13.out hb14)
    clear HO_g1_13
    clear hb14
    go_wp2_with fail
    refine (eqCache_any ca ca A_xca A_e14 nca nca c_xca c_e14 mca mca w14 HNca.out HNca.out HMca.out HMca.out (own_rd HO_xca_14.out) HRE14.out).mono ?_
    rintro e w15 ⟨rfl, hb15⟩
    have hs15 := hb15.size
    have hbb15 := hbb14.trans (hb15.mono hbb14.size)
    replace bx_a0 := (hb15.cell (cell_lt bx_a0)).trans bx_a0
    replace bx_a1 := (hb15.cell (cell_lt bx_a1)).trans bx_a1
    replace bx_w00 := (hb15.cell (cell_lt bx_w00)).trans bx_w00
    replace bx_w01 := (hb15.cell (cell_lt bx_w01)).trans bx_w01
    replace bx_xca0 := (hb15.cell (cell_lt bx_xca0)).trans bx_xca0
    replace bx_xca1 := (hb15.cell (cell_lt bx_xca1)).trans bx_xca1
    replace bx_g00 := (hb15.cell (cell_lt bx_g00)).trans bx_g00
    replace bx_g01 := (hb15.cell (cell_lt bx_g01)).trans bx_g01
    have HO_w0_15 := hid_ (own_below HO_w0_14.out hb15)
    clear HO_w0_14
    have HO_w1_15 := hid_ (own_below HO_w1_14.out hb15)
    clear HO_w1_14
    have HO_xca_15 := hid_ (own_below HO_xca_14.out hb15)
    clear HO_xca_14
    have HO_xd_15 := hid_ (own_below HO_xd_14.out hb15)
    clear HO_xd_14
    have HO_g0_15 := hid_ (own_below HO_g0_14.out hb15)
    clear HO_g0_14
    have HO_g1_15 := hid_ (own_below HO_g1_14.out hb15)
    clear HO_g1_14
    clear hb15
    go_wp2_with fail
    refine (toIntS_any d Ad nd cd w15 HNd.out hnsd (HRd.out.below hbb15)).mono ?_
    rintro e w16 ⟨A_yd, c_yd, rfl, hc_yd, hcm_yd, ho_yd, hb16⟩
    have HC_yd := hid_ hc_yd; clear hc_yd
    have HCM_yd := hid_ hcm_yd; clear hcm_yd
    have hs16 := hb16.size
    have hbb16 := hbb15.trans (hb16.mono hbb15.size)
    replace bx_a0 := (hb16.cell (cell_lt bx_a0)).trans bx_a0
    replace bx_a1 := (hb16.cell (cell_lt bx_a1)).trans bx_a1
    replace bx_w00 := (hb16.cell (cell_lt bx_w00)).trans bx_w00
    replace bx_w01 := (hb16.cell (cell_lt bx_w01)).trans bx_w01
    replace bx_xca0 := (hb16.cell (cell_lt bx_xca0)).trans bx_xca0
    replace bx_xca1 := (hb16.cell (cell_lt bx_xca1)).trans bx_xca1
    replace bx_g00 := (hb16.cell (cell_lt bx_g00)).trans bx_g00
    replace bx_g01 := (hb16.cell (cell_lt bx_g01)).trans bx_g01
    have HO_w0_16 := hid_ (own_below HO_w0_15.out hb16)
    clear HO_w0_15
    have HO_w1_16 := hid_ (own_below HO_w1_15.out hb16)
    clear HO_w1_15
    have HO_xca_16 := hid_ (own_below HO_xca_15.out hb16)
    clear HO_xca_15
    have HO_xd_16 := hid_ (own_below HO_xd_15.out hb16)
    clear HO_xd_15
    have HO_g0_16 := hid_ (own_below HO_g0_15.out hb16)
    clear HO_g0_15
    have HO_g1_16 := hid_ (own_below HO_g1_15.out hb16)
    clear HO_g1_15
    clear hb16
    have HO_yd := hid_ ho_yd; clear ho_yd
    have HLT_yd := hid_ (fun g e => (HO_yd.out.lt g e).2)
    go_wp2_with fail
    refine (eqIntS_any d d A_xd A_yd nd nd c_xd c_yd w16 HNd.out HNd.out HMd.out HMd.out (own_rd HO_xd_16.out) (own_rd HO_yd.out)).mono ?_
    rintro e w17 ⟨rfl, hb17⟩
    have hs17 := hb17.size
    have hbb17 := hbb16.trans (hb17.mono hbb16.size)
    replace bx_a0 := (hb17.cell (cell_lt bx_a0)).trans bx_a0
    replace bx_a1 := (hb17.cell (cell_lt bx_a1)).trans bx_a1
    replace bx_w00 := (hb17.cell (cell_lt bx_w00)).trans bx_w00
    replace bx_w01 := (hb17.cell (cell_lt bx_w01)).trans bx_w01
    replace bx_xca0 := (hb17.cell (cell_lt bx_xca0)).trans bx_xca0
    replace bx_xca1 := (hb17.cell (cell_lt bx_xca1)).trans bx_xca1
    replace bx_g00 := (hb17.cell (cell_lt bx_g00)).trans bx_g00
    replace bx_g01 := (hb17.cell (cell_lt bx_g01)).trans bx_g01
    have HO_w0_17 := hid_ (own_below HO_w0_16.out hb17)
    clear HO_w0_16
    have HO_w1_17 := hid_ (own_below HO_w1_16.out hb17)
    clear HO_w1_16
    have HO_xca_17 := hid_ (own_below HO_xca_16.out hb17)
    clear HO_xca_16
    have HO_xd_17 := hid_ (own_below HO_xd_16.out hb17)
    clear HO_xd_16
    have HO_g0_17 := hid_ (own_below HO_g0_16.out hb17)
    clear HO_g0_16
    have HO_g1_17 := hid_ (own_below HO_g1_16.out hb17)
    clear HO_g1_16
    have HO_yd_17 := hid_ (own_below HO_yd.out hb17)
    clear HO_yd
    clear hb17
    clear HO_yd_17 HLT_yd
    go_wp2_with fail
    refine (markCache_any A_xca nca c_xca _ mca 1 _ w17 (by omega) (by omega) (by omega) HO_xca_17.out).mono ?_
    rintro e w18 ⟨rfl, ho_m18, hg18⟩
    have hs18 := hg18.size
    replace bx_a0 := hg18.cell bx_a0 (fun e => by have h1 := (HO_xca_17.out.lt _ e.symm).1; have h2 := HLT_xca.out _ e.symm; simp only at h1 h2; omega)
    replace bx_a1 := hg18.cell bx_a1 (fun e => by have h1 := (HO_xca_17.out.lt _ e.symm).1; have h2 := HLT_xca.out _ e.symm; simp only at h1 h2; omega)
    replace bx_w00 := hg18.cell bx_w00 (fun e => by have h1 := (HO_xca_17.out.lt _ e.symm).1; have h2 := HLT_xca.out _ e.symm; simp only at h1 h2; omega)
    replace bx_w01 := hg18.cell bx_w01 (fun e => by have h1 := (HO_xca_17.out.lt _ e.symm).1; have h2 := HLT_xca.out _ e.symm; simp only at h1 h2; omega)
    replace bx_xca0 := hg18.cell bx_xca0 (fun e => by have h1 := (HO_xca_17.out.lt _ e.symm).1; have h2 := HLT_xca.out _ e.symm; simp only at h1 h2; omega)
    replace bx_xca1 := hg18.cell bx_xca1 (fun e => by have h1 := (HO_xca_17.out.lt _ e.symm).1; have h2 := HLT_xca.out _ e.symm; simp only at h1 h2; omega)
    replace bx_g00 := hg18.cell bx_g00 (fun e => by have h1 := (HO_xca_17.out.lt _ e.symm).1; have h2 := HLT_xca.out _ e.symm; simp only at h1 h2; omega)
    replace bx_g01 := hg18.cell bx_g01 (fun e => by have h1 := (HO_xca_17.out.lt _ e.symm).1; have h2 := HLT_xca.out _ e.symm; simp only at h1 h2; omega)
    have HG18 := hid_ hg18; clear hg18
    have hbb18 := hbb17.grown HG18.out hbb17.size (fun g e => by have := (HO_xca_17.out.lt g e).1; omega)
    have HO_w0_18 := hid_ (own_mark_older HO_w0_17.out HLT_w0.out HO_xca_17.out (by omega) HG18.out)
    have HO_w1_18 := hid_ (own_other HO_w1_17.out HO_xca_17.out (by decide) HG18.out)
    have HO_xd_18 := hid_ (own_other HO_xd_17.out HO_xca_17.out (by decide) HG18.out)
    have HO_g0_18 := hid_ (own_mark_newer HO_g0_17.out HLT_xca.out (by omega) HG18.out)
    have HO_g1_18 := hid_ (own_other HO_g1_17.out HO_xca_17.out (by decide) HG18.out)
    clear HO_w0_17
    clear HO_w1_17
    clear HO_xca_17
    clear HO_xd_17
    clear HO_g0_17
    clear HO_g1_17
    have HO_xca_18 := hid_ ho_m18; clear ho_m18
    go_wp2_with fail
    refine (markIntS_any A_xd nd c_xd _ (1 + (nca : Nat) * 3) _ w18 (by omega) (by omega) (by omega) HO_xd_18.out).mono ?_
    rintro e w19 ⟨rfl, ho_m19, hg19⟩
    have hs19 := hg19.size
    replace bx_a0 := hg19.cell bx_a0 (fun e => by have h1 := (HO_xd_18.out.lt _ e.symm).1; have h2 := HLT_xd.out _ e.symm; simp only at h1 h2; omega)
    replace bx_a1 := hg19.cell bx_a1 (fun e => by have h1 := (HO_xd_18.out.lt _ e.symm).1; have h2 := HLT_xd.out _ e.symm; simp only at h1 h2; omega)
    replace bx_w00 := hg19.cell bx_w00 (fun e => by have h1 := (HO_xd_18.out.lt _ e.symm).1; have h2 := HLT_xd.out _ e.symm; simp only at h1 h2; omega)
    replace bx_w01 := hg19.cell bx_w01 (fun e => by have h1 := (HO_xd_18.out.lt _ e.symm).1; have h2 := HLT_xd.out _ e.symm; simp only at h1 h2; omega)
    replace bx_xca0 := hg19.cell bx_xca0 (fun e => by have h1 := (HO_xd_18.out.lt _ e.symm).1; have h2 := HLT_xd.out _ e.symm; simp only at h1 h2; omega)
    replace bx_xca1 := hg19.cell bx_xca1 (fun e => by have h1 := (HO_xd_18.out.lt _ e.symm).1; have h2 := HLT_xd.out _ e.symm; simp only at h1 h2; omega)
    replace bx_g00 := hg19.cell bx_g00 (fun e => by have h1 := (HO_xd_18.out.lt _ e.symm).1; have h2 := HLT_xd.out _ e.symm; simp only at h1 h2; omega)
    replace bx_g01 := hg19.cell bx_g01 (fun e => by have h1 := (HO_xd_18.out.lt _ e.symm).1; have h2 := HLT_xd.out _ e.symm; simp only at h1 h2; omega)
    have HG19 := hid_ hg19; clear hg19
    have hbb19 := hbb18.grown HG19.out hbb18.size (fun g e => by have := (HO_xd_18.out.lt g e).1; omega)
    have HO_w0_19 := hid_ (own_other HO_w0_18.out HO_xd_18.out (by decide) HG19.out)
    have HO_w1_19 := hid_ (own_mark_older HO_w1_18.out HLT_w1.out HO_xd_18.out (by omega) HG19.out)
    have HO_xca_19 := hid_ (own_other HO_xca_18.out HO_xd_18.out (by decide) HG19.out)
    have HO_g0_19 := hid_ (own_other HO_g0_18.out HO_xd_18.out (by decide) HG19.out)
    have HO_g1_19 := hid_ (own_mark_newer HO_g1_18.out HLT_xd.out (by omega) HG19.out)
    clear HO_w0_18
    clear HO_w1_18
    clear HO_xca_18
    clear HO_xd_18
    clear HO_g0_18
    clear HO_g1_18
    have HO_xd_19 := hid_ ho_m19; clear ho_m19
    go_wp2_with fail
    refine (eqCache_any ((flushC ⟨ca, mca, d⟩).L) ((flushC ⟨ca, mca, d⟩).L) A_g0 A_w0 ((flushC ⟨ca, mca, d⟩).L).length ((flushC ⟨ca, mca, d⟩).L).length c_g0 c_w0 (flushC ⟨ca, mca, d⟩).M (flushC ⟨ca, mca, d⟩).M w19 rfl rfl HLm0.out HLm0.out (own_rd HO_g0_19.out) (own_rd HO_w0_19.out)).mono ?_
    rintro e w20 ⟨rfl, hb20⟩
    have hs20 := hb20.size
    have hbb20 := hbb19.trans (hb20.mono hbb19.size)
    replace bx_a0 := (hb20.cell (cell_lt bx_a0)).trans bx_a0
    replace bx_a1 := (hb20.cell (cell_lt bx_a1)).trans bx_a1
    replace bx_w00 := (hb20.cell (cell_lt bx_w00)).trans bx_w00
    replace bx_w01 := (hb20.cell (cell_lt bx_w01)).trans bx_w01
    replace bx_xca0 := (hb20.cell (cell_lt bx_xca0)).trans bx_xca0
    replace bx_xca1 := (hb20.cell (cell_lt bx_xca1)).trans bx_xca1
    replace bx_g00 := (hb20.cell (cell_lt bx_g00)).trans bx_g00
    replace bx_g01 := (hb20.cell (cell_lt bx_g01)).trans bx_g01
    have HO_w0_20 := hid_ (own_below HO_w0_19.out hb20)
    clear HO_w0_19
    have HO_w1_20 := hid_ (own_below HO_w1_19.out hb20)
    clear HO_w1_19
    have HO_xca_20 := hid_ (own_below HO_xca_19.out hb20)
    clear HO_xca_19
    have HO_xd_20 := hid_ (own_below HO_xd_19.out hb20)
    clear HO_xd_19
    have HO_g0_20 := hid_ (own_below HO_g0_19.out hb20)
    clear HO_g0_19
    have HO_g1_20 := hid_ (own_below HO_g1_19.out hb20)
    clear HO_g1_19
    clear hb20
    go_wp2_with fail
    refine (eqIntS_any ((flushC ⟨ca, mca, d⟩).D) ((flushC ⟨ca, mca, d⟩).D) A_g1 A_w1 ((flushC ⟨ca, mca, d⟩).D).length ((flushC ⟨ca, mca, d⟩).D).length c_g1 c_w1 w20 rfl rfl HLm1.out HLm1.out (own_rd HO_g1_20.out) (own_rd HO_w1_20.out)).mono ?_
    rintro e w21 ⟨rfl, hb21⟩
    have hs21 := hb21.size
    have hbb21 := hbb20.trans (hb21.mono hbb20.size)
    replace bx_a0 := (hb21.cell (cell_lt bx_a0)).trans bx_a0
    replace bx_a1 := (hb21.cell (cell_lt bx_a1)).trans bx_a1
    replace bx_w00 := (hb21.cell (cell_lt bx_w00)).trans bx_w00
    replace bx_w01 := (hb21.cell (cell_lt bx_w01)).trans bx_w01
    replace bx_xca0 := (hb21.cell (cell_lt bx_xca0)).trans bx_xca0
    replace bx_xca1 := (hb21.cell (cell_lt bx_xca1)).trans bx_xca1
    replace bx_g00 := (hb21.cell (cell_lt bx_g00)).trans bx_g00
    replace bx_g01 := (hb21.cell (cell_lt bx_g01)).trans bx_g01
    have HO_w0_21 := hid_ (own_below HO_w0_20.out hb21)
    clear HO_w0_20
    have HO_w1_21 := hid_ (own_below HO_w1_20.out hb21)
    clear HO_w1_20
    have HO_xca_21 := hid_ (own_below HO_xca_20.out hb21)
    clear HO_xca_20
    have HO_xd_21 := hid_ (own_below HO_xd_20.out hb21)
    clear HO_xd_20
    have HO_g0_21 := hid_ (own_below HO_g0_20.out hb21)
    clear HO_g0_20
    have HO_g1_21 := hid_ (own_below HO_g1_20.out hb21)
    clear HO_g1_20
    clear hb21
    clear HO_xca_21 HLT_xca
    clear bx_xca0 bx_xca1
    clear HO_xd_21 HLT_xd
    go_wp2_with fail
    refine (markCache_any A_g0 ((flushC ⟨ca, mca, d⟩).L).length c_g0 _ (flushC ⟨ca, mca, d⟩).M 1 _ w21 (by omega) (by omega) (by omega) HO_g0_21.out).mono ?_
    rintro e w22 ⟨rfl, ho_m22, hg22⟩
    have hs22 := hg22.size
    replace bx_a0 := hg22.cell bx_a0 (fun e => by have h1 := (HO_g0_21.out.lt _ e.symm).1; have h2 := HLT_g0.out _ e.symm; simp only at h1 h2; omega)
    replace bx_a1 := hg22.cell bx_a1 (fun e => by have h1 := (HO_g0_21.out.lt _ e.symm).1; have h2 := HLT_g0.out _ e.symm; simp only at h1 h2; omega)
    replace bx_w00 := hg22.cell bx_w00 (fun e => by have h1 := (HO_g0_21.out.lt _ e.symm).1; have h2 := HLT_g0.out _ e.symm; simp only at h1 h2; omega)
    replace bx_w01 := hg22.cell bx_w01 (fun e => by have h1 := (HO_g0_21.out.lt _ e.symm).1; have h2 := HLT_g0.out _ e.symm; simp only at h1 h2; omega)
    replace bx_g00 := hg22.cell bx_g00 (fun e => by have h1 := (HO_g0_21.out.lt _ e.symm).1; have h2 := HLT_g0.out _ e.symm; simp only at h1 h2; omega)
    replace bx_g01 := hg22.cell bx_g01 (fun e => by have h1 := (HO_g0_21.out.lt _ e.symm).1; have h2 := HLT_g0.out _ e.symm; simp only at h1 h2; omega)
    have HG22 := hid_ hg22; clear hg22
    have hbb22 := hbb21.grown HG22.out hbb21.size (fun g e => by have := (HO_g0_21.out.lt g e).1; omega)
    have HO_w0_22 := hid_ (own_mark_older HO_w0_21.out HLT_w0.out HO_g0_21.out (by omega) HG22.out)
    have HO_w1_22 := hid_ (own_other HO_w1_21.out HO_g0_21.out (by decide) HG22.out)
    have HO_g1_22 := hid_ (own_other HO_g1_21.out HO_g0_21.out (by decide) HG22.out)
    clear HO_w0_21
    clear HO_w1_21
    clear HO_g0_21
    clear HO_g1_21
    have HO_g0_22 := hid_ ho_m22; clear ho_m22
    go_wp2_with fail
    refine (markIntS_any A_g1 ((flushC ⟨ca, mca, d⟩).D).length c_g1 _ (1 + (((flushC ⟨ca, mca, d⟩).L).length : Nat) * 3) _ w22 (by omega) (by omega) (by omega) HO_g1_22.out).mono ?_
    rintro e w23 ⟨rfl, ho_m23, hg23⟩
    have hs23 := hg23.size
    replace bx_a0 := hg23.cell bx_a0 (fun e => by have h1 := (HO_g1_22.out.lt _ e.symm).1; have h2 := HLT_g1.out _ e.symm; simp only at h1 h2; omega)
    replace bx_a1 := hg23.cell bx_a1 (fun e => by have h1 := (HO_g1_22.out.lt _ e.symm).1; have h2 := HLT_g1.out _ e.symm; simp only at h1 h2; omega)
    replace bx_w00 := hg23.cell bx_w00 (fun e => by have h1 := (HO_g1_22.out.lt _ e.symm).1; have h2 := HLT_g1.out _ e.symm; simp only at h1 h2; omega)
    replace bx_w01 := hg23.cell bx_w01 (fun e => by have h1 := (HO_g1_22.out.lt _ e.symm).1; have h2 := HLT_g1.out _ e.symm; simp only at h1 h2; omega)
    replace bx_g00 := hg23.cell bx_g00 (fun e => by have h1 := (HO_g1_22.out.lt _ e.symm).1; have h2 := HLT_g1.out _ e.symm; simp only at h1 h2; omega)
    replace bx_g01 := hg23.cell bx_g01 (fun e => by have h1 := (HO_g1_22.out.lt _ e.symm).1; have h2 := HLT_g1.out _ e.symm; simp only at h1 h2; omega)
    have HG23 := hid_ hg23; clear hg23
    have hbb23 := hbb22.grown HG23.out hbb22.size (fun g e => by have := (HO_g1_22.out.lt g e).1; omega)
    have HO_w0_23 := hid_ (own_other HO_w0_22.out HO_g1_22.out (by decide) HG23.out)
    have HO_w1_23 := hid_ (own_mark_older HO_w1_22.out HLT_w1.out HO_g1_22.out (by omega) HG23.out)
    have HO_g0_23 := hid_ (own_other HO_g0_22.out HO_g1_22.out (by decide) HG23.out)
    clear HO_w0_22
    clear HO_w1_22
    clear HO_g0_22
    clear HO_g1_22
    have HO_g1_23 := hid_ ho_m23; clear ho_m23
    go_wp2_with fail
    refine (heldCache_any A_g0 ((flushC ⟨ca, mca, d⟩).L).length c_g0 (flushC ⟨ca, mca, d⟩).M 1 w23 (by omega) (by omega) (by omega) (own_rd HO_g0_23.out)).mono ?_
    rintro e w24 ⟨rfl, hb24⟩
    have hs24 := hb24.size
    have hbb24 := hbb23.trans (hb24.mono hbb23.size)
    replace bx_a0 := (hb24.cell (cell_lt bx_a0)).trans bx_a0
    replace bx_a1 := (hb24.cell (cell_lt bx_a1)).trans bx_a1
    replace bx_w00 := (hb24.cell (cell_lt bx_w00)).trans bx_w00
    replace bx_w01 := (hb24.cell (cell_lt bx_w01)).trans bx_w01
    replace bx_g00 := (hb24.cell (cell_lt bx_g00)).trans bx_g00
    replace bx_g01 := (hb24.cell (cell_lt bx_g01)).trans bx_g01
    have HO_w0_24 := hid_ (own_below HO_w0_23.out hb24)
    clear HO_w0_23
    have HO_w1_24 := hid_ (own_below HO_w1_23.out hb24)
    clear HO_w1_23
    have HO_g0_24 := hid_ (own_below HO_g0_23.out hb24)
    clear HO_g0_23
    have HO_g1_24 := hid_ (own_below HO_g1_23.out hb24)
    clear HO_g1_23
    clear hb24
    go_wp2_with fail
    refine (heldIntS_any A_g1 ((flushC ⟨ca, mca, d⟩).D).length c_g1 (1 + (((flushC ⟨ca, mca, d⟩).L).length : Nat) * 3) w24 (by omega) (by omega) (by omega) (own_rd HO_g1_24.out)).mono ?_
    rintro e w' ⟨rfl, rfl⟩
    go_wp2_with fail
    refine (toCache_any ca Aca nca cca mca w24 HNca.out hnsca (HRca.out.below hbb24)).mono ?_
    rintro e w25 ⟨A_zca, c_zca, rfl, hc_zca, hcm_zca, ho_zca, hb25⟩
    have HC_zca := hid_ hc_zca; clear hc_zca
    have HCM_zca := hid_ hcm_zca; clear hcm_zca
    have hs25 := hb25.size
    have hbb25 := hbb24.trans (hb25.mono hbb24.size)
    replace bx_a0 := (hb25.cell (cell_lt bx_a0)).trans bx_a0
    replace bx_a1 := (hb25.cell (cell_lt bx_a1)).trans bx_a1
    replace bx_w00 := (hb25.cell (cell_lt bx_w00)).trans bx_w00
    replace bx_w01 := (hb25.cell (cell_lt bx_w01)).trans bx_w01
    replace bx_g00 := (hb25.cell (cell_lt bx_g00)).trans bx_g00
    replace bx_g01 := (hb25.cell (cell_lt bx_g01)).trans bx_g01
    have HO_w0_25 := hid_ (own_below HO_w0_24.out hb25)
    clear HO_w0_24
    have HO_w1_25 := hid_ (own_below HO_w1_24.out hb25)
    clear HO_w1_24
    have HO_g0_25 := hid_ (own_below HO_g0_24.out hb25)
    clear HO_g0_24
    have HO_g1_25 := hid_ (own_below HO_g1_24.out hb25)
    clear HO_g1_24
    clear hb25
    have HO_zca := hid_ ho_zca; clear ho_zca
    have HLT_zca := hid_ (fun g e => (HO_zca.out.lt g e).2)
    go_wp2_with fail
    refine (toIntS_any d Ad nd cd w25 HNd.out hnsd (HRd.out.below hbb25)).mono ?_
    rintro e w26 ⟨A_zd, c_zd, rfl, hc_zd, hcm_zd, ho_zd, hb26⟩
    have HC_zd := hid_ hc_zd; clear hc_zd
    have HCM_zd := hid_ hcm_zd; clear hcm_zd
    have hs26 := hb26.size
    have hbb26 := hbb25.trans (hb26.mono hbb25.size)
    replace bx_a0 := (hb26.cell (cell_lt bx_a0)).trans bx_a0
    replace bx_a1 := (hb26.cell (cell_lt bx_a1)).trans bx_a1
    replace bx_w00 := (hb26.cell (cell_lt bx_w00)).trans bx_w00
    replace bx_w01 := (hb26.cell (cell_lt bx_w01)).trans bx_w01
    replace bx_g00 := (hb26.cell (cell_lt bx_g00)).trans bx_g00
    replace bx_g01 := (hb26.cell (cell_lt bx_g01)).trans bx_g01
    have HO_w0_26 := hid_ (own_below HO_w0_25.out hb26)
    clear HO_w0_25
    have HO_w1_26 := hid_ (own_below HO_w1_25.out hb26)
    clear HO_w1_25
    have HO_g0_26 := hid_ (own_below HO_g0_25.out hb26)
    clear HO_g0_25
    have HO_g1_26 := hid_ (own_below HO_g1_25.out hb26)
    clear HO_g1_25
    have HO_zca_26 := hid_ (own_below HO_zca.out hb26)
    clear HO_zca
    clear hb26
    have HO_zd := hid_ ho_zd; clear ho_zd
    have HLT_zd := hid_ (fun g e => (HO_zd.out.lt g e).2)
    go_wp2_with fail
    refine (implFlush_any ca A_zca nca c_zca mca d A_zd nd c_zd w26 HNca.out (by omega) HC_zca.out HCM_zca.out (own_rd HO_zca_26.out) HNd.out (by omega) HC_zd.out HCM_zd.out (own_rd HO_zd.out)).mono ?_
    rintro e w27 ⟨A_h0, c_h0, A_h1, c_h1, rfl, hc_h0, hcm_h0, hc_h1, hcm_h1, ho_h0, ho_h1, hb27⟩
    clear hc_h0 hcm_h0
    clear hc_h1 hcm_h1
    have hs27 := hb27.size
    have hbb27 := hbb26.trans (hb27.mono hbb26.size)
    replace bx_a0 := (hb27.cell (cell_lt bx_a0)).trans bx_a0
    replace bx_a1 := (hb27.cell (cell_lt bx_a1)).trans bx_a1
    replace bx_w00 := (hb27.cell (cell_lt bx_w00)).trans bx_w00
    replace bx_w01 := (hb27.cell (cell_lt bx_w01)).trans bx_w01
    replace bx_g00 := (hb27.cell (cell_lt bx_g00)).trans bx_g00
    replace bx_g01 := (hb27.cell (cell_lt bx_g01)).trans bx_g01
    have HO_w0_27 := hid_ (own_below HO_w0_26.out hb27)
    clear HO_w0_26
    have HO_w1_27 := hid_ (own_below HO_w1_26.out hb27)
    clear HO_w1_26
    have HO_g0_27 := hid_ (own_below HO_g0_26.out hb27)
    clear HO_g0_26
    have HO_g1_27 := hid_ (own_below HO_g1_26.out hb27)
    clear HO_g1_26
    have HO_zca_27 := hid_ (own_below HO_zca_26.out hb27)
    clear HO_zca_26
    have HO_zd_27 := hid_ (own_below HO_zd.out hb27)
    clear HO_zd
    clear hb27
    have HO_h0 := hid_ ho_h0; clear ho_h0
    have HLT_h0 := hid_ (fun g e => (HO_h0.out.lt g e).2)
    have HO_h1 := hid_ ho_h1; clear ho_h1
    have HLT_h1 := hid_ (fun g e => (HO_h1.out.lt g e).2)
    obtain ⟨w28, hw28⟩ : ∃ x, w27.alloc (.cells #[.slice A_h0 ((flushC ⟨ca, mca, d⟩).L).length c_h0, .int .i64 (flushC ⟨ca, mca, d⟩).M] 29) = x := ⟨_, rfl⟩
    have hb28 : Below w27.heap.size w27 w28 := by rw [← hw28]; exact (Below.refl _ _).alloc (Nat.le_refl _) _
    have hz28 : w27.heap.size < w28.heap.size := by rw [← hw28]; simp
    have bx_h00 : w28.cell? ⟨w27.heap.size, 0, none⟩ = some (.slice A_h0 ((flushC ⟨ca, mca, d⟩).L).length c_h0) := by rw [← hw28]; simp [go_sem]
    have bx_h01 : w28.cell? ⟨w27.heap.size, 1, none⟩ = some (.int .i64 (flushC ⟨ca, mca, d⟩).M) := by rw [← hw28]; simp [go_sem]
    have hs28 := hb28.size
    have hbb28 := hbb27.trans (hb28.mono hbb27.size)
    replace bx_a0 := (hb28.cell (cell_lt bx_a0)).trans bx_a0
    replace bx_a1 := (hb28.cell (cell_lt bx_a1)).trans bx_a1
    replace bx_w00 := (hb28.cell (cell_lt bx_w00)).trans bx_w00
    replace bx_w01 := (hb28.cell (cell_lt bx_w01)).trans bx_w01
    replace bx_g00 := (hb28.cell (cell_lt bx_g00)).trans bx_g00
    replace bx_g01 := (hb28.cell (cell_lt bx_g01)).trans bx_g01
    have HO_w0_28 := hid_ (own_below HO_w0_27.out hb28)
    clear HO_w0_27
    have HO_w1_28 := hid_ (own_below HO_w1_27.out hb28)
    clear HO_w1_27
    have HO_g0_28 := hid_ (own_below HO_g0_27.out hb28)
    clear HO_g0_27
    have HO_g1_28 := hid_ (own_below HO_g1_27.out hb28)
    clear HO_g1_27
    have HO_zca_28 := hid_ (own_below HO_zca_27.out hb28)
    clear HO_zca_27
    have HO_zd_28 := hid_ (own_below HO_zd_27.out hb28)
    clear HO_zd_27
    have HO_h0_28 := hid_ (own_below HO_h0.out hb28)
    clear HO_h0
    have HO_h1_28 := hid_ (own_below HO_h1.out hb28)
    clear HO_h1
    clear hb28
    go_wp2_with fail
    clear hw28
    refine (eqCache_any ((flushC ⟨ca, mca, d⟩).L) ((flushC ⟨ca, mca, d⟩).L) A_h0 A_w0 ((flushC ⟨ca, mca, d⟩).L).length ((flushC ⟨ca, mca, d⟩).L).length c_h0 c_w0 (flushC ⟨ca, mca, d⟩).M (flushC ⟨ca, mca, d⟩).M w28 rfl rfl HLm0.out HLm0.out (own_rd HO_h0_28.out) (own_rd HO_w0_28.out)).mono ?_
    rintro e w29 ⟨rfl, hb29⟩
    have hs29 := hb29.size
    have hbb29 := hbb28.trans (hb29.mono hbb28.size)
    replace bx_a0 := (hb29.cell (cell_lt bx_a0)).trans bx_a0
    replace bx_a1 := (hb29.cell (cell_lt bx_a1)).trans bx_a1
    replace bx_w00 := (hb29.cell (cell_lt bx_w00)).trans bx_w00
    replace bx_w01 := (hb29.cell (cell_lt bx_w01)).trans bx_w01
    replace bx_g00 := (hb29.cell (cell_lt bx_g00)).trans bx_g00
    replace bx_g01 := (hb29.cell (cell_lt bx_g01)).trans bx_g01
    replace bx_h00 := (hb29.cell (cell_lt bx_h00)).trans bx_h00
    replace bx_h01 := (hb29.cell (cell_lt bx_h01)).trans bx_h01
    have HO_w0_29 := hid_ (own_below HO_w0_28.out hb29)
    clear HO_w0_28
    have HO_w1_29 := hid_ (own_below HO_w1_28.out hb29)
    clear HO_w1_28
    have HO_g0_29 := hid_ (own_below HO_g0_28.out hb29)
    clear HO_g0_28
    have HO_g1_29 := hid_ (own_below HO_g1_28.out hb29)
    clear HO_g1_28
    have HO_zca_29 := hid_ (own_below HO_zca_28.out hb29)
    clear HO_zca_28
    have HO_zd_29 := hid_ (own_below HO_zd_28.out hb29)
    clear HO_zd_28
    have HO_h0_29 := hid_ (own_below HO_h0_28.out hb29)
    clear HO_h0_28
    have HO_h1_29 := hid_ (own_below HO_h1_28.out hb29)
    clear HO_h1_28
    clear hb29
    go_wp2_with fail
    refine (eqIntS_any ((flushC ⟨ca, mca, d⟩).D) ((flushC ⟨ca, mca, d⟩).D) A_h1 A_w1 ((flushC ⟨ca, mca, d⟩).D).length ((flushC ⟨ca, mca, d⟩).D).length c_h1 c_w1 w29 rfl rfl HLm1.out HLm1.out (own_rd HO_h1_29.out) (own_rd HO_w1_29.out)).mono ?_
    rintro e w30 ⟨rfl, hb30⟩
    have hs30 := hb30.size
    have hbb30 := hbb29.trans (hb30.mono hbb29.size)
    replace bx_a0 := (hb30.cell (cell_lt bx_a0)).trans bx_a0
    replace bx_a1 := (hb30.cell (cell_lt bx_a1)).trans bx_a1
    replace bx_w00 := (hb30.cell (cell_lt bx_w00)).trans bx_w00
    replace bx_w01 := (hb30.cell (cell_lt bx_w01)).trans bx_w01
    replace bx_g00 := (hb30.cell (cell_lt bx_g00)).trans bx_g00
    replace bx_g01 := (hb30.cell (cell_lt bx_g01)).trans bx_g01
    replace bx_h00 := (hb30.cell (cell_lt bx_h00)).trans bx_h00
    replace bx_h01 := (hb30.cell (cell_lt bx_h01)).trans bx_h01
    have HO_w0_30 := hid_ (own_below HO_w0_29.out hb30)
    clear HO_w0_29
    have HO_w1_30 := hid_ (own_below HO_w1_29.out hb30)
    clear HO_w1_29
    have HO_g0_30 := hid_ (own_below HO_g0_29.out hb30)
    clear HO_g0_29
    have HO_g1_30 := hid_ (own_below HO_g1_29.out hb30)
    clear HO_g1_29
    have HO_zca_30 := hid_ (own_below HO_zca_29.out hb30)
    clear HO_zca_29
    have HO_zd_30 := hid_ (own_below HO_zd_29.out hb30)
    clear HO_zd_29
    have HO_h0_30 := hid_ (own_below HO_h0_29.out hb30)
    clear HO_h0_29
    have HO_h1_30 := hid_ (own_below HO_h1_29.out hb30)
    clear HO_h1_29
    clear hb30
    go_wp2_with fail
    refine (heldCache_any A_g0 ((flushC ⟨ca, mca, d⟩).L).length c_g0 (flushC ⟨ca, mca, d⟩).M 1 w30 (by omega) (by omega) (by omega) (own_rd HO_g0_30.out)).mono ?_
    rintro e w31 ⟨rfl, hb31⟩
    have hs31 := hb31.size
    have hbb31 := hbb30.trans (hb31.mono hbb30.size)
    replace bx_a0 := (hb31.cell (cell_lt bx_a0)).trans bx_a0
    replace bx_a1 := (hb31.cell (cell_lt bx_a1)).trans bx_a1
    replace bx_w00 := (hb31.cell (cell_lt bx_w00)).trans bx_w00
    replace bx_w01 := (hb31.cell (cell_lt bx_w01)).trans bx_w01
    replace bx_g00 := (hb31.cell (cell_lt bx_g00)).trans bx_g00
    replace bx_g01 := (hb31.cell (cell_lt bx_g01)).trans bx_g01
    replace bx_h00 := (hb31.cell (cell_lt bx_h00)).trans bx_h00
    replace bx_h01 := (hb31.cell (cell_lt bx_h01)).trans bx_h01
    have HO_w0_31 := hid_ (own_below HO_w0_30.out hb31)
    clear HO_w0_30
    have HO_w1_31 := hid_ (own_below HO_w1_30.out hb31)
    clear HO_w1_30
    have HO_g0_31 := hid_ (own_below HO_g0_30.out hb31)
    clear HO_g0_30
    have HO_g1_31 := hid_ (own_below HO_g1_30.out hb31)
    clear HO_g1_30
    have HO_zca_31 := hid_ (own_below HO_zca_30.out hb31)
    clear HO_zca_30
    have HO_zd_31 := hid_ (own_below HO_zd_30.out hb31)
    clear HO_zd_30
    have HO_h0_31 := hid_ (own_below HO_h0_30.out hb31)
    clear HO_h0_30
    have HO_h1_31 := hid_ (own_below HO_h1_30.out hb31)
    clear HO_h1_30
    clear hb31
    go_wp2_with fail
    refine (heldIntS_any A_g1 ((flushC ⟨ca, mca, d⟩).D).length c_g1 (1 + (((flushC ⟨ca, mca, d⟩).L).length : Nat) * 3) w31 (by omega) (by omega) (by omega) (own_rd HO_g1_31.out)).mono ?_
    rintro e w' ⟨rfl, rfl⟩
    go_wp2
    go_returns
    exact ⟨rfl, hbb31⟩


set_option maxRecDepth 100000 in
theorem fnExactCacheFlush_lifted (os : Os) (started : os.Started) (H : Type) (enc : TypeId × Value → H) :
    ReturnsInHanded {} Try.checked os 10 .any (Rows.fnExactCacheFlushSpec.pre6 enc Try.prog Try.f10 Rows.fnExactCacheFlushRow.domain false) (Rows.fnExactCacheFlushSpec.post enc Try.prog Try.f10 false true false false) := by
  refine returnsInHanded_of_change (C := Try.checked) own_ started (by kernel_rfl) Try.func10
    (ChangeSpec.witness6 (enc := enc) (C := Try.checked) false ⟨#[], #[.agg #[.slice none 0 0, .int .i64 0], .slice none 0 0], []⟩ 8 (by kernel_rfl) (by kernel_rfl) (by kernel_rfl) (by kernel_rfl)) ?_
  intro W base args ds gs before hval0 hW hcnd _
  have hval : ∀ (j : Nat) t v, Try.f10.params[j]? = some t → args[j]? = some v → Value.okWide Try.prog W .any base t v := hval0
  have hW' := hW
  obtain ⟨p, q, hA0, hV, rfl, hfz, hnd⟩ := hW
  have hA : DataW.TrodAll enc Try.prog W 0 (fun _ => true) true Try.f10.params.toList args.toList ds p := hA0
  rw [Try.params10] at hA hval
  obtain ⟨v0, vs0, d0, ds0, p0, q0, hargs, rfl, rfl, h0, r0⟩ := trodAll_cons hA
  obtain ⟨v1, vs1, d1, ds1, p1, q1, rfl, rfl, rfl, h1, r1⟩ := trodAll_cons r0
  obtain ⟨rfl, rfl, rfl⟩ := trodAll_nil r1
  obtain rfl : args = #[v0, v1] := by cases args; simp_all
  obtain ⟨rfl, rfl⟩ := trodVars_none hV
  have k0 := h0
  have lt0 : ∀ x ∈ p0, x.block < W.heap.size := by obtain ⟨m, hm⟩ := k0; exact DataW.trod_lt m _ _ _ hm
  obtain ⟨z0, a0, len0, cap0, m0, rfl, e0, lc0, cm0, w0, rd0, wm0⟩ := open_cache (hval 0 24 v0 rfl rfl) h0
  obtain ⟨a1, len1, cap1, rfl⟩ := okWide_slice Try.underlying40 (hval 1 40 v1 rfl rfl)
  have k1 := h1
  have lt1 : ∀ x ∈ p1, x.block < W.heap.size := by obtain ⟨m, hm⟩ := k1; exact DataW.trod_lt m _ _ _ hm
  obtain ⟨z1, e1, lc1, cm1, w1, rd1⟩ := open_ints_ h1
  clear hA0 hval0
  refine (exactFlush_walk z0 a0 len0 cap0 m0 z1 a1 len1 cap1 W e0 lc0 cm0 w0 rd0 wm0 e1 lc1 cm1 w1 rd1).mono fun e W' ⟨he, bel⟩ => ?_
  subst he
  exact ⟨_, rfl, _, _, _, [], _, [], hW', trodAll_mk1 (shut_bool Try.underlying4 _), (trodAll_cons_mk (Below.trod laidOut_ (by kernel_rfl) (of_decide_eq_true (by kernel_rfl)) k0 bel lt0) (trodAll_cons_mk (Below.trod laidOut_ (by kernel_rfl) (of_decide_eq_true (by kernel_rfl)) k1 bel lt1) trodAll_mk0)), rfl, bel.frame _, fun h => by cases h⟩

theorem fnExactCacheFlush_holds : Rows.FnExactCacheFlushSaid :=
  OpenClaim.holds_of_wide 10 Try.f10 rfl rfl rfl rfl rfl rfl rfl ⟨rfl, rfl, rfl, rfl, rfl⟩ rfl rfl rfl rfl rfl (by kernel_rfl) Try.func10 (by kernel_rfl)
    (of_decide_eq_true (by kernel_rfl)) (by unfold Func.isWrapper; first | (rw [if_pos (by decide +kernel)]; kernel_rfl) | (rw [if_neg (by decide +kernel)]; exact ⟨rfl, rfl⟩))
    (fun os started H enc _ => fnExactCacheFlush_lifted os started H enc)

set_option maxHeartbeats 4000000 in
theorem exactWrite_walk (ca : List Ln) (Aca : Option Addr) (nca cca : Nat) (mca : Int) (d : List Int) (Ad : Option Addr) (nd cd : Nat) (a : Int) (v : Int) (w : World) (hnca : ca.length = nca) (hcca : nca ≤ cca) (hcmca : cca ≤ maxLen) (qca : ∀ f ∈ ca, I64 f.at_ ∧ I64 f.value) (hRca : Rd w 3 Aca nca (lnC ca)) (qmca : I64 mca) (hnd : d.length = nd) (hcd : nd ≤ cd) (hcmd : cd ≤ maxLen) (qd : ∀ f ∈ d, I64 f) (hRd : Rd w 1 Ad nd (intC d)) (qa : I64 a) (qv : I64 v) :
    Calls Try.prog 12 #[.agg #[.slice Aca nca cca, .int .i64 mca], .slice Ad nd cd, .int .i64 a, .int .i64 v] w fun e w' => e = .returned (.bool true) ∧ Below w.heap.size w w' := by
  clear qca
  clear qd
  clear qa
  clear qv
  clear qmca
  have HMca := hid_ (Nat.le_trans hcca hcmca)
  have hmca : nca ≤ 9223372036854775807 := by have := HMca.out; unfold maxLen at this; omega
  clear hcca hcmca
  have HRca := hid_ hRca; clear hRca
  have HNca := hid_ hnca; clear hnca
  have HMd := hid_ (Nat.le_trans hcd hcmd)
  have hmd : nd ≤ 9223372036854775807 := by have := HMd.out; unfold maxLen at this; omega
  clear hcd hcmd
  have HRd := hid_ hRd; clear hRd
  have HNd := hid_ hnd; clear hnd
  by_cases hbigd : (1048576 : Int) < (nd : Int)
  · go_enter Try.func12, Try.ntmps12
    go_wp2
    go_returns
    exact ⟨rfl, (Below.refl _ _).alloc (Nat.le_refl _) _⟩
  have hnsd : nd ≤ 1048576 := by omega
  by_cases hbigca : (1048576 : Int) < (nca : Int)
  · go_enter Try.func12, Try.ntmps12
    go_wp2_with (go_at_call 15; refine (szCa_any Aca nca cca mca 1048576 _ HMca.out (by omega) (by omega)).mono ?_; rw [if_pos hbigca]; rintro e w1 ⟨rfl, hb1⟩)
    go_returns
    exact ⟨rfl, ((Below.refl _ _).alloc (Nat.le_refl _) _).trans (hb1.mono (by simp))⟩
  have hnsca : nca ≤ 1048576 := by omega
  have hl0 : ((writeC ⟨ca, mca, d⟩ a v).L).length ≤ 64 := (writeC_small _ _ _).1
  have HLm0 := hid_ (show ((writeC ⟨ca, mca, d⟩ a v).L).length ≤ maxLen by unfold maxLen; omega)
  have hl1 : ((writeC ⟨ca, mca, d⟩ a v).D).length ≤ 64 := (writeC_small _ _ _).2
  have HLm1 := hid_ (show ((writeC ⟨ca, mca, d⟩ a v).D).length ≤ maxLen by unfold maxLen; omega)
  obtain ⟨w1, hw1⟩ : ∃ x, w.alloc (.cells #[.slice Aca nca cca, .int .i64 mca] 24) = x := ⟨_, rfl⟩
  have hb1 : Below w.heap.size w w1 := by rw [← hw1]; exact (Below.refl _ _).alloc (Nat.le_refl _) _
  have hz1 : w.heap.size < w1.heap.size := by rw [← hw1]; simp
  have bx_a0 : w1.cell? ⟨w.heap.size, 0, none⟩ = some (.slice Aca nca cca) := by rw [← hw1]; simp [go_sem]
  have bx_a1 : w1.cell? ⟨w.heap.size, 1, none⟩ = some (.int .i64 mca) := by rw [← hw1]; simp [go_sem]
  have hs1 := hb1.size
  have hbb1 := (Below.refl w.heap.size w).trans (hb1.mono (Below.refl w.heap.size w).size)
  clear hb1
  go_enter Try.func12, Try.ntmps12
  go_wp2_with fail
  clear hw1
  refine (szCa_any Aca nca cca mca 1048576 _ HMca.out (by omega) (by omega)).mono ?_
  rw [if_neg (show ¬ (1048576 : Int) < (nca : Int) by omega)]
  rintro e w2 ⟨rfl, hb2⟩
  have hs2 := hb2.size
  have hbb2 := hbb1.trans (hb2.mono hbb1.size)
  replace bx_a0 := (hb2.cell (cell_lt bx_a0)).trans bx_a0
  replace bx_a1 := (hb2.cell (cell_lt bx_a1)).trans bx_a1
  clear hb2
  go_wp2_with fail
  refine (toCache_any ca Aca nca cca mca w2 HNca.out hnsca (HRca.out.below hbb2)).mono ?_
  rintro e w3 ⟨A_sca, c_sca, rfl, hc_sca, hcm_sca, ho_sca, hb3⟩
  have HC_sca := hid_ hc_sca; clear hc_sca
  have HCM_sca := hid_ hcm_sca; clear hcm_sca
  have hs3 := hb3.size
  have hbb3 := hbb2.trans (hb3.mono hbb2.size)
  replace bx_a0 := (hb3.cell (cell_lt bx_a0)).trans bx_a0
  replace bx_a1 := (hb3.cell (cell_lt bx_a1)).trans bx_a1
  clear hb3
  have HO_sca := hid_ ho_sca; clear ho_sca
  have HLT_sca := hid_ (fun g e => (HO_sca.out.lt g e).2)
  go_wp2_with fail
  refine (toIntS_any d Ad nd cd w3 HNd.out hnsd (HRd.out.below hbb3)).mono ?_
  rintro e w4 ⟨A_sd, c_sd, rfl, hc_sd, hcm_sd, ho_sd, hb4⟩
  have HC_sd := hid_ hc_sd; clear hc_sd
  have HCM_sd := hid_ hcm_sd; clear hcm_sd
  have hs4 := hb4.size
  have hbb4 := hbb3.trans (hb4.mono hbb3.size)
  replace bx_a0 := (hb4.cell (cell_lt bx_a0)).trans bx_a0
  replace bx_a1 := (hb4.cell (cell_lt bx_a1)).trans bx_a1
  have HO_sca_4 := hid_ (own_below HO_sca.out hb4)
  clear HO_sca
  clear hb4
  have HO_sd := hid_ ho_sd; clear ho_sd
  have HLT_sd := hid_ (fun g e => (HO_sd.out.lt g e).2)
  go_wp2_with fail
  refine (specWrite_any ca A_sca nca c_sca mca d A_sd nd c_sd a v w4 HNca.out (by omega) (own_rd HO_sca_4.out) HNd.out (by omega) (own_rd HO_sd.out)).mono ?_
  rintro e w5 ⟨A_w0, c_w0, A_w1, c_w1, rfl, hc_w0, hcm_w0, hc_w1, hcm_w1, ho_w0, ho_w1, hb5⟩
  clear hc_w0 hcm_w0
  clear hc_w1 hcm_w1
  have hs5 := hb5.size
  have hbb5 := hbb4.trans (hb5.mono hbb4.size)
  replace bx_a0 := (hb5.cell (cell_lt bx_a0)).trans bx_a0
  replace bx_a1 := (hb5.cell (cell_lt bx_a1)).trans bx_a1
  have HO_sca_5 := hid_ (own_below HO_sca_4.out hb5)
  clear HO_sca_4
  have HO_sd_5 := hid_ (own_below HO_sd.out hb5)
  clear HO_sd
  clear hb5
  have HO_w0 := hid_ ho_w0; clear ho_w0
  have HLT_w0 := hid_ (fun g e => (HO_w0.out.lt g e).2)
  have HO_w1 := hid_ ho_w1; clear ho_w1
  have HLT_w1 := hid_ (fun g e => (HO_w1.out.lt g e).2)
  obtain ⟨w6, hw6⟩ : ∃ x, w5.alloc (.cells #[.slice A_w0 ((writeC ⟨ca, mca, d⟩ a v).L).length c_w0, .int .i64 (writeC ⟨ca, mca, d⟩ a v).M] 29) = x := ⟨_, rfl⟩
  have hb6 : Below w5.heap.size w5 w6 := by rw [← hw6]; exact (Below.refl _ _).alloc (Nat.le_refl _) _
  have hz6 : w5.heap.size < w6.heap.size := by rw [← hw6]; simp
  have bx_w00 : w6.cell? ⟨w5.heap.size, 0, none⟩ = some (.slice A_w0 ((writeC ⟨ca, mca, d⟩ a v).L).length c_w0) := by rw [← hw6]; simp [go_sem]
  have bx_w01 : w6.cell? ⟨w5.heap.size, 1, none⟩ = some (.int .i64 (writeC ⟨ca, mca, d⟩ a v).M) := by rw [← hw6]; simp [go_sem]
  have hs6 := hb6.size
  have hbb6 := hbb5.trans (hb6.mono hbb5.size)
  replace bx_a0 := (hb6.cell (cell_lt bx_a0)).trans bx_a0
  replace bx_a1 := (hb6.cell (cell_lt bx_a1)).trans bx_a1
  have HO_sca_6 := hid_ (own_below HO_sca_5.out hb6)
  clear HO_sca_5
  have HO_sd_6 := hid_ (own_below HO_sd_5.out hb6)
  clear HO_sd_5
  have HO_w0_6 := hid_ (own_below HO_w0.out hb6)
  clear HO_w0
  have HO_w1_6 := hid_ (own_below HO_w1.out hb6)
  clear HO_w1
  clear hb6
  clear HO_sca_6 HLT_sca
  clear HO_sd_6 HLT_sd
  go_wp2_with fail
  clear hw6
  refine (toCache_any ca Aca nca cca mca w6 HNca.out hnsca (HRca.out.below hbb6)).mono ?_
  rintro e w7 ⟨A_xca, c_xca, rfl, hc_xca, hcm_xca, ho_xca, hb7⟩
  have HC_xca := hid_ hc_xca; clear hc_xca
  have HCM_xca := hid_ hcm_xca; clear hcm_xca
  have hs7 := hb7.size
  have hbb7 := hbb6.trans (hb7.mono hbb6.size)
  replace bx_a0 := (hb7.cell (cell_lt bx_a0)).trans bx_a0
  replace bx_a1 := (hb7.cell (cell_lt bx_a1)).trans bx_a1
  replace bx_w00 := (hb7.cell (cell_lt bx_w00)).trans bx_w00
  replace bx_w01 := (hb7.cell (cell_lt bx_w01)).trans bx_w01
  have HO_w0_7 := hid_ (own_below HO_w0_6.out hb7)
  clear HO_w0_6
  have HO_w1_7 := hid_ (own_below HO_w1_6.out hb7)
  clear HO_w1_6
  clear hb7
  have HO_xca := hid_ ho_xca; clear ho_xca
  have HLT_xca := hid_ (fun g e => (HO_xca.out.lt g e).2)
  obtain ⟨w8, hw8⟩ : ∃ x, w7.alloc (.cells #[.slice A_xca nca c_xca, .int .i64 mca] 29) = x := ⟨_, rfl⟩
  have hb8 : Below w7.heap.size w7 w8 := by rw [← hw8]; exact (Below.refl _ _).alloc (Nat.le_refl _) _
  have hz8 : w7.heap.size < w8.heap.size := by rw [← hw8]; simp
  have bx_xca0 : w8.cell? ⟨w7.heap.size, 0, none⟩ = some (.slice A_xca nca c_xca) := by rw [← hw8]; simp [go_sem]
  have bx_xca1 : w8.cell? ⟨w7.heap.size, 1, none⟩ = some (.int .i64 mca) := by rw [← hw8]; simp [go_sem]
  have hs8 := hb8.size
  have hbb8 := hbb7.trans (hb8.mono hbb7.size)
  replace bx_a0 := (hb8.cell (cell_lt bx_a0)).trans bx_a0
  replace bx_a1 := (hb8.cell (cell_lt bx_a1)).trans bx_a1
  replace bx_w00 := (hb8.cell (cell_lt bx_w00)).trans bx_w00
  replace bx_w01 := (hb8.cell (cell_lt bx_w01)).trans bx_w01
  have HO_w0_8 := hid_ (own_below HO_w0_7.out hb8)
  clear HO_w0_7
  have HO_w1_8 := hid_ (own_below HO_w1_7.out hb8)
  clear HO_w1_7
  have HO_xca_8 := hid_ (own_below HO_xca.out hb8)
  clear HO_xca
  clear hb8
  go_wp2_with fail
  clear hw8
  refine (toIntS_any d Ad nd cd w8 HNd.out hnsd (HRd.out.below hbb8)).mono ?_
  rintro e w9 ⟨A_xd, c_xd, rfl, hc_xd, hcm_xd, ho_xd, hb9⟩
  have HC_xd := hid_ hc_xd; clear hc_xd
  have HCM_xd := hid_ hcm_xd; clear hcm_xd
  have hs9 := hb9.size
  have hbb9 := hbb8.trans (hb9.mono hbb8.size)
  replace bx_a0 := (hb9.cell (cell_lt bx_a0)).trans bx_a0
  replace bx_a1 := (hb9.cell (cell_lt bx_a1)).trans bx_a1
  replace bx_w00 := (hb9.cell (cell_lt bx_w00)).trans bx_w00
  replace bx_w01 := (hb9.cell (cell_lt bx_w01)).trans bx_w01
  replace bx_xca0 := (hb9.cell (cell_lt bx_xca0)).trans bx_xca0
  replace bx_xca1 := (hb9.cell (cell_lt bx_xca1)).trans bx_xca1
  have HO_w0_9 := hid_ (own_below HO_w0_8.out hb9)
  clear HO_w0_8
  have HO_w1_9 := hid_ (own_below HO_w1_8.out hb9)
  clear HO_w1_8
  have HO_xca_9 := hid_ (own_below HO_xca_8.out hb9)
  clear HO_xca_8
  clear hb9
  have HO_xd := hid_ ho_xd; clear ho_xd
  have HLT_xd := hid_ (fun g e => (HO_xd.out.lt g e).2)
  go_wp2_with fail
  refine (implWrite_any ca A_xca nca c_xca mca d A_xd nd c_xd a v w9 HNca.out (by omega) HC_xca.out HCM_xca.out (own_rd HO_xca_9.out) HNd.out (by omega) HC_xd.out HCM_xd.out (own_rd HO_xd.out)).mono ?_
  rintro e w10 ⟨A_g0, c_g0, A_g1, c_g1, rfl, hc_g0, hcm_g0, hc_g1, hcm_g1, ho_g0, ho_g1, hb10⟩
  clear hc_g0 hcm_g0
  clear hc_g1 hcm_g1
  have hs10 := hb10.size
  have hbb10 := hbb9.trans (hb10.mono hbb9.size)
  replace bx_a0 := (hb10.cell (cell_lt bx_a0)).trans bx_a0
  replace bx_a1 := (hb10.cell (cell_lt bx_a1)).trans bx_a1
  replace bx_w00 := (hb10.cell (cell_lt bx_w00)).trans bx_w00
  replace bx_w01 := (hb10.cell (cell_lt bx_w01)).trans bx_w01
  replace bx_xca0 := (hb10.cell (cell_lt bx_xca0)).trans bx_xca0
  replace bx_xca1 := (hb10.cell (cell_lt bx_xca1)).trans bx_xca1
  have HO_w0_10 := hid_ (own_below HO_w0_9.out hb10)
  clear HO_w0_9
  have HO_w1_10 := hid_ (own_below HO_w1_9.out hb10)
  clear HO_w1_9
  have HO_xca_10 := hid_ (own_below HO_xca_9.out hb10)
  clear HO_xca_9
  have HO_xd_10 := hid_ (own_below HO_xd.out hb10)
  clear HO_xd
  clear hb10
  have HO_g0 := hid_ ho_g0; clear ho_g0
  have HLT_g0 := hid_ (fun g e => (HO_g0.out.lt g e).2)
  have HO_g1 := hid_ ho_g1; clear ho_g1
  have HLT_g1 := hid_ (fun g e => (HO_g1.out.lt g e).2)
  obtain ⟨w11, hw11⟩ : ∃ x, w10.alloc (.cells #[.slice A_g0 ((writeC ⟨ca, mca, d⟩ a v).L).length c_g0, .int .i64 (writeC ⟨ca, mca, d⟩ a v).M] 29) = x := ⟨_, rfl⟩
  have hb11 : Below w10.heap.size w10 w11 := by rw [← hw11]; exact (Below.refl _ _).alloc (Nat.le_refl _) _
  have hz11 : w10.heap.size < w11.heap.size := by rw [← hw11]; simp
  have bx_g00 : w11.cell? ⟨w10.heap.size, 0, none⟩ = some (.slice A_g0 ((writeC ⟨ca, mca, d⟩ a v).L).length c_g0) := by rw [← hw11]; simp [go_sem]
  have bx_g01 : w11.cell? ⟨w10.heap.size, 1, none⟩ = some (.int .i64 (writeC ⟨ca, mca, d⟩ a v).M) := by rw [← hw11]; simp [go_sem]
  have hs11 := hb11.size
  have hbb11 := hbb10.trans (hb11.mono hbb10.size)
  replace bx_a0 := (hb11.cell (cell_lt bx_a0)).trans bx_a0
  replace bx_a1 := (hb11.cell (cell_lt bx_a1)).trans bx_a1
  replace bx_w00 := (hb11.cell (cell_lt bx_w00)).trans bx_w00
  replace bx_w01 := (hb11.cell (cell_lt bx_w01)).trans bx_w01
  replace bx_xca0 := (hb11.cell (cell_lt bx_xca0)).trans bx_xca0
  replace bx_xca1 := (hb11.cell (cell_lt bx_xca1)).trans bx_xca1
  have HO_w0_11 := hid_ (own_below HO_w0_10.out hb11)
  clear HO_w0_10
  have HO_w1_11 := hid_ (own_below HO_w1_10.out hb11)
  clear HO_w1_10
  have HO_xca_11 := hid_ (own_below HO_xca_10.out hb11)
  clear HO_xca_10
  have HO_xd_11 := hid_ (own_below HO_xd_10.out hb11)
  clear HO_xd_10
  have HO_g0_11 := hid_ (own_below HO_g0.out hb11)
  clear HO_g0
  have HO_g1_11 := hid_ (own_below HO_g1.out hb11)
  clear HO_g1
  clear hb11
  go_wp2_with fail
  clear hw11
  refine (eqCache_any ((writeC ⟨ca, mca, d⟩ a v).L) ((writeC ⟨ca, mca, d⟩ a v).L) A_g0 A_w0 ((writeC ⟨ca, mca, d⟩ a v).L).length ((writeC ⟨ca, mca, d⟩ a v).L).length c_g0 c_w0 (writeC ⟨ca, mca, d⟩ a v).M (writeC ⟨ca, mca, d⟩ a v).M w11 rfl rfl HLm0.out HLm0.out (own_rd HO_g0_11.out) (own_rd HO_w0_11.out)).mono ?_
  rintro e w12 ⟨rfl, hb12⟩
  have hs12 := hb12.size
  have hbb12 := hbb11.trans (hb12.mono hbb11.size)
  replace bx_a0 := (hb12.cell (cell_lt bx_a0)).trans bx_a0
  replace bx_a1 := (hb12.cell (cell_lt bx_a1)).trans bx_a1
  replace bx_w00 := (hb12.cell (cell_lt bx_w00)).trans bx_w00
  replace bx_w01 := (hb12.cell (cell_lt bx_w01)).trans bx_w01
  replace bx_xca0 := (hb12.cell (cell_lt bx_xca0)).trans bx_xca0
  replace bx_xca1 := (hb12.cell (cell_lt bx_xca1)).trans bx_xca1
  replace bx_g00 := (hb12.cell (cell_lt bx_g00)).trans bx_g00
  replace bx_g01 := (hb12.cell (cell_lt bx_g01)).trans bx_g01
  have HO_w0_12 := hid_ (own_below HO_w0_11.out hb12)
  clear HO_w0_11
  have HO_w1_12 := hid_ (own_below HO_w1_11.out hb12)
  clear HO_w1_11
  have HO_xca_12 := hid_ (own_below HO_xca_11.out hb12)
  clear HO_xca_11
  have HO_xd_12 := hid_ (own_below HO_xd_11.out hb12)
  clear HO_xd_11
  have HO_g0_12 := hid_ (own_below HO_g0_11.out hb12)
  clear HO_g0_11
  have HO_g1_12 := hid_ (own_below HO_g1_11.out hb12)
  clear HO_g1_11
  clear hb12
  go_wp2_with fail
  refine (eqIntS_any ((writeC ⟨ca, mca, d⟩ a v).D) ((writeC ⟨ca, mca, d⟩ a v).D) A_g1 A_w1 ((writeC ⟨ca, mca, d⟩ a v).D).length ((writeC ⟨ca, mca, d⟩ a v).D).length c_g1 c_w1 w12 rfl rfl HLm1.out HLm1.out (own_rd HO_g1_12.out) (own_rd HO_w1_12.out)).mono ?_
  rintro e w13 ⟨rfl, hb13⟩
  have hs13 := hb13.size
  have hbb13 := hbb12.trans (hb13.mono hbb12.size)
  replace bx_a0 := (hb13.cell (cell_lt bx_a0)).trans bx_a0
  replace bx_a1 := (hb13.cell (cell_lt bx_a1)).trans bx_a1
  replace bx_w00 := (hb13.cell (cell_lt bx_w00)).trans bx_w00
  replace bx_w01 := (hb13.cell (cell_lt bx_w01)).trans bx_w01
  replace bx_xca0 := (hb13.cell (cell_lt bx_xca0)).trans bx_xca0
  replace bx_xca1 := (hb13.cell (cell_lt bx_xca1)).trans bx_xca1
  replace bx_g00 := (hb13.cell (cell_lt bx_g00)).trans bx_g00
  replace bx_g01 := (hb13.cell (cell_lt bx_g01)).trans bx_g01
  have HO_w0_13 := hid_ (own_below HO_w0_12.out hb13)
  clear HO_w0_12
  have HO_w1_13 := hid_ (own_below HO_w1_12.out hb13)
  clear HO_w1_12
  have HO_xca_13 := hid_ (own_below HO_xca_12.out hb13)
  clear HO_xca_12
  have HO_xd_13 := hid_ (own_below HO_xd_12.out hb13)
  clear HO_xd_12
  have HO_g0_13 := hid_ (own_below HO_g0_12.out hb13)
  clear HO_g0_12
  have HO_g1_13 := hid_ (own_below HO_g1_12.out hb13)
  clear HO_g1_12
  clear hb13
  go_wp2_with fail
  refine wp_region_semT (semW (fun j => if j = 12 then .val (.pointer (some ⟨w7.heap.size, 0, none⟩)) else if j = 4 then .val (.pointer (some ⟨w.heap.size, 0, none⟩)) else if j = 61 then .val (.agg #[.slice A_xca nca c_xca, .int .i64 mca]) else if j = 62 then .val (.agg #[.slice Aca nca cca, .int .i64 mca]) else .str 3 nca (lnC ca) mca)) [4, 12] 143 3 (by kernel_rfl) (by kernel_rfl) rfl ?_ trivial ?_ ?_
  · intro j hj
    have hj' : j = 4 ∨ j = 12 := by simpa using hj
    rcases hj' with rfl | rfl <;> rfl
  · simp only [List.take_succ_cons, List.take_zero, HAll]
    refine ⟨hopw_val _ rfl rfl rfl rfl (fun a w0 h hb => run_ldc a.eval _ _ _ _ _ w0 _ (h 12 (by kernel_rfl)) ((hb.cell (cell_lt (show (w13.drew).cell? _ = _ from bx_xca0))).trans bx_xca0) ((hb.cell (cell_lt (show (w13.drew).cell? _ = _ from bx_xca1))).trans bx_xca1)),
      hopw_val _ rfl rfl rfl rfl (fun a w0 h hb => run_ldca a.eval _ _ _ _ _ w0 _ (h 4 (by kernel_rfl)) ((hb.cell (cell_lt (show (w13.drew).cell? _ = _ from bx_a0))).trans bx_a0) ((hb.cell (cell_lt (show (w13.drew).cell? _ = _ from bx_a1))).trans bx_a1)),
      hopw_call rfl rfl rfl (fun a w0 h hb => ⟨_, _, run_toc a.eval _ _ _ _ _ w0 _ _ rfl (h 62 (by kernel_rfl)), (toCache_any ca Aca nca cca mca w0 HNca.out hnsca ((HRca.out.below hbb13).below (show Below w13.heap.size w13 w0 from ((Below.refl _ _).drew).trans hb))).mono fun e w3 hh => by obtain ⟨A9, c9, h1, h2, h3, h4, h5⟩ := hh; exact ⟨_, h1, ⟨A9, c9, rfl, h2, h3, own_rd h4⟩, h5⟩⟩), trivial⟩
  · intro a' w14 haf
    have hex := haf.ex rfl [61, 62, 63] (by kernel_rfl)
    have hb14 : Below w13.heap.size w13 w14 := ((Below.refl _ _).drew).trans (show Below w13.drew.heap.size w13.drew w14 from haf.r)
    clear haf
    simp only [SemEx, Act.put, List.setIfInBounds_toArray, List.set_cons_succ, List.set_cons_zero] at hex
    obtain ⟨x0_, t0_, x1_, -, x2_, t2_, rfl⟩ := hex
    obtain rfl : x0_ = .agg #[.slice A_xca nca c_xca, .int .i64 mca] := t0_
    obtain ⟨A_e14, c_e14, rfl, -, hcme14, hre14⟩ : ∃ A c, x2_ = .agg #[.slice A nca c, .int .i64 mca] ∧ nca ≤ c ∧ c ≤ maxLen ∧ Rd w14 3 A nca (lnC ca) := t2_
    simp only [List.drop_succ_cons, List.drop_zero]
    have HRE14 := hid_ hre14; clear hre14 hcme14
    have hs14 := hb14.size
    have hbb14 := hbb13.trans (hb14.mono hbb13.size)
    replace bx_a0 := (hb14.cell (cell_lt bx_a0)).trans bx_a0
    replace bx_a1 := (hb14.cell (cell_lt bx_a1)).trans bx_a1
    replace bx_w00 := (hb14.cell (cell_lt bx_w00)).trans bx_w00
    replace bx_w01 := (hb14.cell (cell_lt bx_w01)).trans bx_w01
    replace bx_xca0 := (hb14.cell (cell_lt bx_xca0)).trans bx_xca0
    replace bx_xca1 := (hb14.cell (cell_lt bx_xca1)).trans bx_xca1
    replace bx_g00 := (hb14.cell (cell_lt bx_g00)).trans bx_g00
    replace bx_g01 := (hb14.cell (cell_lt bx_g01)).trans bx_g01
    have HO_w0_14 := hid_ (own_below HO_w0_13.out hb14)
    clear HO_w0_13
    have HO_w1_14 := hid_ (own_below HO_w1_13.out hb14)
    clear HO_w1_13
    have HO_xca_14 := hid_ (own_below HO_xca_13.out hb14)
    clear HO_xca_13
    have HO_xd_14 := hid_ (own_below HO_xd_13.out hb14)
    clear HO_xd_13
    have HO_g0_14 := hid_ (own_below HO_g0_13.out hb14)
    clear HO_g0_13
    have HO_g1_14 := hid_ (own_below HO_g1_13.out hb14)
    clear HO_g1_13
    clear hb14
    go_wp2_with fail
    refine (eqCache_any ca ca A_xca A_e14 nca nca c_xca c_e14 mca mca w14 HNca.out HNca.out HMca.out HMca.out (own_rd HO_xca_14.out) HRE14.out).mono ?_
    rintro e w15 ⟨rfl, hb15⟩
    have hs15 := hb15.size
    have hbb15 := hbb14.trans (hb15.mono hbb14.size)
    replace bx_a0 := (hb15.cell (cell_lt bx_a0)).trans bx_a0
    replace bx_a1 := (hb15.cell (cell_lt bx_a1)).trans bx_a1
    replace bx_w00 := (hb15.cell (cell_lt bx_w00)).trans bx_w00
    replace bx_w01 := (hb15.cell (cell_lt bx_w01)).trans bx_w01
    replace bx_xca0 := (hb15.cell (cell_lt bx_xca0)).trans bx_xca0
    replace bx_xca1 := (hb15.cell (cell_lt bx_xca1)).trans bx_xca1
    replace bx_g00 := (hb15.cell (cell_lt bx_g00)).trans bx_g00
    replace bx_g01 := (hb15.cell (cell_lt bx_g01)).trans bx_g01
    have HO_w0_15 := hid_ (own_below HO_w0_14.out hb15)
    clear HO_w0_14
    have HO_w1_15 := hid_ (own_below HO_w1_14.out hb15)
    clear HO_w1_14
    have HO_xca_15 := hid_ (own_below HO_xca_14.out hb15)
    clear HO_xca_14
    have HO_xd_15 := hid_ (own_below HO_xd_14.out hb15)
    clear HO_xd_14
    have HO_g0_15 := hid_ (own_below HO_g0_14.out hb15)
    clear HO_g0_14
    have HO_g1_15 := hid_ (own_below HO_g1_14.out hb15)
    clear HO_g1_14
    clear hb15
    go_wp2_with fail
    refine (toIntS_any d Ad nd cd w15 HNd.out hnsd (HRd.out.below hbb15)).mono ?_
    rintro e w16 ⟨A_yd, c_yd, rfl, hc_yd, hcm_yd, ho_yd, hb16⟩
    have HC_yd := hid_ hc_yd; clear hc_yd
    have HCM_yd := hid_ hcm_yd; clear hcm_yd
    have hs16 := hb16.size
    have hbb16 := hbb15.trans (hb16.mono hbb15.size)
    replace bx_a0 := (hb16.cell (cell_lt bx_a0)).trans bx_a0
    replace bx_a1 := (hb16.cell (cell_lt bx_a1)).trans bx_a1
    replace bx_w00 := (hb16.cell (cell_lt bx_w00)).trans bx_w00
    replace bx_w01 := (hb16.cell (cell_lt bx_w01)).trans bx_w01
    replace bx_xca0 := (hb16.cell (cell_lt bx_xca0)).trans bx_xca0
    replace bx_xca1 := (hb16.cell (cell_lt bx_xca1)).trans bx_xca1
    replace bx_g00 := (hb16.cell (cell_lt bx_g00)).trans bx_g00
    replace bx_g01 := (hb16.cell (cell_lt bx_g01)).trans bx_g01
    have HO_w0_16 := hid_ (own_below HO_w0_15.out hb16)
    clear HO_w0_15
    have HO_w1_16 := hid_ (own_below HO_w1_15.out hb16)
    clear HO_w1_15
    have HO_xca_16 := hid_ (own_below HO_xca_15.out hb16)
    clear HO_xca_15
    have HO_xd_16 := hid_ (own_below HO_xd_15.out hb16)
    clear HO_xd_15
    have HO_g0_16 := hid_ (own_below HO_g0_15.out hb16)
    clear HO_g0_15
    have HO_g1_16 := hid_ (own_below HO_g1_15.out hb16)
    clear HO_g1_15
    clear hb16
    have HO_yd := hid_ ho_yd; clear ho_yd
    have HLT_yd := hid_ (fun g e => (HO_yd.out.lt g e).2)
    go_wp2_with fail
    refine (eqIntS_any d d A_xd A_yd nd nd c_xd c_yd w16 HNd.out HNd.out HMd.out HMd.out (own_rd HO_xd_16.out) (own_rd HO_yd.out)).mono ?_
    rintro e w17 ⟨rfl, hb17⟩
    have hs17 := hb17.size
    have hbb17 := hbb16.trans (hb17.mono hbb16.size)
    replace bx_a0 := (hb17.cell (cell_lt bx_a0)).trans bx_a0
    replace bx_a1 := (hb17.cell (cell_lt bx_a1)).trans bx_a1
    replace bx_w00 := (hb17.cell (cell_lt bx_w00)).trans bx_w00
    replace bx_w01 := (hb17.cell (cell_lt bx_w01)).trans bx_w01
    replace bx_xca0 := (hb17.cell (cell_lt bx_xca0)).trans bx_xca0
    replace bx_xca1 := (hb17.cell (cell_lt bx_xca1)).trans bx_xca1
    replace bx_g00 := (hb17.cell (cell_lt bx_g00)).trans bx_g00
    replace bx_g01 := (hb17.cell (cell_lt bx_g01)).trans bx_g01
    have HO_w0_17 := hid_ (own_below HO_w0_16.out hb17)
    clear HO_w0_16
    have HO_w1_17 := hid_ (own_below HO_w1_16.out hb17)
    clear HO_w1_16
    have HO_xca_17 := hid_ (own_below HO_xca_16.out hb17)
    clear HO_xca_16
    have HO_xd_17 := hid_ (own_below HO_xd_16.out hb17)
    clear HO_xd_16
    have HO_g0_17 := hid_ (own_below HO_g0_16.out hb17)
    clear HO_g0_16
    have HO_g1_17 := hid_ (own_below HO_g1_16.out hb17)
    clear HO_g1_16
    have HO_yd_17 := hid_ (own_below HO_yd.out hb17)
    clear HO_yd
    clear hb17
    clear HO_yd_17 HLT_yd
    go_wp2_with fail
    refine (markCache_any A_xca nca c_xca _ mca 1 _ w17 (by omega) (by omega) (by omega) HO_xca_17.out).mono ?_
    rintro e w18 ⟨rfl, ho_m18, hg18⟩
    have hs18 := hg18.size
    replace bx_a0 := hg18.cell bx_a0 (fun e => by have h1 := (HO_xca_17.out.lt _ e.symm).1; have h2 := HLT_xca.out _ e.symm; simp only at h1 h2; omega)
    replace bx_a1 := hg18.cell bx_a1 (fun e => by have h1 := (HO_xca_17.out.lt _ e.symm).1; have h2 := HLT_xca.out _ e.symm; simp only at h1 h2; omega)
    replace bx_w00 := hg18.cell bx_w00 (fun e => by have h1 := (HO_xca_17.out.lt _ e.symm).1; have h2 := HLT_xca.out _ e.symm; simp only at h1 h2; omega)
    replace bx_w01 := hg18.cell bx_w01 (fun e => by have h1 := (HO_xca_17.out.lt _ e.symm).1; have h2 := HLT_xca.out _ e.symm; simp only at h1 h2; omega)
    replace bx_xca0 := hg18.cell bx_xca0 (fun e => by have h1 := (HO_xca_17.out.lt _ e.symm).1; have h2 := HLT_xca.out _ e.symm; simp only at h1 h2; omega)
    replace bx_xca1 := hg18.cell bx_xca1 (fun e => by have h1 := (HO_xca_17.out.lt _ e.symm).1; have h2 := HLT_xca.out _ e.symm; simp only at h1 h2; omega)
    replace bx_g00 := hg18.cell bx_g00 (fun e => by have h1 := (HO_xca_17.out.lt _ e.symm).1; have h2 := HLT_xca.out _ e.symm; simp only at h1 h2; omega)
    replace bx_g01 := hg18.cell bx_g01 (fun e => by have h1 := (HO_xca_17.out.lt _ e.symm).1; have h2 := HLT_xca.out _ e.symm; simp only at h1 h2; omega)
    have HG18 := hid_ hg18; clear hg18
    have hbb18 := hbb17.grown HG18.out hbb17.size (fun g e => by have := (HO_xca_17.out.lt g e).1; omega)
    have HO_w0_18 := hid_ (own_mark_older HO_w0_17.out HLT_w0.out HO_xca_17.out (by omega) HG18.out)
    have HO_w1_18 := hid_ (own_other HO_w1_17.out HO_xca_17.out (by decide) HG18.out)
    have HO_xd_18 := hid_ (own_other HO_xd_17.out HO_xca_17.out (by decide) HG18.out)
    have HO_g0_18 := hid_ (own_mark_newer HO_g0_17.out HLT_xca.out (by omega) HG18.out)
    have HO_g1_18 := hid_ (own_other HO_g1_17.out HO_xca_17.out (by decide) HG18.out)
    clear HO_w0_17
    clear HO_w1_17
    clear HO_xca_17
    clear HO_xd_17
    clear HO_g0_17
    clear HO_g1_17
    have HO_xca_18 := hid_ ho_m18; clear ho_m18
    go_wp2_with fail
    refine (markIntS_any A_xd nd c_xd _ (1 + (nca : Nat) * 3) _ w18 (by omega) (by omega) (by omega) HO_xd_18.out).mono ?_
    rintro e w19 ⟨rfl, ho_m19, hg19⟩
    have hs19 := hg19.size
    replace bx_a0 := hg19.cell bx_a0 (fun e => by have h1 := (HO_xd_18.out.lt _ e.symm).1; have h2 := HLT_xd.out _ e.symm; simp only at h1 h2; omega)
    replace bx_a1 := hg19.cell bx_a1 (fun e => by have h1 := (HO_xd_18.out.lt _ e.symm).1; have h2 := HLT_xd.out _ e.symm; simp only at h1 h2; omega)
    replace bx_w00 := hg19.cell bx_w00 (fun e => by have h1 := (HO_xd_18.out.lt _ e.symm).1; have h2 := HLT_xd.out _ e.symm; simp only at h1 h2; omega)
    replace bx_w01 := hg19.cell bx_w01 (fun e => by have h1 := (HO_xd_18.out.lt _ e.symm).1; have h2 := HLT_xd.out _ e.symm; simp only at h1 h2; omega)
    replace bx_xca0 := hg19.cell bx_xca0 (fun e => by have h1 := (HO_xd_18.out.lt _ e.symm).1; have h2 := HLT_xd.out _ e.symm; simp only at h1 h2; omega)
    replace bx_xca1 := hg19.cell bx_xca1 (fun e => by have h1 := (HO_xd_18.out.lt _ e.symm).1; have h2 := HLT_xd.out _ e.symm; simp only at h1 h2; omega)
    replace bx_g00 := hg19.cell bx_g00 (fun e => by have h1 := (HO_xd_18.out.lt _ e.symm).1; have h2 := HLT_xd.out _ e.symm; simp only at h1 h2; omega)
    replace bx_g01 := hg19.cell bx_g01 (fun e => by have h1 := (HO_xd_18.out.lt _ e.symm).1; have h2 := HLT_xd.out _ e.symm; simp only at h1 h2; omega)
    have HG19 := hid_ hg19; clear hg19
    have hbb19 := hbb18.grown HG19.out hbb18.size (fun g e => by have := (HO_xd_18.out.lt g e).1; omega)
    have HO_w0_19 := hid_ (own_other HO_w0_18.out HO_xd_18.out (by decide) HG19.out)
    have HO_w1_19 := hid_ (own_mark_older HO_w1_18.out HLT_w1.out HO_xd_18.out (by omega) HG19.out)
    have HO_xca_19 := hid_ (own_other HO_xca_18.out HO_xd_18.out (by decide) HG19.out)
    have HO_g0_19 := hid_ (own_other HO_g0_18.out HO_xd_18.out (by decide) HG19.out)
    have HO_g1_19 := hid_ (own_mark_newer HO_g1_18.out HLT_xd.out (by omega) HG19.out)
    clear HO_w0_18
    clear HO_w1_18
    clear HO_xca_18
    clear HO_xd_18
    clear HO_g0_18
    clear HO_g1_18
    have HO_xd_19 := hid_ ho_m19; clear ho_m19
    go_wp2_with fail
    refine (eqCache_any ((writeC ⟨ca, mca, d⟩ a v).L) ((writeC ⟨ca, mca, d⟩ a v).L) A_g0 A_w0 ((writeC ⟨ca, mca, d⟩ a v).L).length ((writeC ⟨ca, mca, d⟩ a v).L).length c_g0 c_w0 (writeC ⟨ca, mca, d⟩ a v).M (writeC ⟨ca, mca, d⟩ a v).M w19 rfl rfl HLm0.out HLm0.out (own_rd HO_g0_19.out) (own_rd HO_w0_19.out)).mono ?_
    rintro e w20 ⟨rfl, hb20⟩
    have hs20 := hb20.size
    have hbb20 := hbb19.trans (hb20.mono hbb19.size)
    replace bx_a0 := (hb20.cell (cell_lt bx_a0)).trans bx_a0
    replace bx_a1 := (hb20.cell (cell_lt bx_a1)).trans bx_a1
    replace bx_w00 := (hb20.cell (cell_lt bx_w00)).trans bx_w00
    replace bx_w01 := (hb20.cell (cell_lt bx_w01)).trans bx_w01
    replace bx_xca0 := (hb20.cell (cell_lt bx_xca0)).trans bx_xca0
    replace bx_xca1 := (hb20.cell (cell_lt bx_xca1)).trans bx_xca1
    replace bx_g00 := (hb20.cell (cell_lt bx_g00)).trans bx_g00
    replace bx_g01 := (hb20.cell (cell_lt bx_g01)).trans bx_g01
    have HO_w0_20 := hid_ (own_below HO_w0_19.out hb20)
    clear HO_w0_19
    have HO_w1_20 := hid_ (own_below HO_w1_19.out hb20)
    clear HO_w1_19
    have HO_xca_20 := hid_ (own_below HO_xca_19.out hb20)
    clear HO_xca_19
    have HO_xd_20 := hid_ (own_below HO_xd_19.out hb20)
    clear HO_xd_19
    have HO_g0_20 := hid_ (own_below HO_g0_19.out hb20)
    clear HO_g0_19
    have HO_g1_20 := hid_ (own_below HO_g1_19.out hb20)
    clear HO_g1_19
    clear hb20
    go_wp2_with fail
    refine (eqIntS_any ((writeC ⟨ca, mca, d⟩ a v).D) ((writeC ⟨ca, mca, d⟩ a v).D) A_g1 A_w1 ((writeC ⟨ca, mca, d⟩ a v).D).length ((writeC ⟨ca, mca, d⟩ a v).D).length c_g1 c_w1 w20 rfl rfl HLm1.out HLm1.out (own_rd HO_g1_20.out) (own_rd HO_w1_20.out)).mono ?_
    rintro e w21 ⟨rfl, hb21⟩
    have hs21 := hb21.size
    have hbb21 := hbb20.trans (hb21.mono hbb20.size)
    replace bx_a0 := (hb21.cell (cell_lt bx_a0)).trans bx_a0
    replace bx_a1 := (hb21.cell (cell_lt bx_a1)).trans bx_a1
    replace bx_w00 := (hb21.cell (cell_lt bx_w00)).trans bx_w00
    replace bx_w01 := (hb21.cell (cell_lt bx_w01)).trans bx_w01
    replace bx_xca0 := (hb21.cell (cell_lt bx_xca0)).trans bx_xca0
    replace bx_xca1 := (hb21.cell (cell_lt bx_xca1)).trans bx_xca1
    replace bx_g00 := (hb21.cell (cell_lt bx_g00)).trans bx_g00
    replace bx_g01 := (hb21.cell (cell_lt bx_g01)).trans bx_g01
    have HO_w0_21 := hid_ (own_below HO_w0_20.out hb21)
    clear HO_w0_20
    have HO_w1_21 := hid_ (own_below HO_w1_20.out hb21)
    clear HO_w1_20
    have HO_xca_21 := hid_ (own_below HO_xca_20.out hb21)
    clear HO_xca_20
    have HO_xd_21 := hid_ (own_below HO_xd_20.out hb21)
    clear HO_xd_20
    have HO_g0_21 := hid_ (own_below HO_g0_20.out hb21)
    clear HO_g0_20
    have HO_g1_21 := hid_ (own_below HO_g1_20.out hb21)
    clear HO_g1_20
    clear hb21
    clear HO_xca_21 HLT_xca
    clear bx_xca0 bx_xca1
    clear HO_xd_21 HLT_xd
    go_wp2_with fail
    refine (markCache_any A_g0 ((writeC ⟨ca, mca, d⟩ a v).L).length c_g0 _ (writeC ⟨ca, mca, d⟩ a v).M 1 _ w21 (by omega) (by omega) (by omega) HO_g0_21.out).mono ?_
    rintro e w22 ⟨rfl, ho_m22, hg22⟩
    have hs22 := hg22.size
    replace bx_a0 := hg22.cell bx_a0 (fun e => by have h1 := (HO_g0_21.out.lt _ e.symm).1; have h2 := HLT_g0.out _ e.symm; simp only at h1 h2; omega)
    replace bx_a1 := hg22.cell bx_a1 (fun e => by have h1 := (HO_g0_21.out.lt _ e.symm).1; have h2 := HLT_g0.out _ e.symm; simp only at h1 h2; omega)
    replace bx_w00 := hg22.cell bx_w00 (fun e => by have h1 := (HO_g0_21.out.lt _ e.symm).1; have h2 := HLT_g0.out _ e.symm; simp only at h1 h2; omega)
    replace bx_w01 := hg22.cell bx_w01 (fun e => by have h1 := (HO_g0_21.out.lt _ e.symm).1; have h2 := HLT_g0.out _ e.symm; simp only at h1 h2; omega)
    replace bx_g00 := hg22.cell bx_g00 (fun e => by have h1 := (HO_g0_21.out.lt _ e.symm).1; have h2 := HLT_g0.out _ e.symm; simp only at h1 h2; omega)
    replace bx_g01 := hg22.cell bx_g01 (fun e => by have h1 := (HO_g0_21.out.lt _ e.symm).1; have h2 := HLT_g0.out _ e.symm; simp only at h1 h2; omega)
    have HG22 := hid_ hg22; clear hg22
    have hbb22 := hbb21.grown HG22.out hbb21.size (fun g e => by have := (HO_g0_21.out.lt g e).1; omega)
    have HO_w0_22 := hid_ (own_mark_older HO_w0_21.out HLT_w0.out HO_g0_21.out (by omega) HG22.out)
    have HO_w1_22 := hid_ (own_other HO_w1_21.out HO_g0_21.out (by decide) HG22.out)
    have HO_g1_22 := hid_ (own_other HO_g1_21.out HO_g0_21.out (by decide) HG22.out)
    clear HO_w0_21
    clear HO_w1_21
    clear HO_g0_21
    clear HO_g1_21
    have HO_g0_22 := hid_ ho_m22; clear ho_m22
    go_wp2_with fail
    refine (markIntS_any A_g1 ((writeC ⟨ca, mca, d⟩ a v).D).length c_g1 _ (1 + (((writeC ⟨ca, mca, d⟩ a v).L).length : Nat) * 3) _ w22 (by omega) (by omega) (by omega) HO_g1_22.out).mono ?_
    rintro e w23 ⟨rfl, ho_m23, hg23⟩
    have hs23 := hg23.size
    replace bx_a0 := hg23.cell bx_a0 (fun e => by have h1 := (HO_g1_22.out.lt _ e.symm).1; have h2 := HLT_g1.out _ e.symm; simp only at h1 h2; omega)
    replace bx_a1 := hg23.cell bx_a1 (fun e => by have h1 := (HO_g1_22.out.lt _ e.symm).1; have h2 := HLT_g1.out _ e.symm; simp only at h1 h2; omega)
    replace bx_w00 := hg23.cell bx_w00 (fun e => by have h1 := (HO_g1_22.out.lt _ e.symm).1; have h2 := HLT_g1.out _ e.symm; simp only at h1 h2; omega)
    replace bx_w01 := hg23.cell bx_w01 (fun e => by have h1 := (HO_g1_22.out.lt _ e.symm).1; have h2 := HLT_g1.out _ e.symm; simp only at h1 h2; omega)
    replace bx_g00 := hg23.cell bx_g00 (fun e => by have h1 := (HO_g1_22.out.lt _ e.symm).1; have h2 := HLT_g1.out _ e.symm; simp only at h1 h2; omega)
    replace bx_g01 := hg23.cell bx_g01 (fun e => by have h1 := (HO_g1_22.out.lt _ e.symm).1; have h2 := HLT_g1.out _ e.symm; simp only at h1 h2; omega)
    have HG23 := hid_ hg23; clear hg23
    have hbb23 := hbb22.grown HG23.out hbb22.size (fun g e => by have := (HO_g1_22.out.lt g e).1; omega)
    have HO_w0_23 := hid_ (own_other HO_w0_22.out HO_g1_22.out (by decide) HG23.out)
    have HO_w1_23 := hid_ (own_mark_older HO_w1_22.out HLT_w1.out HO_g1_22.out (by omega) HG23.out)
    have HO_g0_23 := hid_ (own_other HO_g0_22.out HO_g1_22.out (by decide) HG23.out)
    clear HO_w0_22
    clear HO_w1_22
    clear HO_g0_22
    clear HO_g1_22
    have HO_g1_23 := hid_ ho_m23; clear ho_m23
    go_wp2_with fail
    refine (heldCache_any A_g0 ((writeC ⟨ca, mca, d⟩ a v).L).length c_g0 (writeC ⟨ca, mca, d⟩ a v).M 1 w23 (by omega) (by omega) (by omega) (own_rd HO_g0_23.out)).mono ?_
    rintro e w24 ⟨rfl, hb24⟩
    have hs24 := hb24.size
    have hbb24 := hbb23.trans (hb24.mono hbb23.size)
    replace bx_a0 := (hb24.cell (cell_lt bx_a0)).trans bx_a0
    replace bx_a1 := (hb24.cell (cell_lt bx_a1)).trans bx_a1
    replace bx_w00 := (hb24.cell (cell_lt bx_w00)).trans bx_w00
    replace bx_w01 := (hb24.cell (cell_lt bx_w01)).trans bx_w01
    replace bx_g00 := (hb24.cell (cell_lt bx_g00)).trans bx_g00
    replace bx_g01 := (hb24.cell (cell_lt bx_g01)).trans bx_g01
    have HO_w0_24 := hid_ (own_below HO_w0_23.out hb24)
    clear HO_w0_23
    have HO_w1_24 := hid_ (own_below HO_w1_23.out hb24)
    clear HO_w1_23
    have HO_g0_24 := hid_ (own_below HO_g0_23.out hb24)
    clear HO_g0_23
    have HO_g1_24 := hid_ (own_below HO_g1_23.out hb24)
    clear HO_g1_23
    clear hb24
    go_wp2_with fail
    refine (heldIntS_any A_g1 ((writeC ⟨ca, mca, d⟩ a v).D).length c_g1 (1 + (((writeC ⟨ca, mca, d⟩ a v).L).length : Nat) * 3) w24 (by omega) (by omega) (by omega) (own_rd HO_g1_24.out)).mono ?_
    rintro e w' ⟨rfl, rfl⟩
    go_wp2_with fail
    refine (toCache_any ca Aca nca cca mca w24 HNca.out hnsca (HRca.out.below hbb24)).mono ?_
    rintro e w25 ⟨A_zca, c_zca, rfl, hc_zca, hcm_zca, ho_zca, hb25⟩
    have HC_zca := hid_ hc_zca; clear hc_zca
    have HCM_zca := hid_ hcm_zca; clear hcm_zca
    have hs25 := hb25.size
    have hbb25 := hbb24.trans (hb25.mono hbb24.size)
    replace bx_a0 := (hb25.cell (cell_lt bx_a0)).trans bx_a0
    replace bx_a1 := (hb25.cell (cell_lt bx_a1)).trans bx_a1
    replace bx_w00 := (hb25.cell (cell_lt bx_w00)).trans bx_w00
    replace bx_w01 := (hb25.cell (cell_lt bx_w01)).trans bx_w01
    replace bx_g00 := (hb25.cell (cell_lt bx_g00)).trans bx_g00
    replace bx_g01 := (hb25.cell (cell_lt bx_g01)).trans bx_g01
    have HO_w0_25 := hid_ (own_below HO_w0_24.out hb25)
    clear HO_w0_24
    have HO_w1_25 := hid_ (own_below HO_w1_24.out hb25)
    clear HO_w1_24
    have HO_g0_25 := hid_ (own_below HO_g0_24.out hb25)
    clear HO_g0_24
    have HO_g1_25 := hid_ (own_below HO_g1_24.out hb25)
    clear HO_g1_24
    clear hb25
    have HO_zca := hid_ ho_zca; clear ho_zca
    have HLT_zca := hid_ (fun g e => (HO_zca.out.lt g e).2)
    go_wp2_with fail
    refine (toIntS_any d Ad nd cd w25 HNd.out hnsd (HRd.out.below hbb25)).mono ?_
    rintro e w26 ⟨A_zd, c_zd, rfl, hc_zd, hcm_zd, ho_zd, hb26⟩
    have HC_zd := hid_ hc_zd; clear hc_zd
    have HCM_zd := hid_ hcm_zd; clear hcm_zd
    have hs26 := hb26.size
    have hbb26 := hbb25.trans (hb26.mono hbb25.size)
    replace bx_a0 := (hb26.cell (cell_lt bx_a0)).trans bx_a0
    replace bx_a1 := (hb26.cell (cell_lt bx_a1)).trans bx_a1
    replace bx_w00 := (hb26.cell (cell_lt bx_w00)).trans bx_w00
    replace bx_w01 := (hb26.cell (cell_lt bx_w01)).trans bx_w01
    replace bx_g00 := (hb26.cell (cell_lt bx_g00)).trans bx_g00
    replace bx_g01 := (hb26.cell (cell_lt bx_g01)).trans bx_g01
    have HO_w0_26 := hid_ (own_below HO_w0_25.out hb26)
    clear HO_w0_25
    have HO_w1_26 := hid_ (own_below HO_w1_25.out hb26)
    clear HO_w1_25
    have HO_g0_26 := hid_ (own_below HO_g0_25.out hb26)
    clear HO_g0_25
    have HO_g1_26 := hid_ (own_below HO_g1_25.out hb26)
    clear HO_g1_25
    have HO_zca_26 := hid_ (own_below HO_zca.out hb26)
    clear HO_zca
    clear hb26
    have HO_zd := hid_ ho_zd; clear ho_zd
    have HLT_zd := hid_ (fun g e => (HO_zd.out.lt g e).2)
    go_wp2_with fail
    refine (implWrite_any ca A_zca nca c_zca mca d A_zd nd c_zd a v w26 HNca.out (by omega) HC_zca.out HCM_zca.out (own_rd HO_zca_26.out) HNd.out (by omega) HC_zd.out HCM_zd.out (own_rd HO_zd.out)).mono ?_
    rintro e w27 ⟨A_h0, c_h0, A_h1, c_h1, rfl, hc_h0, hcm_h0, hc_h1, hcm_h1, ho_h0, ho_h1, hb27⟩
    clear hc_h0 hcm_h0
    clear hc_h1 hcm_h1
    have hs27 := hb27.size
    have hbb27 := hbb26.trans (hb27.mono hbb26.size)
    replace bx_a0 := (hb27.cell (cell_lt bx_a0)).trans bx_a0
    replace bx_a1 := (hb27.cell (cell_lt bx_a1)).trans bx_a1
    replace bx_w00 := (hb27.cell (cell_lt bx_w00)).trans bx_w00
    replace bx_w01 := (hb27.cell (cell_lt bx_w01)).trans bx_w01
    replace bx_g00 := (hb27.cell (cell_lt bx_g00)).trans bx_g00
    replace bx_g01 := (hb27.cell (cell_lt bx_g01)).trans bx_g01
    have HO_w0_27 := hid_ (own_below HO_w0_26.out hb27)
    clear HO_w0_26
    have HO_w1_27 := hid_ (own_below HO_w1_26.out hb27)
    clear HO_w1_26
    have HO_g0_27 := hid_ (own_below HO_g0_26.out hb27)
    clear HO_g0_26
    have HO_g1_27 := hid_ (own_below HO_g1_26.out hb27)
    clear HO_g1_26
    have HO_zca_27 := hid_ (own_below HO_zca_26.out hb27)
    clear HO_zca_26
    have HO_zd_27 := hid_ (own_below HO_zd.out hb27)
    clear HO_zd
    clear hb27
    have HO_h0 := hid_ ho_h0; clear ho_h0
    have HLT_h0 := hid_ (fun g e => (HO_h0.out.lt g e).2)
    have HO_h1 := hid_ ho_h1; clear ho_h1
    have HLT_h1 := hid_ (fun g e => (HO_h1.out.lt g e).2)
    obtain ⟨w28, hw28⟩ : ∃ x, w27.alloc (.cells #[.slice A_h0 ((writeC ⟨ca, mca, d⟩ a v).L).length c_h0, .int .i64 (writeC ⟨ca, mca, d⟩ a v).M] 29) = x := ⟨_, rfl⟩
    have hb28 : Below w27.heap.size w27 w28 := by rw [← hw28]; exact (Below.refl _ _).alloc (Nat.le_refl _) _
    have hz28 : w27.heap.size < w28.heap.size := by rw [← hw28]; simp
    have bx_h00 : w28.cell? ⟨w27.heap.size, 0, none⟩ = some (.slice A_h0 ((writeC ⟨ca, mca, d⟩ a v).L).length c_h0) := by rw [← hw28]; simp [go_sem]
    have bx_h01 : w28.cell? ⟨w27.heap.size, 1, none⟩ = some (.int .i64 (writeC ⟨ca, mca, d⟩ a v).M) := by rw [← hw28]; simp [go_sem]
    have hs28 := hb28.size
    have hbb28 := hbb27.trans (hb28.mono hbb27.size)
    replace bx_a0 := (hb28.cell (cell_lt bx_a0)).trans bx_a0
    replace bx_a1 := (hb28.cell (cell_lt bx_a1)).trans bx_a1
    replace bx_w00 := (hb28.cell (cell_lt bx_w00)).trans bx_w00
    replace bx_w01 := (hb28.cell (cell_lt bx_w01)).trans bx_w01
    replace bx_g00 := (hb28.cell (cell_lt bx_g00)).trans bx_g00
    replace bx_g01 := (hb28.cell (cell_lt bx_g01)).trans bx_g01
    have HO_w0_28 := hid_ (own_below HO_w0_27.out hb28)
    clear HO_w0_27
    have HO_w1_28 := hid_ (own_below HO_w1_27.out hb28)
    clear HO_w1_27
    have HO_g0_28 := hid_ (own_below HO_g0_27.out hb28)
    clear HO_g0_27
    have HO_g1_28 := hid_ (own_below HO_g1_27.out hb28)
    clear HO_g1_27
    have HO_zca_28 := hid_ (own_below HO_zca_27.out hb28)
    clear HO_zca_27
    have HO_zd_28 := hid_ (own_below HO_zd_27.out hb28)
    clear HO_zd_27
    have HO_h0_28 := hid_ (own_below HO_h0.out hb28)
    clear HO_h0
    have HO_h1_28 := hid_ (own_below HO_h1.out hb28)
    clear HO_h1
    clear hb28
    go_wp2_with fail
    clear hw28
    refine (eqCache_any ((writeC ⟨ca, mca, d⟩ a v).L) ((writeC ⟨ca, mca, d⟩ a v).L) A_h0 A_w0 ((writeC ⟨ca, mca, d⟩ a v).L).length ((writeC ⟨ca, mca, d⟩ a v).L).length c_h0 c_w0 (writeC ⟨ca, mca, d⟩ a v).M (writeC ⟨ca, mca, d⟩ a v).M w28 rfl rfl HLm0.out HLm0.out (own_rd HO_h0_28.out) (own_rd HO_w0_28.out)).mono ?_
    rintro e w29 ⟨rfl, hb29⟩
    have hs29 := hb29.size
    have hbb29 := hbb28.trans (hb29.mono hbb28.size)
    replace bx_a0 := (hb29.cell (cell_lt bx_a0)).trans bx_a0
    replace bx_a1 := (hb29.cell (cell_lt bx_a1)).trans bx_a1
    replace bx_w00 := (hb29.cell (cell_lt bx_w00)).trans bx_w00
    replace bx_w01 := (hb29.cell (cell_lt bx_w01)).trans bx_w01
    replace bx_g00 := (hb29.cell (cell_lt bx_g00)).trans bx_g00
    replace bx_g01 := (hb29.cell (cell_lt bx_g01)).trans bx_g01
    replace bx_h00 := (hb29.cell (cell_lt bx_h00)).trans bx_h00
    replace bx_h01 := (hb29.cell (cell_lt bx_h01)).trans bx_h01
    have HO_w0_29 := hid_ (own_below HO_w0_28.out hb29)
    clear HO_w0_28
    have HO_w1_29 := hid_ (own_below HO_w1_28.out hb29)
    clear HO_w1_28
    have HO_g0_29 := hid_ (own_below HO_g0_28.out hb29)
    clear HO_g0_28
    have HO_g1_29 := hid_ (own_below HO_g1_28.out hb29)
    clear HO_g1_28
    have HO_zca_29 := hid_ (own_below HO_zca_28.out hb29)
    clear HO_zca_28
    have HO_zd_29 := hid_ (own_below HO_zd_28.out hb29)
    clear HO_zd_28
    have HO_h0_29 := hid_ (own_below HO_h0_28.out hb29)
    clear HO_h0_28
    have HO_h1_29 := hid_ (own_below HO_h1_28.out hb29)
    clear HO_h1_28
    clear hb29
    go_wp2_with fail
    refine (eqIntS_any ((writeC ⟨ca, mca, d⟩ a v).D) ((writeC ⟨ca, mca, d⟩ a v).D) A_h1 A_w1 ((writeC ⟨ca, mca, d⟩ a v).D).length ((writeC ⟨ca, mca, d⟩ a v).D).length c_h1 c_w1 w29 rfl rfl HLm1.out HLm1.out (own_rd HO_h1_29.out) (own_rd HO_w1_29.out)).mono ?_
    rintro e w30 ⟨rfl, hb30⟩
    have hs30 := hb30.size
    have hbb30 := hbb29.trans (hb30.mono hbb29.size)
    replace bx_a0 := (hb30.cell (cell_lt bx_a0)).trans bx_a0
    replace bx_a1 := (hb30.cell (cell_lt bx_a1)).trans bx_a1
    replace bx_w00 := (hb30.cell (cell_lt bx_w00)).trans bx_w00
    replace bx_w01 := (hb30.cell (cell_lt bx_w01)).trans bx_w01
    replace bx_g00 := (hb30.cell (cell_lt bx_g00)).trans bx_g00
    replace bx_g01 := (hb30.cell (cell_lt bx_g01)).trans bx_g01
    replace bx_h00 := (hb30.cell (cell_lt bx_h00)).trans bx_h00
    replace bx_h01 := (hb30.cell (cell_lt bx_h01)).trans bx_h01
    have HO_w0_30 := hid_ (own_below HO_w0_29.out hb30)
    clear HO_w0_29
    have HO_w1_30 := hid_ (own_below HO_w1_29.out hb30)
    clear HO_w1_29
    have HO_g0_30 := hid_ (own_below HO_g0_29.out hb30)
    clear HO_g0_29
    have HO_g1_30 := hid_ (own_below HO_g1_29.out hb30)
    clear HO_g1_29
    have HO_zca_30 := hid_ (own_below HO_zca_29.out hb30)
    clear HO_zca_29
    have HO_zd_30 := hid_ (own_below HO_zd_29.out hb30)
    clear HO_zd_29
    have HO_h0_30 := hid_ (own_below HO_h0_29.out hb30)
    clear HO_h0_29
    have HO_h1_30 := hid_ (own_below HO_h1_29.out hb30)
    clear HO_h1_29
    clear hb30
    go_wp2_with fail
    refine (heldCache_any A_g0 ((writeC ⟨ca, mca, d⟩ a v).L).length c_g0 (writeC ⟨ca, mca, d⟩ a v).M 1 w30 (by omega) (by omega) (by omega) (own_rd HO_g0_30.out)).mono ?_
    rintro e w31 ⟨rfl, hb31⟩
    have hs31 := hb31.size
    have hbb31 := hbb30.trans (hb31.mono hbb30.size)
    replace bx_a0 := (hb31.cell (cell_lt bx_a0)).trans bx_a0
    replace bx_a1 := (hb31.cell (cell_lt bx_a1)).trans bx_a1
    replace bx_w00 := (hb31.cell (cell_lt bx_w00)).trans bx_w00
    replace bx_w01 := (hb31.cell (cell_lt bx_w01)).trans bx_w01
    replace bx_g00 := (hb31.cell (cell_lt bx_g00)).trans bx_g00
    replace bx_g01 := (hb31.cell (cell_lt bx_g01)).trans bx_g01
    replace bx_h00 := (hb31.cell (cell_lt bx_h00)).trans bx_h00
    replace bx_h01 := (hb31.cell (cell_lt bx_h01)).trans bx_h01
    have HO_w0_31 := hid_ (own_below HO_w0_30.out hb31)
    clear HO_w0_30
    have HO_w1_31 := hid_ (own_below HO_w1_30.out hb31)
    clear HO_w1_30
    have HO_g0_31 := hid_ (own_below HO_g0_30.out hb31)
    clear HO_g0_30
    have HO_g1_31 := hid_ (own_below HO_g1_30.out hb31)
    clear HO_g1_30
    have HO_zca_31 := hid_ (own_below HO_zca_30.out hb31)
    clear HO_zca_30
    have HO_zd_31 := hid_ (own_below HO_zd_30.out hb31)
    clear HO_zd_30
    have HO_h0_31 := hid_ (own_below HO_h0_30.out hb31)
    clear HO_h0_30
    have HO_h1_31 := hid_ (own_below HO_h1_30.out hb31)
    clear HO_h1_30
    clear hb31
    go_wp2_with fail
    refine (heldIntS_any A_g1 ((writeC ⟨ca, mca, d⟩ a v).D).length c_g1 (1 + (((writeC ⟨ca, mca, d⟩ a v).L).length : Nat) * 3) w31 (by omega) (by omega) (by omega) (own_rd HO_g1_31.out)).mono ?_
    rintro e w' ⟨rfl, rfl⟩
    go_wp2
    go_returns
    exact ⟨rfl, hbb31⟩


set_option maxRecDepth 100000 in
theorem fnExactCacheWrite_lifted (os : Os) (started : os.Started) (H : Type) (enc : TypeId × Value → H) :
    ReturnsInHanded {} Try.checked os 12 .any (Rows.fnExactCacheWriteSpec.pre6 enc Try.prog Try.f12 Rows.fnExactCacheWriteRow.domain false) (Rows.fnExactCacheWriteSpec.post enc Try.prog Try.f12 false true false false) := by
  refine returnsInHanded_of_change (C := Try.checked) own_ started (by kernel_rfl) Try.func12
    (ChangeSpec.witness6 (enc := enc) (C := Try.checked) false ⟨#[], #[.agg #[.slice none 0 0, .int .i64 0], .slice none 0 0, .int .i64 0, .int .i64 0], []⟩ 8 (by kernel_rfl) (by kernel_rfl) (by kernel_rfl) (by kernel_rfl)) ?_
  intro W base args ds gs before hval0 hW hcnd _
  have hval : ∀ (j : Nat) t v, Try.f12.params[j]? = some t → args[j]? = some v → Value.okWide Try.prog W .any base t v := hval0
  have hW' := hW
  obtain ⟨p, q, hA0, hV, rfl, hfz, hnd⟩ := hW
  have hA : DataW.TrodAll enc Try.prog W 0 (fun _ => true) true Try.f12.params.toList args.toList ds p := hA0
  rw [Try.params12] at hA hval
  obtain ⟨v0, vs0, d0, ds0, p0, q0, hargs, rfl, rfl, h0, r0⟩ := trodAll_cons hA
  obtain ⟨v1, vs1, d1, ds1, p1, q1, rfl, rfl, rfl, h1, r1⟩ := trodAll_cons r0
  obtain ⟨v2, vs2, d2, ds2, p2, q2, rfl, rfl, rfl, h2, r2⟩ := trodAll_cons r1
  obtain ⟨v3, vs3, d3, ds3, p3, q3, rfl, rfl, rfl, h3, r3⟩ := trodAll_cons r2
  obtain ⟨rfl, rfl, rfl⟩ := trodAll_nil r3
  obtain rfl : args = #[v0, v1, v2, v3] := by cases args; simp_all
  obtain ⟨rfl, rfl⟩ := trodVars_none hV
  have k0 := h0
  have lt0 : ∀ x ∈ p0, x.block < W.heap.size := by obtain ⟨m, hm⟩ := k0; exact DataW.trod_lt m _ _ _ hm
  obtain ⟨z0, a0, len0, cap0, m0, rfl, e0, lc0, cm0, w0, rd0, wm0⟩ := open_cache (hval 0 24 v0 rfl rfl) h0
  obtain ⟨a1, len1, cap1, rfl⟩ := okWide_slice Try.underlying40 (hval 1 40 v1 rfl rfl)
  have k1 := h1
  have lt1 : ∀ x ∈ p1, x.block < W.heap.size := by obtain ⟨m, hm⟩ := k1; exact DataW.trod_lt m _ _ _ hm
  obtain ⟨z1, e1, lc1, cm1, w1, rd1⟩ := open_ints_ h1
  obtain ⟨a2, rfl, rfl, rfl, wf2⟩ := open_int Try.underlying3 (hval 2 3 v2 rfl rfl) h2
  obtain ⟨a3, rfl, rfl, rfl, wf3⟩ := open_int Try.underlying3 (hval 3 3 v3 rfl rfl) h3
  clear hA0 hval0
  refine (exactWrite_walk z0 a0 len0 cap0 m0 z1 a1 len1 cap1 a2 a3 W e0 lc0 cm0 w0 rd0 wm0 e1 lc1 cm1 w1 rd1 (wf_i64 wf2) (wf_i64 wf3)).mono fun e W' ⟨he, bel⟩ => ?_
  subst he
  exact ⟨_, rfl, _, _, _, [], _, [], hW', trodAll_mk1 (shut_bool Try.underlying4 _), (trodAll_cons_mk (Below.trod laidOut_ (by kernel_rfl) (of_decide_eq_true (by kernel_rfl)) k0 bel lt0) (trodAll_cons_mk (Below.trod laidOut_ (by kernel_rfl) (of_decide_eq_true (by kernel_rfl)) k1 bel lt1) (trodAll_cons_mk (shut_int Try.underlying3 wf2) (trodAll_cons_mk (shut_int Try.underlying3 wf3) trodAll_mk0)))), rfl, bel.frame _, fun h => by cases h⟩

theorem fnExactCacheWrite_holds : Rows.FnExactCacheWriteSaid :=
  OpenClaim.holds_of_wide 12 Try.f12 rfl rfl rfl rfl rfl rfl rfl ⟨rfl, rfl, rfl, rfl, rfl⟩ rfl rfl rfl rfl rfl (by kernel_rfl) Try.func12 (by kernel_rfl)
    (of_decide_eq_true (by kernel_rfl)) (by unfold Func.isWrapper; first | (rw [if_pos (by decide +kernel)]; kernel_rfl) | (rw [if_neg (by decide +kernel)]; exact ⟨rfl, rfl⟩))
    (fun os started H enc _ => fnExactCacheWrite_lifted os started H enc)

end Go.Proofs.Ytejnieoneknbbaa
