/-
  The law FnExactRetryFlights: for every list of flights, every time and every limit the call returns true and leaves the list as it was.
-/
import Derived.Test.YtfinefjihphnhaaFlF
import Derived.Test.YtfinefjihphnhaaOpen
namespace Go.Proofs.Ytfinefjihphnhaa
open Go.ChangeShapes Go.WideShapes Go.ChangeAt Go.RowKit Go.BigFrame

theorem retry_length (fl : List Fl) (now limit : Int) : (retryO fl now limit).length ≤ fl.length ∧ (retryG fl now limit).length ≤ fl.length := by
  have h := ret_length now limit fl
  unfold retryO retryG
  constructor
  · split
    · exact h.1
    · simp
  · split
    · exact h.2
    · simp

set_option maxHeartbeats 2000000 in
theorem fnExactRetryFlights_walk (fl : List Fl) (Afl : Option Addr) (nfl cfl : Nat) (now : Int) (limit : Int) (w : World) (hnfl : fl.length = nfl) (hcfl : nfl ≤ cfl) (hcmfl : cfl ≤ maxLen) (qfl : ∀ f ∈ fl, I64 f.tag ∧ I64 f.since ∧ I64 f.tries) (hRfl : Rd w 3 Afl nfl (flC fl)) (qnow : I64 now) (qlimit : I64 limit) :
    Calls Try.prog 11 #[.slice Afl nfl cfl, .int .i64 now, .int .i64 limit] w fun e w' => e = .returned (.bool true) ∧ Below w.heap.size w w' := by
  clear qnow
  clear qlimit
  clear qfl
  have HMfl := hid_ (Nat.le_trans hcfl hcmfl)
  have hmfl : nfl ≤ 9223372036854775807 := by have := HMfl.out; unfold maxLen at this; omega
  clear hcfl hcmfl
  have HRfl := hid_ hRfl; clear hRfl
  have HNfl := hid_ hnfl; clear hnfl
  by_cases hbigfl : (1048576 : Int) < (nfl : Int)
  · go_enter Try.func11, Try.ntmps11
    go_wp2_with (go_at_call 14; refine (sz_any Afl nfl cfl 1048576 _ HMfl.out (by omega) (by omega)).mono ?_; rw [if_pos hbigfl]; rintro e w1 ⟨rfl, rfl⟩)
    go_returns
    exact ⟨rfl, Below.refl _ _⟩
  · have hnsfl : nfl ≤ 1048576 := by omega
    have hl0 : (retryO fl now limit).length ≤ 1048576 := Nat.le_trans (retry_length fl now limit).1 (by rw [HNfl.out]; exact hnsfl)
    have HLm0 := hid_ (show (retryO fl now limit).length ≤ maxLen by unfold maxLen; omega)
    have hl1 : (retryG fl now limit).length ≤ 1048576 := Nat.le_trans (retry_length fl now limit).2 (by rw [HNfl.out]; exact hnsfl)
    have HLm1 := hid_ (show (retryG fl now limit).length ≤ maxLen by unfold maxLen; omega)
    go_enter Try.func11, Try.ntmps11
    go_wp2_with fail
    refine (sz_any Afl nfl cfl 1048576 _ HMfl.out (by omega) (by omega)).mono ?_
    rw [if_neg (show ¬ (1048576 : Int) < (nfl : Int) by omega)]
    rintro e w' ⟨rfl, rfl⟩
    go_wp2_with fail
    refine (toFlightS_any fl Afl nfl cfl w HNfl.out hnsfl (HRfl.out.below (Below.refl w.heap.size w))).mono ?_
    rintro e w1 ⟨A_sfl, c_sfl, rfl, hc_sfl, hcm_sfl, ho_sfl, hb1⟩
    have HC_sfl := hid_ hc_sfl; clear hc_sfl
    have HCM_sfl := hid_ hcm_sfl; clear hcm_sfl
    have hs1 := hb1.size
    have hbb1 := (Below.refl w.heap.size w).trans (hb1.mono (Below.refl w.heap.size w).size)
    have HO_sfl := hid_ ho_sfl; clear ho_sfl
    have HLT_sfl := hid_ (fun g e => (HO_sfl.out.lt g e).2)
    go_wp2_with fail
    refine (specRetry_any fl A_sfl nfl c_sfl now limit w1 HNfl.out (by omega) (own_rd HO_sfl.out)).mono ?_
    rintro e w2 ⟨A_w0, c_w0, A_w1, c_w1, rfl, hc_w0, hcm_w0, hc_w1, hcm_w1, ho_w0, ho_w1, hb2⟩
    clear hc_w0 hcm_w0
    clear hc_w1 hcm_w1
    have hs2 := hb2.size
    have hbb2 := hbb1.trans (hb2.mono hbb1.size)
    have HO_sfl_2 := hid_ (own_below HO_sfl.out hb2)
    clear HO_sfl
    have HO_w0 := hid_ ho_w0; clear ho_w0
    have HLT_w0 := hid_ (fun g e => (HO_w0.out.lt g e).2)
    have HO_w1 := hid_ ho_w1; clear ho_w1
    have HLT_w1 := hid_ (fun g e => (HO_w1.out.lt g e).2)
    clear HO_sfl_2 HLT_sfl
    go_wp2_with fail
    refine (toFlightS_any fl Afl nfl cfl w2 HNfl.out hnsfl (HRfl.out.below hbb2)).mono ?_
    rintro e w3 ⟨A_xfl, c_xfl, rfl, hc_xfl, hcm_xfl, ho_xfl, hb3⟩
    have HC_xfl := hid_ hc_xfl; clear hc_xfl
    have HCM_xfl := hid_ hcm_xfl; clear hcm_xfl
    have hs3 := hb3.size
    have hbb3 := hbb2.trans (hb3.mono hbb2.size)
    have HO_w0_3 := hid_ (own_below HO_w0.out hb3)
    clear HO_w0
    have HO_w1_3 := hid_ (own_below HO_w1.out hb3)
    clear HO_w1
    have HO_xfl := hid_ ho_xfl; clear ho_xfl
    have HLT_xfl := hid_ (fun g e => (HO_xfl.out.lt g e).2)
    go_wp2_with fail
    refine (implRetry_any fl A_xfl nfl c_xfl now limit w3 HNfl.out (by omega) HC_xfl.out HCM_xfl.out (own_rd HO_xfl.out)).mono ?_
    rintro e w4 ⟨A_g0, c_g0, A_g1, c_g1, rfl, hc_g0, hcm_g0, hc_g1, hcm_g1, ho_g0, ho_g1, hb4⟩
    clear hc_g0 hcm_g0
    clear hc_g1 hcm_g1
    have hs4 := hb4.size
    have hbb4 := hbb3.trans (hb4.mono hbb3.size)
    have HO_w0_4 := hid_ (own_below HO_w0_3.out hb4)
    clear HO_w0_3
    have HO_w1_4 := hid_ (own_below HO_w1_3.out hb4)
    clear HO_w1_3
    have HO_xfl_4 := hid_ (own_below HO_xfl.out hb4)
    clear HO_xfl
    have HO_g0 := hid_ ho_g0; clear ho_g0
    have HLT_g0 := hid_ (fun g e => (HO_g0.out.lt g e).2)
    have HO_g1 := hid_ ho_g1; clear ho_g1
    have HLT_g1 := hid_ (fun g e => (HO_g1.out.lt g e).2)
    go_wp2_with fail
    refine (eqFlightS_any (retryO fl now limit) (retryO fl now limit) A_g0 A_w0 (retryO fl now limit).length (retryO fl now limit).length c_g0 c_w0 w4 rfl rfl HLm0.out HLm0.out (own_rd HO_g0.out) (own_rd HO_w0_4.out)).mono ?_
    rintro e w5 ⟨rfl, hb5⟩
    have hs5 := hb5.size
    have hbb5 := hbb4.trans (hb5.mono hbb4.size)
    have HO_w0_5 := hid_ (own_below HO_w0_4.out hb5)
    clear HO_w0_4
    have HO_w1_5 := hid_ (own_below HO_w1_4.out hb5)
    clear HO_w1_4
    have HO_xfl_5 := hid_ (own_below HO_xfl_4.out hb5)
    clear HO_xfl_4
    have HO_g0_5 := hid_ (own_below HO_g0.out hb5)
    clear HO_g0
    have HO_g1_5 := hid_ (own_below HO_g1.out hb5)
    clear HO_g1
    go_wp2_with fail
    refine (eqIntS_any (retryG fl now limit) (retryG fl now limit) A_g1 A_w1 (retryG fl now limit).length (retryG fl now limit).length c_g1 c_w1 w5 rfl rfl HLm1.out HLm1.out (own_rd HO_g1_5.out) (own_rd HO_w1_5.out)).mono ?_
    rintro e w6 ⟨rfl, hb6⟩
    have hs6 := hb6.size
    have hbb6 := hbb5.trans (hb6.mono hbb5.size)
    have HO_w0_6 := hid_ (own_below HO_w0_5.out hb6)
    clear HO_w0_5
    have HO_w1_6 := hid_ (own_below HO_w1_5.out hb6)
    clear HO_w1_5
    have HO_xfl_6 := hid_ (own_below HO_xfl_5.out hb6)
    clear HO_xfl_5
    have HO_g0_6 := hid_ (own_below HO_g0_5.out hb6)
    clear HO_g0_5
    have HO_g1_6 := hid_ (own_below HO_g1_5.out hb6)
    clear HO_g1_5
    go_wp2_with fail
    refine (toFlightS_any fl Afl nfl cfl w6 HNfl.out hnsfl (HRfl.out.below hbb6)).mono ?_
    rintro e w7 ⟨A_yfl, c_yfl, rfl, hc_yfl, hcm_yfl, ho_yfl, hb7⟩
    have HC_yfl := hid_ hc_yfl; clear hc_yfl
    have HCM_yfl := hid_ hcm_yfl; clear hcm_yfl
    have hs7 := hb7.size
    have hbb7 := hbb6.trans (hb7.mono hbb6.size)
    have HO_w0_7 := hid_ (own_below HO_w0_6.out hb7)
    clear HO_w0_6
    have HO_w1_7 := hid_ (own_below HO_w1_6.out hb7)
    clear HO_w1_6
    have HO_xfl_7 := hid_ (own_below HO_xfl_6.out hb7)
    clear HO_xfl_6
    have HO_g0_7 := hid_ (own_below HO_g0_6.out hb7)
    clear HO_g0_6
    have HO_g1_7 := hid_ (own_below HO_g1_6.out hb7)
    clear HO_g1_6
    have HO_yfl := hid_ ho_yfl; clear ho_yfl
    have HLT_yfl := hid_ (fun g e => (HO_yfl.out.lt g e).2)
    go_wp2_with fail
    refine (eqFlightS_any fl fl A_xfl A_yfl nfl nfl c_xfl c_yfl w7 HNfl.out HNfl.out HMfl.out HMfl.out (own_rd HO_xfl_7.out) (own_rd HO_yfl.out)).mono ?_
    rintro e w8 ⟨rfl, hb8⟩
    have hs8 := hb8.size
    have hbb8 := hbb7.trans (hb8.mono hbb7.size)
    have HO_w0_8 := hid_ (own_below HO_w0_7.out hb8)
    clear HO_w0_7
    have HO_w1_8 := hid_ (own_below HO_w1_7.out hb8)
    clear HO_w1_7
    have HO_xfl_8 := hid_ (own_below HO_xfl_7.out hb8)
    clear HO_xfl_7
    have HO_g0_8 := hid_ (own_below HO_g0_7.out hb8)
    clear HO_g0_7
    have HO_g1_8 := hid_ (own_below HO_g1_7.out hb8)
    clear HO_g1_7
    have HO_yfl_8 := hid_ (own_below HO_yfl.out hb8)
    clear HO_yfl
    clear HO_yfl_8 HLT_yfl
    go_wp2_with fail
    refine (markFlightS_any A_xfl nfl c_xfl _ 1 _ w8 (by omega) (by omega) (by omega) HO_xfl_8.out).mono ?_
    rintro e w9 ⟨rfl, ho_m9, hg9⟩
    have hs9 := hg9.size
    have HG9 := hid_ hg9; clear hg9
    have hbb9 := hbb8.grown HG9.out hbb8.size (fun g e => by have := (HO_xfl_8.out.lt g e).1; omega)
    have HO_w0_9 := hid_ (own_mark_older HO_w0_8.out HLT_w0.out HO_xfl_8.out (by omega) HG9.out)
    have HO_w1_9 := hid_ (own_mark_older HO_w1_8.out HLT_w1.out HO_xfl_8.out (by omega) HG9.out)
    have HO_g0_9 := hid_ (own_mark_newer HO_g0_8.out HLT_xfl.out (by omega) HG9.out)
    have HO_g1_9 := hid_ (own_mark_newer HO_g1_8.out HLT_xfl.out (by omega) HG9.out)
    clear HO_w0_8
    clear HO_w1_8
    clear HO_xfl_8
    clear HO_g0_8
    clear HO_g1_8
    have HO_xfl_9 := hid_ ho_m9; clear ho_m9
    go_wp2_with fail
    refine (eqFlightS_any (retryO fl now limit) (retryO fl now limit) A_g0 A_w0 (retryO fl now limit).length (retryO fl now limit).length c_g0 c_w0 w9 rfl rfl HLm0.out HLm0.out (own_rd HO_g0_9.out) (own_rd HO_w0_9.out)).mono ?_
    rintro e w10 ⟨rfl, hb10⟩
    have hs10 := hb10.size
    have hbb10 := hbb9.trans (hb10.mono hbb9.size)
    have HO_w0_10 := hid_ (own_below HO_w0_9.out hb10)
    clear HO_w0_9
    have HO_w1_10 := hid_ (own_below HO_w1_9.out hb10)
    clear HO_w1_9
    have HO_xfl_10 := hid_ (own_below HO_xfl_9.out hb10)
    clear HO_xfl_9
    have HO_g0_10 := hid_ (own_below HO_g0_9.out hb10)
    clear HO_g0_9
    have HO_g1_10 := hid_ (own_below HO_g1_9.out hb10)
    clear HO_g1_9
    go_wp2_with fail
    refine (eqIntS_any (retryG fl now limit) (retryG fl now limit) A_g1 A_w1 (retryG fl now limit).length (retryG fl now limit).length c_g1 c_w1 w10 rfl rfl HLm1.out HLm1.out (own_rd HO_g1_10.out) (own_rd HO_w1_10.out)).mono ?_
    rintro e w11 ⟨rfl, hb11⟩
    have hs11 := hb11.size
    have hbb11 := hbb10.trans (hb11.mono hbb10.size)
    have HO_w0_11 := hid_ (own_below HO_w0_10.out hb11)
    clear HO_w0_10
    have HO_w1_11 := hid_ (own_below HO_w1_10.out hb11)
    clear HO_w1_10
    have HO_xfl_11 := hid_ (own_below HO_xfl_10.out hb11)
    clear HO_xfl_10
    have HO_g0_11 := hid_ (own_below HO_g0_10.out hb11)
    clear HO_g0_10
    have HO_g1_11 := hid_ (own_below HO_g1_10.out hb11)
    clear HO_g1_10
    clear HO_xfl_11 HLT_xfl
    go_wp2_with fail
    refine (markFlightS_any A_g0 (retryO fl now limit).length c_g0 _ 1 _ w11 (by omega) (by omega) (by omega) HO_g0_11.out).mono ?_
    rintro e w12 ⟨rfl, ho_m12, hg12⟩
    have hs12 := hg12.size
    have HG12 := hid_ hg12; clear hg12
    have hbb12 := hbb11.grown HG12.out hbb11.size (fun g e => by have := (HO_g0_11.out.lt g e).1; omega)
    have HO_w0_12 := hid_ (own_mark_older HO_w0_11.out HLT_w0.out HO_g0_11.out (by omega) HG12.out)
    have HO_w1_12 := hid_ (own_mark_older HO_w1_11.out HLT_w1.out HO_g0_11.out (by omega) HG12.out)
    have HO_g1_12 := hid_ (own_other HO_g1_11.out HO_g0_11.out (by decide) HG12.out)
    clear HO_w0_11
    clear HO_w1_11
    clear HO_g0_11
    clear HO_g1_11
    have HO_g0_12 := hid_ ho_m12; clear ho_m12
    go_wp2_with fail
    refine (markIntS_any A_g1 (retryG fl now limit).length c_g1 _ (1 + ((retryO fl now limit).length : Nat) * 3) _ w12 (by omega) (by omega) (by omega) HO_g1_12.out).mono ?_
    rintro e w13 ⟨rfl, ho_m13, hg13⟩
    have hs13 := hg13.size
    have HG13 := hid_ hg13; clear hg13
    have hbb13 := hbb12.grown HG13.out hbb12.size (fun g e => by have := (HO_g1_12.out.lt g e).1; omega)
    have HO_w0_13 := hid_ (own_mark_older HO_w0_12.out HLT_w0.out HO_g1_12.out (by omega) HG13.out)
    have HO_w1_13 := hid_ (own_mark_older HO_w1_12.out HLT_w1.out HO_g1_12.out (by omega) HG13.out)
    have HO_g0_13 := hid_ (own_other HO_g0_12.out HO_g1_12.out (by decide) HG13.out)
    clear HO_w0_12
    clear HO_w1_12
    clear HO_g0_12
    clear HO_g1_12
    have HO_g1_13 := hid_ ho_m13; clear ho_m13
    go_wp2_with fail
    refine (heldFlightS_any A_g0 (retryO fl now limit).length c_g0 1 w13 (by omega) (by omega) (by omega) (own_rd HO_g0_13.out)).mono ?_
    rintro e w' ⟨rfl, rfl⟩
    go_wp2_with fail
    refine (heldIntS_any A_g1 (retryG fl now limit).length c_g1 (1 + ((retryO fl now limit).length : Nat) * 3) w13 (by omega) (by omega) (by omega) (own_rd HO_g1_13.out)).mono ?_
    rintro e w' ⟨rfl, rfl⟩
    go_wp2_with fail
    refine (toFlightS_any fl Afl nfl cfl w13 HNfl.out hnsfl (HRfl.out.below hbb13)).mono ?_
    rintro e w14 ⟨A_zfl, c_zfl, rfl, hc_zfl, hcm_zfl, ho_zfl, hb14⟩
    have HC_zfl := hid_ hc_zfl; clear hc_zfl
    have HCM_zfl := hid_ hcm_zfl; clear hcm_zfl
    have hs14 := hb14.size
    have hbb14 := hbb13.trans (hb14.mono hbb13.size)
    have HO_w0_14 := hid_ (own_below HO_w0_13.out hb14)
    clear HO_w0_13
    have HO_w1_14 := hid_ (own_below HO_w1_13.out hb14)
    clear HO_w1_13
    have HO_g0_14 := hid_ (own_below HO_g0_13.out hb14)
    clear HO_g0_13
    have HO_g1_14 := hid_ (own_below HO_g1_13.out hb14)
    clear HO_g1_13
    have HO_zfl := hid_ ho_zfl; clear ho_zfl
    have HLT_zfl := hid_ (fun g e => (HO_zfl.out.lt g e).2)
    go_wp2_with fail
    refine (implRetry_any fl A_zfl nfl c_zfl now limit w14 HNfl.out (by omega) HC_zfl.out HCM_zfl.out (own_rd HO_zfl.out)).mono ?_
    rintro e w15 ⟨A_h0, c_h0, A_h1, c_h1, rfl, hc_h0, hcm_h0, hc_h1, hcm_h1, ho_h0, ho_h1, hb15⟩
    clear hc_h0 hcm_h0
    clear hc_h1 hcm_h1
    have hs15 := hb15.size
    have hbb15 := hbb14.trans (hb15.mono hbb14.size)
    have HO_w0_15 := hid_ (own_below HO_w0_14.out hb15)
    clear HO_w0_14
    have HO_w1_15 := hid_ (own_below HO_w1_14.out hb15)
    clear HO_w1_14
    have HO_g0_15 := hid_ (own_below HO_g0_14.out hb15)
    clear HO_g0_14
    have HO_g1_15 := hid_ (own_below HO_g1_14.out hb15)
    clear HO_g1_14
    have HO_zfl_15 := hid_ (own_below HO_zfl.out hb15)
    clear HO_zfl
    have HO_h0 := hid_ ho_h0; clear ho_h0
    have HLT_h0 := hid_ (fun g e => (HO_h0.out.lt g e).2)
    have HO_h1 := hid_ ho_h1; clear ho_h1
    have HLT_h1 := hid_ (fun g e => (HO_h1.out.lt g e).2)
    go_wp2_with fail
    refine (eqFlightS_any (retryO fl now limit) (retryO fl now limit) A_h0 A_w0 (retryO fl now limit).length (retryO fl now limit).length c_h0 c_w0 w15 rfl rfl HLm0.out HLm0.out (own_rd HO_h0.out) (own_rd HO_w0_15.out)).mono ?_
    rintro e w16 ⟨rfl, hb16⟩
    have hs16 := hb16.size
    have hbb16 := hbb15.trans (hb16.mono hbb15.size)
    have HO_w0_16 := hid_ (own_below HO_w0_15.out hb16)
    clear HO_w0_15
    have HO_w1_16 := hid_ (own_below HO_w1_15.out hb16)
    clear HO_w1_15
    have HO_g0_16 := hid_ (own_below HO_g0_15.out hb16)
    clear HO_g0_15
    have HO_g1_16 := hid_ (own_below HO_g1_15.out hb16)
    clear HO_g1_15
    have HO_zfl_16 := hid_ (own_below HO_zfl_15.out hb16)
    clear HO_zfl_15
    have HO_h0_16 := hid_ (own_below HO_h0.out hb16)
    clear HO_h0
    have HO_h1_16 := hid_ (own_below HO_h1.out hb16)
    clear HO_h1
    go_wp2_with fail
    refine (eqIntS_any (retryG fl now limit) (retryG fl now limit) A_h1 A_w1 (retryG fl now limit).length (retryG fl now limit).length c_h1 c_w1 w16 rfl rfl HLm1.out HLm1.out (own_rd HO_h1_16.out) (own_rd HO_w1_16.out)).mono ?_
    rintro e w17 ⟨rfl, hb17⟩
    have hs17 := hb17.size
    have hbb17 := hbb16.trans (hb17.mono hbb16.size)
    have HO_w0_17 := hid_ (own_below HO_w0_16.out hb17)
    clear HO_w0_16
    have HO_w1_17 := hid_ (own_below HO_w1_16.out hb17)
    clear HO_w1_16
    have HO_g0_17 := hid_ (own_below HO_g0_16.out hb17)
    clear HO_g0_16
    have HO_g1_17 := hid_ (own_below HO_g1_16.out hb17)
    clear HO_g1_16
    have HO_zfl_17 := hid_ (own_below HO_zfl_16.out hb17)
    clear HO_zfl_16
    have HO_h0_17 := hid_ (own_below HO_h0_16.out hb17)
    clear HO_h0_16
    have HO_h1_17 := hid_ (own_below HO_h1_16.out hb17)
    clear HO_h1_16
    go_wp2_with fail
    refine (heldFlightS_any A_g0 (retryO fl now limit).length c_g0 1 w17 (by omega) (by omega) (by omega) (own_rd HO_g0_17.out)).mono ?_
    rintro e w' ⟨rfl, rfl⟩
    go_wp2_with fail
    refine (heldIntS_any A_g1 (retryG fl now limit).length c_g1 (1 + ((retryO fl now limit).length : Nat) * 3) w17 (by omega) (by omega) (by omega) (own_rd HO_g1_17.out)).mono ?_
    rintro e w' ⟨rfl, rfl⟩
    go_wp2
    go_returns
    exact ⟨rfl, hbb17⟩


set_option maxRecDepth 100000 in
theorem fnExactRetryFlights_lifted (os : Os) (started : os.Started) (H : Type) (enc : TypeId × Value → H) :
    ReturnsInHanded {} Try.checked os 11 .any (Rows.fnExactRetryFlightsSpec.pre6 enc Try.prog Try.f11 Rows.fnExactRetryFlightsRow.domain false) (Rows.fnExactRetryFlightsSpec.post enc Try.prog Try.f11 false true false false) := by
  refine returnsInHanded_of_change (C := Try.checked) own_ started (by kernel_rfl) Try.func11
    (ChangeSpec.witness6 (enc := enc) (C := Try.checked) false ⟨#[], #[.slice none 0 0, .int .i64 0, .int .i64 0], []⟩ 8 (by kernel_rfl) (by kernel_rfl) (by kernel_rfl) (by kernel_rfl)) ?_
  intro W base args ds gs before hval0 hW hcnd _
  have hval : ∀ (j : Nat) t v, Try.f11.params[j]? = some t → args[j]? = some v → Value.okWide Try.prog W .any base t v := hval0
  have hW' := hW
  obtain ⟨p, q, hA0, hV, rfl, hfz, hnd⟩ := hW
  have hA : DataW.TrodAll enc Try.prog W 0 (fun _ => true) true Try.f11.params.toList args.toList ds p := hA0
  rw [Try.params11] at hA hval
  obtain ⟨v0, vs0, d0, ds0, p0, q0, hargs, rfl, rfl, h0, r0⟩ := trodAll_cons hA
  obtain ⟨v1, vs1, d1, ds1, p1, q1, rfl, rfl, rfl, h1, r1⟩ := trodAll_cons r0
  obtain ⟨v2, vs2, d2, ds2, p2, q2, rfl, rfl, rfl, h2, r2⟩ := trodAll_cons r1
  obtain ⟨rfl, rfl, rfl⟩ := trodAll_nil r2
  obtain rfl : args = #[v0, v1, v2] := by cases args; simp_all
  obtain ⟨rfl, rfl⟩ := trodVars_none hV
  obtain ⟨a0, len0, cap0, rfl⟩ := okWide_slice Try.underlying22 (hval 0 22 v0 rfl rfl)
  have k0 := h0
  have lt0 : ∀ x ∈ p0, x.block < W.heap.size := by obtain ⟨m, hm⟩ := k0; exact DataW.trod_lt m _ _ _ hm
  obtain ⟨z0, e0, lc0, cm0, w0, rd0⟩ := open_fl h0
  obtain ⟨a1, rfl, rfl, rfl, wf1⟩ := open_int Try.underlying3 (hval 1 3 v1 rfl rfl) h1
  obtain ⟨a2, rfl, rfl, rfl, wf2⟩ := open_int Try.underlying3 (hval 2 3 v2 rfl rfl) h2
  clear hA0 hval0
  refine (fnExactRetryFlights_walk z0 a0 len0 cap0 a1 a2 W e0 lc0 cm0 w0 rd0 (wf_i64 wf1) (wf_i64 wf2)).mono fun e W' ⟨he, bel⟩ => ?_
  subst he
  exact ⟨_, rfl, _, _, _, [], _, [], hW', trodAll_mk1 (shut_bool Try.underlying4 _), (trodAll_cons_mk (Below.trod laidOut_ (by kernel_rfl) (of_decide_eq_true (by kernel_rfl)) k0 bel lt0) (trodAll_cons_mk (shut_int Try.underlying3 wf1) (trodAll_cons_mk (shut_int Try.underlying3 wf2) trodAll_mk0))), rfl, bel.frame _, fun h => by cases h⟩

theorem fnExactRetryFlights_holds : Rows.FnExactRetryFlightsSaid :=
  OpenClaim.holds_of_wide 11 Try.f11 rfl rfl rfl rfl rfl rfl rfl ⟨rfl, rfl, rfl, rfl, rfl⟩ rfl rfl rfl rfl rfl (by kernel_rfl) Try.func11 (by kernel_rfl)
    (of_decide_eq_true (by kernel_rfl)) (by unfold Func.isWrapper; first | (rw [if_pos (by decide +kernel)]; kernel_rfl) | (rw [if_neg (by decide +kernel)]; exact ⟨rfl, rfl⟩))
    (fun os started H enc _ => fnExactRetryFlights_lifted os started H enc)

end Go.Proofs.Ytfinefjihphnhaa
