/-
  Barriers: the exact law of DurableItems.
-/
import Derived.Test.YtfmkjhkopocokaaDuA
import Derived.Test.YtfmkjhkopocokaaOpenI
namespace Go.Proofs.Ytfmkjhkopocokaa
open Go.ChangeShapes Go.WideShapes Go.ChangeAt Go.RowKit Go.BigFrame Go.Deep

set_option maxHeartbeats 2000000 in
theorem exactDur_walk (fl : List It) (Afl : Option Addr) (nfl cfl : Nat) (o : List Int) (Ao : Option Addr) (no co : Nat) (done : Int) (w : World) (hnfl : fl.length = nfl) (hcfl : nfl ≤ cfl) (hcmfl : cfl ≤ maxLen) (qfl : ∀ f ∈ fl, I64 f.number) (hRfl : Rd w 2 Afl nfl (itC fl)) (hno : o.length = no) (hco : no ≤ co) (hcmo : co ≤ maxLen) (qo : ∀ f ∈ o, I64 f) (hRo : Rd w 1 Ao no (intC o)) (qdone : I64 done) :
    Calls Try.prog 10 #[.slice Afl nfl cfl, .slice Ao no co, .int .i64 done] w fun e w' => e = .returned (.bool true) ∧ Below w.heap.size w w' := by
  clear qdone
  clear qfl
  have HMfl := hid_ (Nat.le_trans hcfl hcmfl)
  have hmfl : nfl ≤ 9223372036854775807 := by have := HMfl.out; unfold maxLen at this; omega
  clear hcfl hcmfl
  have HRfl := hid_ hRfl; clear hRfl
  have HNfl := hid_ hnfl; clear hnfl
  clear qo
  have HMo := hid_ (Nat.le_trans hco hcmo)
  have hmo : no ≤ 9223372036854775807 := by have := HMo.out; unfold maxLen at this; omega
  clear hco hcmo
  have HRo := hid_ hRo; clear hRo
  have HNo := hid_ hno; clear hno
  by_cases hbigo : (1048576 : Int) < (no : Int)
  · go_enter Try.func10, Try.ntmps10
    go_wp2
    go_returns
    exact ⟨rfl, Below.refl _ _⟩
  · have hnso : no ≤ 1048576 := by omega
    by_cases hbigfl : (1048576 : Int) < (nfl : Int)
    · go_enter Try.func10, Try.ntmps10
      go_wp2_with (go_at_call 12; refine (szIt_any Afl nfl cfl 1048576 _ HMfl.out (by omega) (by omega)).mono ?_; rw [if_pos hbigfl]; rintro e w1 ⟨rfl, rfl⟩)
      go_returns
      exact ⟨rfl, Below.refl _ _⟩
    · have hnsfl : nfl ≤ 1048576 := by omega
      have hl0 : (durR fl o done).length ≤ 1048576 := Nat.le_trans (durR_length fl o done) (by rw [HNfl.out]; exact hnsfl)
      have HLm0 := hid_ (show (durR fl o done).length ≤ maxLen by unfold maxLen; omega)
      go_enter Try.func10, Try.ntmps10
      go_wp2_with fail
      refine (szIt_any Afl nfl cfl 1048576 _ HMfl.out (by omega) (by omega)).mono ?_
      rw [if_neg (show ¬ (1048576 : Int) < (nfl : Int) by omega)]
      rintro e w' ⟨rfl, rfl⟩
      go_wp2_with fail
      refine (toItemS_any fl Afl nfl cfl w HNfl.out hnsfl (HRfl.out.below (Below.refl w.heap.size w))).mono ?_
      rintro e w1 ⟨A_sfl, c_sfl, rfl, hc_sfl, hcm_sfl, ho_sfl, hb1⟩
      have HC_sfl := hid_ hc_sfl; clear hc_sfl
      have HCM_sfl := hid_ hcm_sfl; clear hcm_sfl
      have hs1 := hb1.size
      have hbb1 := (Below.refl w.heap.size w).trans (hb1.mono (Below.refl w.heap.size w).size)
      have HO_sfl := hid_ ho_sfl; clear ho_sfl
      have HLT_sfl := hid_ (fun g e => (HO_sfl.out.lt g e).2)
      go_wp2_with fail
      refine (toIntS_any o Ao no co w1 HNo.out hnso (HRo.out.below hbb1)).mono ?_
      rintro e w2 ⟨A_so, c_so, rfl, hc_so, hcm_so, ho_so, hb2⟩
      have HC_so := hid_ hc_so; clear hc_so
      have HCM_so := hid_ hcm_so; clear hcm_so
      have hs2 := hb2.size
      have hbb2 := hbb1.trans (hb2.mono hbb1.size)
      have HO_sfl_2 := hid_ (own_below HO_sfl.out hb2)
      clear HO_sfl
      have HO_so := hid_ ho_so; clear ho_so
      have HLT_so := hid_ (fun g e => (HO_so.out.lt g e).2)
      go_wp2_with fail
      refine (specDur_any fl A_sfl nfl c_sfl o A_so no c_so done w2 HNfl.out (by omega) (own_rd HO_sfl_2.out) HNo.out (by omega) (own_rd HO_so.out)).mono ?_
      rintro e w3 ⟨A_w0, c_w0, rfl, hc_w0, hcm_w0, ho_w0, hb3⟩
      clear hc_w0 hcm_w0
      have hs3 := hb3.size
      have hbb3 := hbb2.trans (hb3.mono hbb2.size)
      have HO_sfl_3 := hid_ (own_below HO_sfl_2.out hb3)
      clear HO_sfl_2
      have HO_so_3 := hid_ (own_below HO_so.out hb3)
      clear HO_so
      have HO_w0 := hid_ ho_w0; clear ho_w0
      have HLT_w0 := hid_ (fun g e => (HO_w0.out.lt g e).2)
      clear HO_sfl_3 HLT_sfl
      clear HO_so_3 HLT_so
      go_wp2_with fail
      refine (toItemS_any fl Afl nfl cfl w3 HNfl.out hnsfl (HRfl.out.below hbb3)).mono ?_
      rintro e w4 ⟨A_xfl, c_xfl, rfl, hc_xfl, hcm_xfl, ho_xfl, hb4⟩
      have HC_xfl := hid_ hc_xfl; clear hc_xfl
      have HCM_xfl := hid_ hcm_xfl; clear hcm_xfl
      have hs4 := hb4.size
      have hbb4 := hbb3.trans (hb4.mono hbb3.size)
      have HO_w0_4 := hid_ (own_below HO_w0.out hb4)
      clear HO_w0
      have HO_xfl := hid_ ho_xfl; clear ho_xfl
      have HLT_xfl := hid_ (fun g e => (HO_xfl.out.lt g e).2)
      go_wp2_with fail
      refine (toIntS_any o Ao no co w4 HNo.out hnso (HRo.out.below hbb4)).mono ?_
      rintro e w5 ⟨A_xo, c_xo, rfl, hc_xo, hcm_xo, ho_xo, hb5⟩
      have HC_xo := hid_ hc_xo; clear hc_xo
      have HCM_xo := hid_ hcm_xo; clear hcm_xo
      have hs5 := hb5.size
      have hbb5 := hbb4.trans (hb5.mono hbb4.size)
      have HO_w0_5 := hid_ (own_below HO_w0_4.out hb5)
      clear HO_w0_4
      have HO_xfl_5 := hid_ (own_below HO_xfl.out hb5)
      clear HO_xfl
      have HO_xo := hid_ ho_xo; clear ho_xo
      have HLT_xo := hid_ (fun g e => (HO_xo.out.lt g e).2)
      go_wp2_with fail
      refine (implDur_any fl A_xfl nfl c_xfl o A_xo no c_xo done w5 HNfl.out (by omega) HC_xfl.out HCM_xfl.out (own_rd HO_xfl_5.out) HNo.out (by omega) HC_xo.out HCM_xo.out (own_rd HO_xo.out)).mono ?_
      rintro e w6 ⟨A_g0, c_g0, rfl, hc_g0, hcm_g0, ho_g0, hb6⟩
      clear hc_g0 hcm_g0
      have hs6 := hb6.size
      have hbb6 := hbb5.trans (hb6.mono hbb5.size)
      have HO_w0_6 := hid_ (own_below HO_w0_5.out hb6)
      clear HO_w0_5
      have HO_xfl_6 := hid_ (own_below HO_xfl_5.out hb6)
      clear HO_xfl_5
      have HO_xo_6 := hid_ (own_below HO_xo.out hb6)
      clear HO_xo
      have HO_g0 := hid_ ho_g0; clear ho_g0
      have HLT_g0 := hid_ (fun g e => (HO_g0.out.lt g e).2)
      go_wp2_with fail
      refine (eqIntS_any (durR fl o done) (durR fl o done) A_g0 A_w0 (durR fl o done).length (durR fl o done).length c_g0 c_w0 w6 rfl rfl HLm0.out HLm0.out (own_rd HO_g0.out) (own_rd HO_w0_6.out)).mono ?_
      rintro e w7 ⟨rfl, hb7⟩
      have hs7 := hb7.size
      have hbb7 := hbb6.trans (hb7.mono hbb6.size)
      have HO_w0_7 := hid_ (own_below HO_w0_6.out hb7)
      clear HO_w0_6
      have HO_xfl_7 := hid_ (own_below HO_xfl_6.out hb7)
      clear HO_xfl_6
      have HO_xo_7 := hid_ (own_below HO_xo_6.out hb7)
      clear HO_xo_6
      have HO_g0_7 := hid_ (own_below HO_g0.out hb7)
      clear HO_g0
      go_wp2_with fail
      refine (toItemS_any fl Afl nfl cfl w7 HNfl.out hnsfl (HRfl.out.below hbb7)).mono ?_
      rintro e w8 ⟨A_yfl, c_yfl, rfl, hc_yfl, hcm_yfl, ho_yfl, hb8⟩
      have HC_yfl := hid_ hc_yfl; clear hc_yfl
      have HCM_yfl := hid_ hcm_yfl; clear hcm_yfl
      have hs8 := hb8.size
      have hbb8 := hbb7.trans (hb8.mono hbb7.size)
      have HO_w0_8 := hid_ (own_below HO_w0_7.out hb8)
      clear HO_w0_7
      have HO_xfl_8 := hid_ (own_below HO_xfl_7.out hb8)
      clear HO_xfl_7
      have HO_xo_8 := hid_ (own_below HO_xo_7.out hb8)
      clear HO_xo_7
      have HO_g0_8 := hid_ (own_below HO_g0_7.out hb8)
      clear HO_g0_7
      have HO_yfl := hid_ ho_yfl; clear ho_yfl
      have HLT_yfl := hid_ (fun g e => (HO_yfl.out.lt g e).2)
      go_wp2_with fail
      refine (eqItemS_any fl fl A_xfl A_yfl nfl nfl c_xfl c_yfl w8 HNfl.out HNfl.out HMfl.out HMfl.out (own_rd HO_xfl_8.out) (own_rd HO_yfl.out)).mono ?_
      rintro e w9 ⟨rfl, hb9⟩
      have hs9 := hb9.size
      have hbb9 := hbb8.trans (hb9.mono hbb8.size)
      have HO_w0_9 := hid_ (own_below HO_w0_8.out hb9)
      clear HO_w0_8
      have HO_xfl_9 := hid_ (own_below HO_xfl_8.out hb9)
      clear HO_xfl_8
      have HO_xo_9 := hid_ (own_below HO_xo_8.out hb9)
      clear HO_xo_8
      have HO_g0_9 := hid_ (own_below HO_g0_8.out hb9)
      clear HO_g0_8
      have HO_yfl_9 := hid_ (own_below HO_yfl.out hb9)
      clear HO_yfl
      clear HO_yfl_9 HLT_yfl
      go_wp2_with fail
      refine (toIntS_any o Ao no co w9 HNo.out hnso (HRo.out.below hbb9)).mono ?_
      rintro e w10 ⟨A_yo, c_yo, rfl, hc_yo, hcm_yo, ho_yo, hb10⟩
      have HC_yo := hid_ hc_yo; clear hc_yo
      have HCM_yo := hid_ hcm_yo; clear hcm_yo
      have hs10 := hb10.size
      have hbb10 := hbb9.trans (hb10.mono hbb9.size)
      have HO_w0_10 := hid_ (own_below HO_w0_9.out hb10)
      clear HO_w0_9
      have HO_xfl_10 := hid_ (own_below HO_xfl_9.out hb10)
      clear HO_xfl_9
      have HO_xo_10 := hid_ (own_below HO_xo_9.out hb10)
      clear HO_xo_9
      have HO_g0_10 := hid_ (own_below HO_g0_9.out hb10)
      clear HO_g0_9
      have HO_yo := hid_ ho_yo; clear ho_yo
      have HLT_yo := hid_ (fun g e => (HO_yo.out.lt g e).2)
      go_wp2_with fail
      refine (eqIntS_any o o A_xo A_yo no no c_xo c_yo w10 HNo.out HNo.out HMo.out HMo.out (own_rd HO_xo_10.out) (own_rd HO_yo.out)).mono ?_
      rintro e w11 ⟨rfl, hb11⟩
      have hs11 := hb11.size
      have hbb11 := hbb10.trans (hb11.mono hbb10.size)
      have HO_w0_11 := hid_ (own_below HO_w0_10.out hb11)
      clear HO_w0_10
      have HO_xfl_11 := hid_ (own_below HO_xfl_10.out hb11)
      clear HO_xfl_10
      have HO_xo_11 := hid_ (own_below HO_xo_10.out hb11)
      clear HO_xo_10
      have HO_g0_11 := hid_ (own_below HO_g0_10.out hb11)
      clear HO_g0_10
      have HO_yo_11 := hid_ (own_below HO_yo.out hb11)
      clear HO_yo
      clear HO_yo_11 HLT_yo
      go_wp2_with fail
      refine (markItemS_any A_xfl nfl c_xfl _ 1 _ w11 (by omega) (by omega) (by omega) HO_xfl_11.out).mono ?_
      rintro e w12 ⟨rfl, ho_m12, hg12⟩
      have hs12 := hg12.size
      have HG12 := hid_ hg12; clear hg12
      have hbb12 := hbb11.grown HG12.out hbb11.size (fun g e => by have := (HO_xfl_11.out.lt g e).1; omega)
      have HO_w0_12 := hid_ (own_mark_older HO_w0_11.out HLT_w0.out HO_xfl_11.out (by omega) HG12.out)
      have HO_xo_12 := hid_ (own_mark_newer HO_xo_11.out HLT_xfl.out (by omega) HG12.out)
      have HO_g0_12 := hid_ (own_mark_newer HO_g0_11.out HLT_xfl.out (by omega) HG12.out)
      clear HO_w0_11
      clear HO_xfl_11
      clear HO_xo_11
      clear HO_g0_11
      have HO_xfl_12 := hid_ ho_m12; clear ho_m12
      go_wp2_with fail
      refine (markIntS_any A_xo no c_xo _ (1 + (nfl : Nat) * 2) _ w12 (by omega) (by omega) (by omega) HO_xo_12.out).mono ?_
      rintro e w13 ⟨rfl, ho_m13, hg13⟩
      have hs13 := hg13.size
      have HG13 := hid_ hg13; clear hg13
      have hbb13 := hbb12.grown HG13.out hbb12.size (fun g e => by have := (HO_xo_12.out.lt g e).1; omega)
      have HO_w0_13 := hid_ (own_mark_older HO_w0_12.out HLT_w0.out HO_xo_12.out (by omega) HG13.out)
      have HO_xfl_13 := hid_ (own_mark_older HO_xfl_12.out HLT_xfl.out HO_xo_12.out (by omega) HG13.out)
      have HO_g0_13 := hid_ (own_mark_newer HO_g0_12.out HLT_xo.out (by omega) HG13.out)
      clear HO_w0_12
      clear HO_xfl_12
      clear HO_xo_12
      clear HO_g0_12
      have HO_xo_13 := hid_ ho_m13; clear ho_m13
      go_wp2_with fail
      refine (eqIntS_any (durR fl o done) (durR fl o done) A_g0 A_w0 (durR fl o done).length (durR fl o done).length c_g0 c_w0 w13 rfl rfl HLm0.out HLm0.out (own_rd HO_g0_13.out) (own_rd HO_w0_13.out)).mono ?_
      rintro e w14 ⟨rfl, hb14⟩
      have hs14 := hb14.size
      have hbb14 := hbb13.trans (hb14.mono hbb13.size)
      have HO_w0_14 := hid_ (own_below HO_w0_13.out hb14)
      clear HO_w0_13
      have HO_xfl_14 := hid_ (own_below HO_xfl_13.out hb14)
      clear HO_xfl_13
      have HO_xo_14 := hid_ (own_below HO_xo_13.out hb14)
      clear HO_xo_13
      have HO_g0_14 := hid_ (own_below HO_g0_13.out hb14)
      clear HO_g0_13
      clear HO_xfl_14 HLT_xfl
      clear HO_xo_14 HLT_xo
      go_wp2_with fail
      refine (markIntS_any A_g0 (durR fl o done).length c_g0 _ 1 _ w14 (by omega) (by omega) (by omega) HO_g0_14.out).mono ?_
      rintro e w15 ⟨rfl, ho_m15, hg15⟩
      have hs15 := hg15.size
      have HG15 := hid_ hg15; clear hg15
      have hbb15 := hbb14.grown HG15.out hbb14.size (fun g e => by have := (HO_g0_14.out.lt g e).1; omega)
      have HO_w0_15 := hid_ (own_mark_older HO_w0_14.out HLT_w0.out HO_g0_14.out (by omega) HG15.out)
      clear HO_w0_14
      clear HO_g0_14
      have HO_g0_15 := hid_ ho_m15; clear ho_m15
      go_wp2_with fail
      refine (heldIntS_any A_g0 (durR fl o done).length c_g0 1 w15 (by omega) (by omega) (by omega) (own_rd HO_g0_15.out)).mono ?_
      rintro e w' ⟨rfl, rfl⟩
      go_wp2_with fail
      refine (toItemS_any fl Afl nfl cfl w15 HNfl.out hnsfl (HRfl.out.below hbb15)).mono ?_
      rintro e w16 ⟨A_zfl, c_zfl, rfl, hc_zfl, hcm_zfl, ho_zfl, hb16⟩
      have HC_zfl := hid_ hc_zfl; clear hc_zfl
      have HCM_zfl := hid_ hcm_zfl; clear hcm_zfl
      have hs16 := hb16.size
      have hbb16 := hbb15.trans (hb16.mono hbb15.size)
      have HO_w0_16 := hid_ (own_below HO_w0_15.out hb16)
      clear HO_w0_15
      have HO_g0_16 := hid_ (own_below HO_g0_15.out hb16)
      clear HO_g0_15
      have HO_zfl := hid_ ho_zfl; clear ho_zfl
      have HLT_zfl := hid_ (fun g e => (HO_zfl.out.lt g e).2)
      go_wp2_with fail
      refine (toIntS_any o Ao no co w16 HNo.out hnso (HRo.out.below hbb16)).mono ?_
      rintro e w17 ⟨A_zo, c_zo, rfl, hc_zo, hcm_zo, ho_zo, hb17⟩
      have HC_zo := hid_ hc_zo; clear hc_zo
      have HCM_zo := hid_ hcm_zo; clear hcm_zo
      have hs17 := hb17.size
      have hbb17 := hbb16.trans (hb17.mono hbb16.size)
      have HO_w0_17 := hid_ (own_below HO_w0_16.out hb17)
      clear HO_w0_16
      have HO_g0_17 := hid_ (own_below HO_g0_16.out hb17)
      clear HO_g0_16
      have HO_zfl_17 := hid_ (own_below HO_zfl.out hb17)
      clear HO_zfl
      have HO_zo := hid_ ho_zo; clear ho_zo
      have HLT_zo := hid_ (fun g e => (HO_zo.out.lt g e).2)
      go_wp2_with fail
      refine (implDur_any fl A_zfl nfl c_zfl o A_zo no c_zo done w17 HNfl.out (by omega) HC_zfl.out HCM_zfl.out (own_rd HO_zfl_17.out) HNo.out (by omega) HC_zo.out HCM_zo.out (own_rd HO_zo.out)).mono ?_
      rintro e w18 ⟨A_h0, c_h0, rfl, hc_h0, hcm_h0, ho_h0, hb18⟩
      clear hc_h0 hcm_h0
      have hs18 := hb18.size
      have hbb18 := hbb17.trans (hb18.mono hbb17.size)
      have HO_w0_18 := hid_ (own_below HO_w0_17.out hb18)
      clear HO_w0_17
      have HO_g0_18 := hid_ (own_below HO_g0_17.out hb18)
      clear HO_g0_17
      have HO_zfl_18 := hid_ (own_below HO_zfl_17.out hb18)
      clear HO_zfl_17
      have HO_zo_18 := hid_ (own_below HO_zo.out hb18)
      clear HO_zo
      have HO_h0 := hid_ ho_h0; clear ho_h0
      have HLT_h0 := hid_ (fun g e => (HO_h0.out.lt g e).2)
      go_wp2_with fail
      refine (eqIntS_any (durR fl o done) (durR fl o done) A_h0 A_w0 (durR fl o done).length (durR fl o done).length c_h0 c_w0 w18 rfl rfl HLm0.out HLm0.out (own_rd HO_h0.out) (own_rd HO_w0_18.out)).mono ?_
      rintro e w19 ⟨rfl, hb19⟩
      have hs19 := hb19.size
      have hbb19 := hbb18.trans (hb19.mono hbb18.size)
      have HO_w0_19 := hid_ (own_below HO_w0_18.out hb19)
      clear HO_w0_18
      have HO_g0_19 := hid_ (own_below HO_g0_18.out hb19)
      clear HO_g0_18
      have HO_zfl_19 := hid_ (own_below HO_zfl_18.out hb19)
      clear HO_zfl_18
      have HO_zo_19 := hid_ (own_below HO_zo_18.out hb19)
      clear HO_zo_18
      have HO_h0_19 := hid_ (own_below HO_h0.out hb19)
      clear HO_h0
      go_wp2_with fail
      refine (heldIntS_any A_g0 (durR fl o done).length c_g0 1 w19 (by omega) (by omega) (by omega) (own_rd HO_g0_19.out)).mono ?_
      rintro e w' ⟨rfl, rfl⟩
      go_wp2
      go_returns
      exact ⟨rfl, hbb19⟩


set_option maxRecDepth 100000 in
theorem fnExactDurableItems_lifted (os : Os) (started : os.Started) (H : Type) (enc : TypeId × Value → H) :
    ReturnsInHanded {} Try.checked os 10 .any (Rows.fnExactDurableItemsSpec.pre6 enc Try.prog Try.f10 Rows.fnExactDurableItemsRow.domain false) (Rows.fnExactDurableItemsSpec.post enc Try.prog Try.f10 false true false false) := by
  refine returnsInHanded_of_change (C := Try.checked) own_ started (by kernel_rfl) Try.func10
    (ChangeSpec.witness6 (enc := enc) (C := Try.checked) false ⟨#[], #[.slice none 0 0, .slice none 0 0, .int .i64 0], []⟩ 8 (by kernel_rfl) (by kernel_rfl) (by kernel_rfl) (by kernel_rfl)) ?_
  intro W base args ds gs before hval0 hW hcnd _
  have hval : ∀ (j : Nat) t v, Try.f10.params[j]? = some t → args[j]? = some v → Value.okWide Try.prog W .any base t v := hval0
  have hW' := hW
  obtain ⟨p, q, hA0, hV, rfl, hfz, hnd⟩ := hW
  have hA : DataW.TrodAll enc Try.prog W 0 (fun _ => true) true Try.f10.params.toList args.toList ds p := hA0
  rw [Try.params10] at hA hval
  obtain ⟨v0, vs0, d0, ds0, p0, q0, hargs, rfl, rfl, h0, r0⟩ := trodAll_cons hA
  obtain ⟨v1, vs1, d1, ds1, p1, q1, rfl, rfl, rfl, h1, r1⟩ := trodAll_cons r0
  obtain ⟨v2, vs2, d2, ds2, p2, q2, rfl, rfl, rfl, h2, r2⟩ := trodAll_cons r1
  obtain ⟨rfl, rfl, rfl⟩ := trodAll_nil r2
  obtain rfl : args = #[v0, v1, v2] := by cases args; simp_all
  obtain ⟨rfl, rfl⟩ := trodVars_none hV
  obtain ⟨a0, len0, cap0, rfl⟩ := okWide_slice Try.underlying22 (hval 0 22 v0 rfl rfl)
  have k0 := h0
  have lt0 : ∀ x ∈ p0, x.block < W.heap.size := by obtain ⟨m, hm⟩ := k0; exact DataW.trod_lt m _ _ _ hm
  obtain ⟨z0, e0, lc0, cm0, w0, rd0⟩ := open_item h0
  obtain ⟨a1, len1, cap1, rfl⟩ := okWide_slice Try.underlying38 (hval 1 38 v1 rfl rfl)
  have k1 := h1
  have lt1 : ∀ x ∈ p1, x.block < W.heap.size := by obtain ⟨m, hm⟩ := k1; exact DataW.trod_lt m _ _ _ hm
  obtain ⟨z1, e1, lc1, cm1, w1, rd1⟩ := open_ints_ h1
  obtain ⟨a2, rfl, rfl, rfl, wf2⟩ := open_int Try.underlying3 (hval 2 3 v2 rfl rfl) h2
  clear hA0 hval0
  refine (exactDur_walk z0 a0 len0 cap0 z1 a1 len1 cap1 a2 W e0 lc0 cm0 w0 rd0 e1 lc1 cm1 w1 rd1 (wf_i64 wf2)).mono fun e W' ⟨he, bel⟩ => ?_
  subst he
  exact ⟨_, rfl, _, _, _, [], _, [], hW', trodAll_mk1 (shut_bool Try.underlying4 _), (trodAll_cons_mk (Below.trod laidOut_ (by kernel_rfl) (of_decide_eq_true (by kernel_rfl)) k0 bel lt0) (trodAll_cons_mk (Below.trod laidOut_ (by kernel_rfl) (of_decide_eq_true (by kernel_rfl)) k1 bel lt1) (trodAll_cons_mk (shut_int Try.underlying3 wf2) trodAll_mk0))), rfl, bel.frame _, fun h => by cases h⟩

theorem fnExactDurableItems_holds : Rows.FnExactDurableItemsSaid :=
  OpenClaim.holds_of_wide 10 Try.f10 rfl rfl rfl rfl rfl rfl rfl ⟨rfl, rfl, rfl, rfl, rfl⟩ rfl rfl rfl rfl rfl (by kernel_rfl) Try.func10 (by kernel_rfl)
    (of_decide_eq_true (by kernel_rfl)) (by unfold Func.isWrapper; first | (rw [if_pos (by decide +kernel)]; kernel_rfl) | (rw [if_neg (by decide +kernel)]; exact ⟨rfl, rfl⟩))
    (fun os started H enc _ => fnExactDurableItems_lifted os started H enc)

end Go.Proofs.Ytfmkjhkopocokaa
