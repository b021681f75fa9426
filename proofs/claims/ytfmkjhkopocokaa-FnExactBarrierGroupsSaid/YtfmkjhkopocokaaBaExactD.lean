/-
  Barriers: the exact law of BarrierGroups.
-/
import Derived.Test.YtfmkjhkopocokaaGrC
import Derived.Test.YtfmkjhkopocokaaOpen
namespace Go.Proofs.Ytfmkjhkopocokaa
open Go.ChangeShapes Go.WideShapes Go.ChangeAt Go.RowKit Go.BigFrame Go.Deep

theorem implGR_x (l : List It) (A : Option Addr) (n c : Nat) (w : World) (hn : l.length = n) (hm : n ≤ 1048576) (_ : n ≤ c) (_ : c ≤ maxLen) (hR : Rd w 2 A n (itC l)) :
    Calls Try.prog 20 #[.slice A n c] w (RGl w (grpR l)) := implGR_any l A n c w hn (by omega) hR

set_option maxHeartbeats 2000000 in
theorem exactGrp_walk (fl : List It) (Afl : Option Addr) (nfl cfl : Nat) (w : World) (hnfl : fl.length = nfl) (hcfl : nfl ≤ cfl) (hcmfl : cfl ≤ maxLen) (qfl : ∀ f ∈ fl, I64 f.number) (hRfl : Rd w 2 Afl nfl (itC fl)) :
    Calls Try.prog 6 #[.slice Afl nfl cfl] w fun e w' => e = .returned (.bool true) ∧ Below w.heap.size w w' := by
  clear qfl
  have HMfl := hid_ (Nat.le_trans hcfl hcmfl)
  have hmfl : nfl ≤ 9223372036854775807 := by have := HMfl.out; unfold maxLen at this; omega
  clear hcfl hcmfl
  have HRfl := hid_ hRfl; clear hRfl
  have HNfl := hid_ hnfl; clear hnfl
  by_cases hbigfl : (1048576 : Int) < (nfl : Int)
  · go_enter Try.func6, Try.ntmps6
    go_wp2_with (go_at_call 12; refine (szIt_any Afl nfl cfl 1048576 _ HMfl.out (by omega) (by omega)).mono ?_; rw [if_pos hbigfl]; rintro e w1 ⟨rfl, rfl⟩)
    go_returns
    exact ⟨rfl, Below.refl _ _⟩
  · have hnsfl : nfl ≤ 1048576 := by omega
    have hl0 : (grpR fl).length ≤ 1048576 := Nat.le_trans (grpR_length fl) (by omega)
    have HLm0 := hid_ (show (grpR fl).length ≤ maxLen by unfold maxLen; omega)
    have hof0 : 0 ≤ (1 : Int) + (offs (grpR fl) (grpR fl).length : Nat) := by omega
    go_enter Try.func6, Try.ntmps6
    go_wp2_with fail
    refine (szIt_any Afl nfl cfl 1048576 _ HMfl.out (by omega) (by omega)).mono ?_
    rw [if_neg (show ¬ (1048576 : Int) < (nfl : Int) by omega)]
    rintro e w' ⟨rfl, rfl⟩
    go_wp2_with fail
    refine (toItemS_any fl Afl nfl cfl w HNfl.out hnsfl (HRfl.out.below (Below.refl w.heap.size w))).mono ?_
    rintro e w1 ⟨A_sfl, c_sfl, rfl, hc_sfl, hcm_sfl, ho_sfl, hb1⟩
    have HC_sfl := hid_ hc_sfl; clear hc_sfl
    have HCM_sfl := hid_ hcm_sfl; clear hcm_sfl
    have hs1 := hb1.size
    have hbb1 := (Below.refl w.heap.size w).trans (hb1.mono (Below.refl w.heap.size w).size)
    have HO_sfl := hid_ ho_sfl; clear ho_sfl
    have HLT_sfl := hid_ (fun g e => (HO_sfl.out.lt g e).2)
    go_wp2_with fail
    refine (specGrp_any fl A_sfl nfl c_sfl w1 HNfl.out (by omega) (own_rd HO_sfl.out)).mono ?_
    rintro e w2 ⟨A_w0, c_w0, vs_w0, rfl, hc_w0, hcm_w0, ho_w0, hb2⟩
    clear hc_w0 hcm_w0
    have hs2 := hb2.size
    have hbb2 := hbb1.trans (hb2.mono hbb1.size)
    have HO_sfl_2 := hid_ (own_below HO_sfl.out hb2)
    clear HO_sfl
    have HO_w0 := hid_ ho_w0; clear ho_w0
    have HLT_w0 := hid_ (fun g e => (HO_w0.out.row.lt g e).2)
    have HLU_w0 := hid_ (fun j hj g e => (HO_w0.out.blocks j hj g e).2)
    clear HO_sfl_2 HLT_sfl
    go_wp2_with fail
    refine (toItemS_any fl Afl nfl cfl w2 HNfl.out hnsfl (HRfl.out.below hbb2)).mono ?_
    rintro e w3 ⟨A_xfl, c_xfl, rfl, hc_xfl, hcm_xfl, ho_xfl, hb3⟩
    have HC_xfl := hid_ hc_xfl; clear hc_xfl
    have HCM_xfl := hid_ hcm_xfl; clear hcm_xfl
    have hs3 := hb3.size
    have hbb3 := hbb2.trans (hb3.mono hbb2.size)
    have HO_w0_3 := hid_ (HO_w0.out.below hb3)
    clear HO_w0
    have HO_xfl := hid_ ho_xfl; clear ho_xfl
    have HLT_xfl := hid_ (fun g e => (HO_xfl.out.lt g e).2)
    go_wp2_with fail
    refine (implGR_x fl A_xfl nfl c_xfl w3 HNfl.out (by omega) HC_xfl.out HCM_xfl.out (own_rd HO_xfl.out)).mono ?_
    rintro e w4 ⟨A_g0, c_g0, vs_g0, rfl, hc_g0, hcm_g0, ho_g0, hb4⟩
    clear hc_g0 hcm_g0
    have hs4 := hb4.size
    have hbb4 := hbb3.trans (hb4.mono hbb3.size)
    have HO_w0_4 := hid_ (HO_w0_3.out.below hb4)
    clear HO_w0_3
    have HO_xfl_4 := hid_ (own_below HO_xfl.out hb4)
    clear HO_xfl
    have HO_g0 := hid_ ho_g0; clear ho_g0
    have HLT_g0 := hid_ (fun g e => (HO_g0.out.row.lt g e).2)
    have HLU_g0 := hid_ (fun j hj g e => (HO_g0.out.blocks j hj g e).2)
    go_wp2_with fail
    refine (eqIntSS_any (grpR fl) (grpR fl) A_g0 A_w0 (grpR fl).length (grpR fl).length c_g0 c_w0 w4 rfl rfl HLm0.out HLm0.out (HO_g0.out.rd) (HO_w0_4.out.rd)).mono ?_
    rintro e w5 ⟨rfl, hb5⟩
    have hs5 := hb5.size
    have hbb5 := hbb4.trans (hb5.mono hbb4.size)
    have HO_w0_5 := hid_ (HO_w0_4.out.below hb5)
    clear HO_w0_4
    have HO_xfl_5 := hid_ (own_below HO_xfl_4.out hb5)
    clear HO_xfl_4
    have HO_g0_5 := hid_ (HO_g0.out.below hb5)
    clear HO_g0
    go_wp2_with fail
    refine (toItemS_any fl Afl nfl cfl w5 HNfl.out hnsfl (HRfl.out.below hbb5)).mono ?_
    rintro e w6 ⟨A_yfl, c_yfl, rfl, hc_yfl, hcm_yfl, ho_yfl, hb6⟩
    have HC_yfl := hid_ hc_yfl; clear hc_yfl
    have HCM_yfl := hid_ hcm_yfl; clear hcm_yfl
    have hs6 := hb6.size
    have hbb6 := hbb5.trans (hb6.mono hbb5.size)
    have HO_w0_6 := hid_ (HO_w0_5.out.below hb6)
    clear HO_w0_5
    have HO_xfl_6 := hid_ (own_below HO_xfl_5.out hb6)
    clear HO_xfl_5
    have HO_g0_6 := hid_ (HO_g0_5.out.below hb6)
    clear HO_g0_5
    have HO_yfl := hid_ ho_yfl; clear ho_yfl
    have HLT_yfl := hid_ (fun g e => (HO_yfl.out.lt g e).2)
    go_wp2_with fail
    refine (eqItemS_any fl fl A_xfl A_yfl nfl nfl c_xfl c_yfl w6 HNfl.out HNfl.out HMfl.out HMfl.out (own_rd HO_xfl_6.out) (own_rd HO_yfl.out)).mono ?_
    rintro e w7 ⟨rfl, hb7⟩
    have hs7 := hb7.size
    have hbb7 := hbb6.trans (hb7.mono hbb6.size)
    have HO_w0_7 := hid_ (HO_w0_6.out.below hb7)
    clear HO_w0_6
    have HO_xfl_7 := hid_ (own_below HO_xfl_6.out hb7)
    clear HO_xfl_6
    have HO_g0_7 := hid_ (HO_g0_6.out.below hb7)
    clear HO_g0_6
    have HO_yfl_7 := hid_ (own_below HO_yfl.out hb7)
    clear HO_yfl
    clear HO_yfl_7 HLT_yfl
    go_wp2_with fail
    refine (markItemS_any A_xfl nfl c_xfl _ 1 _ w7 (by omega) (by omega) (by omega) HO_xfl_7.out).mono ?_
    rintro e w8 ⟨rfl, ho_m8, hg8⟩
    have hs8 := hg8.size
    have HG8 := hid_ hg8; clear hg8
    have hbb8 := hbb7.grown HG8.out hbb7.size (fun g e => by have := (HO_xfl_7.out.lt g e).1; omega)
    have HO_w0_8 := hid_ (HO_w0_7.out.other HO_xfl_7.out (by decide) (by decide) HG8.out)
    have HO_g0_8 := hid_ (HO_g0_7.out.other HO_xfl_7.out (by decide) (by decide) HG8.out)
    clear HO_w0_7
    clear HO_xfl_7
    clear HO_g0_7
    have HO_xfl_8 := hid_ ho_m8; clear ho_m8
    go_wp2_with fail
    refine (eqIntSS_any (grpR fl) (grpR fl) A_g0 A_w0 (grpR fl).length (grpR fl).length c_g0 c_w0 w8 rfl rfl HLm0.out HLm0.out (HO_g0_8.out.rd) (HO_w0_8.out.rd)).mono ?_
    rintro e w9 ⟨rfl, hb9⟩
    have hs9 := hb9.size
    have hbb9 := hbb8.trans (hb9.mono hbb8.size)
    have HO_w0_9 := hid_ (HO_w0_8.out.below hb9)
    clear HO_w0_8
    have HO_xfl_9 := hid_ (own_below HO_xfl_8.out hb9)
    clear HO_xfl_8
    have HO_g0_9 := hid_ (HO_g0_8.out.below hb9)
    clear HO_g0_8
    clear HO_xfl_9 HLT_xfl
    go_wp2_with fail
    refine (markIntSS_any (grpR fl) vs_g0 A_g0 (grpR fl).length c_g0 _ 1 w9 rfl (grpR_length fl) (grpR_mem fl) (by omega) (by omega) HO_g0_9.out).mono ?_
    rintro e w10 ⟨rfl, ho_m10, hg10⟩
    have hs10 := hg10.size
    have HG10 := hid_ hg10; clear hg10
    have hbb10 := GbRows.below hbb9 HG10.out hbb9.size (fun j hj k e => by have := (HO_g0_9.out.blocks j hj k e).1; omega)
    have HO_w0_10 := hid_ (HO_w0_9.out.older (C := w2.heap.size) HLT_w0.out HLU_w0.out (by omega) HG10.out.os HG10.out.tape HG10.out.output HG10.out.size (GbRows.grown HG10.out (fun j hj k e => by have := (HO_g0_9.out.blocks j hj k e).1; omega)))
    clear HO_w0_9
    clear HO_g0_9
    have HO_g0_10 := hid_ ho_m10; clear ho_m10
    go_wp2_with fail
    refine (heldIntSS_any (grpR fl) vs_g0 A_g0 (grpR fl).length c_g0 _ 1 w10 rfl (grpR_length fl) (grpR_mem fl) (by omega) (by omega) HO_g0_10.out).mono ?_
    rintro e w' ⟨rfl, rfl⟩
    go_wp2_with fail
    refine (toItemS_any fl Afl nfl cfl w10 HNfl.out hnsfl (HRfl.out.below hbb10)).mono ?_
    rintro e w11 ⟨A_zfl, c_zfl, rfl, hc_zfl, hcm_zfl, ho_zfl, hb11⟩
    have HC_zfl := hid_ hc_zfl; clear hc_zfl
    have HCM_zfl := hid_ hcm_zfl; clear hcm_zfl
    have hs11 := hb11.size
    have hbb11 := hbb10.trans (hb11.mono hbb10.size)
    have HO_w0_11 := hid_ (HO_w0_10.out.below hb11)
    clear HO_w0_10
    have HO_g0_11 := hid_ (HO_g0_10.out.below hb11)
    clear HO_g0_10
    have HO_zfl := hid_ ho_zfl; clear ho_zfl
    have HLT_zfl := hid_ (fun g e => (HO_zfl.out.lt g e).2)
    go_wp2_with fail
    refine (implGR_x fl A_zfl nfl c_zfl w11 HNfl.out (by omega) HC_zfl.out HCM_zfl.out (own_rd HO_zfl.out)).mono ?_
    rintro e w12 ⟨A_h0, c_h0, vs_h0, rfl, hc_h0, hcm_h0, ho_h0, hb12⟩
    clear hc_h0 hcm_h0
    have hs12 := hb12.size
    have hbb12 := hbb11.trans (hb12.mono hbb11.size)
    have HO_w0_12 := hid_ (HO_w0_11.out.below hb12)
    clear HO_w0_11
    have HO_g0_12 := hid_ (HO_g0_11.out.below hb12)
    clear HO_g0_11
    have HO_zfl_12 := hid_ (own_below HO_zfl.out hb12)
    clear HO_zfl
    have HO_h0 := hid_ ho_h0; clear ho_h0
    have HLT_h0 := hid_ (fun g e => (HO_h0.out.row.lt g e).2)
    have HLU_h0 := hid_ (fun j hj g e => (HO_h0.out.blocks j hj g e).2)
    go_wp2_with fail
    refine (eqIntSS_any (grpR fl) (grpR fl) A_h0 A_w0 (grpR fl).length (grpR fl).length c_h0 c_w0 w12 rfl rfl HLm0.out HLm0.out (HO_h0.out.rd) (HO_w0_12.out.rd)).mono ?_
    rintro e w13 ⟨rfl, hb13⟩
    have hs13 := hb13.size
    have hbb13 := hbb12.trans (hb13.mono hbb12.size)
    have HO_w0_13 := hid_ (HO_w0_12.out.below hb13)
    clear HO_w0_12
    have HO_g0_13 := hid_ (HO_g0_12.out.below hb13)
    clear HO_g0_12
    have HO_zfl_13 := hid_ (own_below HO_zfl_12.out hb13)
    clear HO_zfl_12
    have HO_h0_13 := hid_ (HO_h0.out.below hb13)
    clear HO_h0
    go_wp2_with fail
    refine (heldIntSS_any (grpR fl) vs_g0 A_g0 (grpR fl).length c_g0 _ 1 w13 rfl (grpR_length fl) (grpR_mem fl) (by omega) (by omega) HO_g0_13.out).mono ?_
    rintro e w' ⟨rfl, rfl⟩
    go_wp2
    go_returns
    exact ⟨rfl, hbb13⟩


set_option maxRecDepth 100000 in
theorem fnExactBarrierGroups_lifted (os : Os) (started : os.Started) (H : Type) (enc : TypeId × Value → H) :
    ReturnsInHanded {} Try.checked os 6 .any (Rows.fnExactBarrierGroupsSpec.pre6 enc Try.prog Try.f6 Rows.fnExactBarrierGroupsRow.domain false) (Rows.fnExactBarrierGroupsSpec.post enc Try.prog Try.f6 false true false false) := by
  refine returnsInHanded_of_change (C := Try.checked) own_ started (by kernel_rfl) Try.func6
    (ChangeSpec.witness6 (enc := enc) (C := Try.checked) false ⟨#[], #[.slice none 0 0], []⟩ 8 (by kernel_rfl) (by kernel_rfl) (by kernel_rfl) (by kernel_rfl)) ?_
  intro W base args ds gs before hval0 hW hcnd _
  have hval : ∀ (j : Nat) t v, Try.f6.params[j]? = some t → args[j]? = some v → Value.okWide Try.prog W .any base t v := hval0
  have hW' := hW
  obtain ⟨p, q, hA0, hV, rfl, hfz, hnd⟩ := hW
  have hA : DataW.TrodAll enc Try.prog W 0 (fun _ => true) true Try.f6.params.toList args.toList ds p := hA0
  rw [Try.params6] at hA hval
  obtain ⟨v0, vs0, d0, ds0, p0, q0, hargs, rfl, rfl, h0, r0⟩ := trodAll_cons hA
  obtain ⟨rfl, rfl, rfl⟩ := trodAll_nil r0
  obtain rfl : args = #[v0] := by cases args; simp_all
  obtain ⟨rfl, rfl⟩ := trodVars_none hV
  obtain ⟨a0, len0, cap0, rfl⟩ := okWide_slice Try.underlying22 (hval 0 22 v0 rfl rfl)
  have k0 := h0
  have lt0 : ∀ x ∈ p0, x.block < W.heap.size := by obtain ⟨m, hm⟩ := k0; exact DataW.trod_lt m _ _ _ hm
  obtain ⟨z0, e0, lc0, cm0, w0, rd0⟩ := open_item h0
  clear hA0 hval0
  refine (exactGrp_walk z0 a0 len0 cap0 W e0 lc0 cm0 w0 rd0).mono fun e W' ⟨he, bel⟩ => ?_
  subst he
  exact ⟨_, rfl, _, _, _, [], _, [], hW', trodAll_mk1 (shut_bool Try.underlying4 _), (trodAll_cons_mk (Below.trod laidOut_ (by kernel_rfl) (of_decide_eq_true (by kernel_rfl)) k0 bel lt0) trodAll_mk0), rfl, bel.frame _, fun h => by cases h⟩

theorem fnExactBarrierGroups_holds : Rows.FnExactBarrierGroupsSaid :=
  OpenClaim.holds_of_wide 6 Try.f6 rfl rfl rfl rfl rfl rfl rfl ⟨rfl, rfl, rfl, rfl, rfl⟩ rfl rfl rfl rfl rfl (by kernel_rfl) Try.func6 (by kernel_rfl)
    (of_decide_eq_true (by kernel_rfl)) (by unfold Func.isWrapper; first | (rw [if_pos (by decide +kernel)]; kernel_rfl) | (rw [if_neg (by decide +kernel)]; exact ⟨rfl, rfl⟩))
    (fun os started H enc _ => fnExactBarrierGroups_lifted os started H enc)

end Go.Proofs.Ytfmkjhkopocokaa
