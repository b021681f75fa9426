/-
  Schedulers: the exact law of PickNext.
-/
import Derived.Test.YtfelfopcmkeimaaPkC
import Derived.Test.YtfelfopcmkeimaaOpenI
namespace Go.Proofs.Ytfelfopcmkeimaa
open Go.ChangeShapes Go.WideShapes Go.ChangeAt Go.RowKit Go.BigFrame Go.Deep

set_option maxHeartbeats 2000000 in
theorem exactPick_walk (fl : List Rq) (Afl : Option Addr) (nfl cfl : Nat) (ts : List Int) (Ats : Option Addr) (nts cts : Nat) (now : Int) (head : Int) (reads : Int) (writes : Int) (w : World) (hnfl : fl.length = nfl) (hcfl : nfl ≤ cfl) (hcmfl : cfl ≤ maxLen) (qfl : ∀ f ∈ fl, I64 f.at_ ∧ I64 f.count) (hRfl : Rd w 3 Afl nfl (rqC fl)) (hnts : ts.length = nts) (hcts : nts ≤ cts) (hcmts : cts ≤ maxLen) (qts : ∀ f ∈ ts, I64 f) (hRts : Rd w 1 Ats nts (intC ts)) (qnow : I64 now) (qhead : I64 head) (qreads : I64 reads) (qwrites : I64 writes) :
    Calls Try.prog 4 #[.slice Afl nfl cfl, .slice Ats nts cts, .int .i64 now, .int .i64 head, .int .i64 reads, .int .i64 writes] w fun e w' => e = .returned (.bool true) ∧ Below w.heap.size w w' := by
  clear qnow
  clear qhead
  clear qreads
  clear qwrites
  clear qfl
  have HMfl := hid_ (Nat.le_trans hcfl hcmfl)
  have hmfl : nfl ≤ 9223372036854775807 := by have := HMfl.out; unfold maxLen at this; omega
  clear hcfl hcmfl
  have HRfl := hid_ hRfl; clear hRfl
  have HNfl := hid_ hnfl; clear hnfl
  clear qts
  have HMts := hid_ (Nat.le_trans hcts hcmts)
  have hmts : nts ≤ 9223372036854775807 := by have := HMts.out; unfold maxLen at this; omega
  clear hcts hcmts
  have HRts := hid_ hRts; clear hRts
  have HNts := hid_ hnts; clear hnts
  by_cases hbigts : (1048576 : Int) < (nts : Int)
  · go_enter Try.func4, Try.ntmps4
    go_wp2
    go_returns
    exact ⟨rfl, Below.refl _ _⟩
  · have hnsts : nts ≤ 1048576 := by omega
    by_cases hbigfl : (1048576 : Int) < (nfl : Int)
    · go_enter Try.func4, Try.ntmps4
      go_wp2_with (go_at_call 18; refine (szRq_any Afl nfl cfl 1048576 _ HMfl.out (by omega) (by omega)).mono ?_; rw [if_pos hbigfl]; rintro e w1 ⟨rfl, rfl⟩)
      go_returns
      exact ⟨rfl, Below.refl _ _⟩
    · have hnsfl : nfl ≤ 1048576 := by omega
      go_enter Try.func4, Try.ntmps4
      go_wp2_with fail
      refine (szRq_any Afl nfl cfl 1048576 _ HMfl.out (by omega) (by omega)).mono ?_
      rw [if_neg (show ¬ (1048576 : Int) < (nfl : Int) by omega)]
      rintro e w' ⟨rfl, rfl⟩
      go_wp2_with fail
      refine (toRequestS_any fl Afl nfl cfl w HNfl.out hnsfl (HRfl.out.below (Below.refl w.heap.size w))).mono ?_
      rintro e w1 ⟨A_sfl, c_sfl, rfl, hc_sfl, hcm_sfl, ho_sfl, hb1⟩
      have HC_sfl := hid_ hc_sfl; clear hc_sfl
      have HCM_sfl := hid_ hcm_sfl; clear hcm_sfl
      have hs1 := hb1.size
      have hbb1 := (Below.refl w.heap.size w).trans (hb1.mono (Below.refl w.heap.size w).size)
      have HO_sfl := hid_ ho_sfl; clear ho_sfl
      have HLT_sfl := hid_ (fun g e => (HO_sfl.out.lt g e).2)
      go_wp2_with fail
      refine (toIntS_any ts Ats nts cts w1 HNts.out hnsts (HRts.out.below hbb1)).mono ?_
      rintro e w2 ⟨A_sts, c_sts, rfl, hc_sts, hcm_sts, ho_sts, hb2⟩
      have HC_sts := hid_ hc_sts; clear hc_sts
      have HCM_sts := hid_ hcm_sts; clear hcm_sts
      have hs2 := hb2.size
      have hbb2 := hbb1.trans (hb2.mono hbb1.size)
      have HO_sfl_2 := hid_ (own_below HO_sfl.out hb2)
      clear HO_sfl
      have HO_sts := hid_ ho_sts; clear ho_sts
      have HLT_sts := hid_ (fun g e => (HO_sts.out.lt g e).2)
      go_wp2_with fail
      refine (specPick_any fl A_sfl nfl c_sfl ts A_sts nts c_sts now head reads writes w2 HNfl.out (by omega) (own_rd HO_sfl_2.out) HNts.out (by omega) (own_rd HO_sts.out)).mono ?_
      rintro e w3 ⟨rfl, hb3⟩
      have hs3 := hb3.size
      have hbb3 := hbb2.trans (hb3.mono hbb2.size)
      have HO_sfl_3 := hid_ (own_below HO_sfl_2.out hb3)
      clear HO_sfl_2
      have HO_sts_3 := hid_ (own_below HO_sts.out hb3)
      clear HO_sts
      clear HO_sfl_3 HLT_sfl
      clear HO_sts_3 HLT_sts
      go_wp2_with fail
      refine (toRequestS_any fl Afl nfl cfl w3 HNfl.out hnsfl (HRfl.out.below hbb3)).mono ?_
      rintro e w4 ⟨A_xfl, c_xfl, rfl, hc_xfl, hcm_xfl, ho_xfl, hb4⟩
      have HC_xfl := hid_ hc_xfl; clear hc_xfl
      have HCM_xfl := hid_ hcm_xfl; clear hcm_xfl
      have hs4 := hb4.size
      have hbb4 := hbb3.trans (hb4.mono hbb3.size)
      have HO_xfl := hid_ ho_xfl; clear ho_xfl
      have HLT_xfl := hid_ (fun g e => (HO_xfl.out.lt g e).2)
      go_wp2_with fail
      refine (toIntS_any ts Ats nts cts w4 HNts.out hnsts (HRts.out.below hbb4)).mono ?_
      rintro e w5 ⟨A_xts, c_xts, rfl, hc_xts, hcm_xts, ho_xts, hb5⟩
      have HC_xts := hid_ hc_xts; clear hc_xts
      have HCM_xts := hid_ hcm_xts; clear hcm_xts
      have hs5 := hb5.size
      have hbb5 := hbb4.trans (hb5.mono hbb4.size)
      have HO_xfl_5 := hid_ (own_below HO_xfl.out hb5)
      clear HO_xfl
      have HO_xts := hid_ ho_xts; clear ho_xts
      have HLT_xts := hid_ (fun g e => (HO_xts.out.lt g e).2)
      go_wp2_with fail
      refine (implPick_any fl A_xfl nfl c_xfl ts A_xts nts c_xts now head reads writes w5 HNfl.out (by omega) HC_xfl.out HCM_xfl.out (own_rd HO_xfl_5.out) HNts.out (by omega) HC_xts.out HCM_xts.out (own_rd HO_xts.out)).mono ?_
      rintro e w6 ⟨rfl, hb6⟩
      have hs6 := hb6.size
      have hbb6 := hbb5.trans (hb6.mono hbb5.size)
      have HO_xfl_6 := hid_ (own_below HO_xfl_5.out hb6)
      clear HO_xfl_5
      have HO_xts_6 := hid_ (own_below HO_xts.out hb6)
      clear HO_xts
      go_wp2_with fail
      refine (toRequestS_any fl Afl nfl cfl w6 HNfl.out hnsfl (HRfl.out.below hbb6)).mono ?_
      rintro e w7 ⟨A_yfl, c_yfl, rfl, hc_yfl, hcm_yfl, ho_yfl, hb7⟩
      have HC_yfl := hid_ hc_yfl; clear hc_yfl
      have HCM_yfl := hid_ hcm_yfl; clear hcm_yfl
      have hs7 := hb7.size
      have hbb7 := hbb6.trans (hb7.mono hbb6.size)
      have HO_xfl_7 := hid_ (own_below HO_xfl_6.out hb7)
      clear HO_xfl_6
      have HO_xts_7 := hid_ (own_below HO_xts_6.out hb7)
      clear HO_xts_6
      have HO_yfl := hid_ ho_yfl; clear ho_yfl
      have HLT_yfl := hid_ (fun g e => (HO_yfl.out.lt g e).2)
      go_wp2_with fail
      refine (eqRequestS_any fl fl A_xfl A_yfl nfl nfl c_xfl c_yfl w7 HNfl.out HNfl.out HMfl.out HMfl.out (own_rd HO_xfl_7.out) (own_rd HO_yfl.out)).mono ?_
      rintro e w8 ⟨rfl, hb8⟩
      have hs8 := hb8.size
      have hbb8 := hbb7.trans (hb8.mono hbb7.size)
      have HO_xfl_8 := hid_ (own_below HO_xfl_7.out hb8)
      clear HO_xfl_7
      have HO_xts_8 := hid_ (own_below HO_xts_7.out hb8)
      clear HO_xts_7
      have HO_yfl_8 := hid_ (own_below HO_yfl.out hb8)
      clear HO_yfl
      clear HO_yfl_8 HLT_yfl
      go_wp2_with fail
      refine (toIntS_any ts Ats nts cts w8 HNts.out hnsts (HRts.out.below hbb8)).mono ?_
      rintro e w9 ⟨A_yts, c_yts, rfl, hc_yts, hcm_yts, ho_yts, hb9⟩
      have HC_yts := hid_ hc_yts; clear hc_yts
      have HCM_yts := hid_ hcm_yts; clear hcm_yts
      have hs9 := hb9.size
      have hbb9 := hbb8.trans (hb9.mono hbb8.size)
      have HO_xfl_9 := hid_ (own_below HO_xfl_8.out hb9)
      clear HO_xfl_8
      have HO_xts_9 := hid_ (own_below HO_xts_8.out hb9)
      clear HO_xts_8
      have HO_yts := hid_ ho_yts; clear ho_yts
      have HLT_yts := hid_ (fun g e => (HO_yts.out.lt g e).2)
      go_wp2_with fail
      refine (eqIntS_any ts ts A_xts A_yts nts nts c_xts c_yts w9 HNts.out HNts.out HMts.out HMts.out (own_rd HO_xts_9.out) (own_rd HO_yts.out)).mono ?_
      rintro e w10 ⟨rfl, hb10⟩
      have hs10 := hb10.size
      have hbb10 := hbb9.trans (hb10.mono hbb9.size)
      have HO_xfl_10 := hid_ (own_below HO_xfl_9.out hb10)
      clear HO_xfl_9
      have HO_xts_10 := hid_ (own_below HO_xts_9.out hb10)
      clear HO_xts_9
      have HO_yts_10 := hid_ (own_below HO_yts.out hb10)
      clear HO_yts
      clear HO_yts_10 HLT_yts
      go_wp2
      go_returns
      exact ⟨rfl, hbb10⟩


set_option maxRecDepth 100000 in
theorem fnExactPickNext_lifted (os : Os) (started : os.Started) (H : Type) (enc : TypeId × Value → H) :
    ReturnsInHanded {} Try.checked os 4 .any (Rows.fnExactPickNextSpec.pre6 enc Try.prog Try.f4 Rows.fnExactPickNextRow.domain false) (Rows.fnExactPickNextSpec.post enc Try.prog Try.f4 false true false false) := by
  refine returnsInHanded_of_change (C := Try.checked) own_ started (by kernel_rfl) Try.func4
    (ChangeSpec.witness6 (enc := enc) (C := Try.checked) false ⟨#[], #[.slice none 0 0, .slice none 0 0, .int .i64 0, .int .i64 0, .int .i64 0, .int .i64 0], []⟩ 8 (by kernel_rfl) (by kernel_rfl) (by kernel_rfl) (by kernel_rfl)) ?_
  intro W base args ds gs before hval0 hW hcnd _
  have hval : ∀ (j : Nat) t v, Try.f4.params[j]? = some t → args[j]? = some v → Value.okWide Try.prog W .any base t v := hval0
  have hW' := hW
  obtain ⟨p, q, hA0, hV, rfl, hfz, hnd⟩ := hW
  have hA : DataW.TrodAll enc Try.prog W 0 (fun _ => true) true Try.f4.params.toList args.toList ds p := hA0
  rw [Try.params4] at hA hval
  obtain ⟨v0, vs0, d0, ds0, p0, q0, hargs, rfl, rfl, h0, r0⟩ := trodAll_cons hA
  obtain ⟨v1, vs1, d1, ds1, p1, q1, rfl, rfl, rfl, h1, r1⟩ := trodAll_cons r0
  obtain ⟨v2, vs2, d2, ds2, p2, q2, rfl, rfl, rfl, h2, r2⟩ := trodAll_cons r1
  obtain ⟨v3, vs3, d3, ds3, p3, q3, rfl, rfl, rfl, h3, r3⟩ := trodAll_cons r2
  obtain ⟨v4, vs4, d4, ds4, p4, q4, rfl, rfl, rfl, h4, r4⟩ := trodAll_cons r3
  obtain ⟨v5, vs5, d5, ds5, p5, q5, rfl, rfl, rfl, h5, r5⟩ := trodAll_cons r4
  obtain ⟨rfl, rfl, rfl⟩ := trodAll_nil r5
  obtain rfl : args = #[v0, v1, v2, v3, v4, v5] := by cases args; simp_all
  obtain ⟨rfl, rfl⟩ := trodVars_none hV
  obtain ⟨a0, len0, cap0, rfl⟩ := okWide_slice Try.underlying34 (hval 0 34 v0 rfl rfl)
  have k0 := h0
  have lt0 : ∀ x ∈ p0, x.block < W.heap.size := by obtain ⟨m, hm⟩ := k0; exact DataW.trod_lt m _ _ _ hm
  obtain ⟨z0, e0, lc0, cm0, w0, rd0⟩ := open_req h0
  obtain ⟨a1, len1, cap1, rfl⟩ := okWide_slice Try.underlying26 (hval 1 26 v1 rfl rfl)
  have k1 := h1
  have lt1 : ∀ x ∈ p1, x.block < W.heap.size := by obtain ⟨m, hm⟩ := k1; exact DataW.trod_lt m _ _ _ hm
  obtain ⟨z1, e1, lc1, cm1, w1, rd1⟩ := open_ints_ h1
  obtain ⟨a2, rfl, rfl, rfl, wf2⟩ := open_int Try.underlying3 (hval 2 3 v2 rfl rfl) h2
  obtain ⟨a3, rfl, rfl, rfl, wf3⟩ := open_int Try.underlying3 (hval 3 3 v3 rfl rfl) h3
  obtain ⟨a4, rfl, rfl, rfl, wf4⟩ := open_int Try.underlying3 (hval 4 3 v4 rfl rfl) h4
  obtain ⟨a5, rfl, rfl, rfl, wf5⟩ := open_int Try.underlying3 (hval 5 3 v5 rfl rfl) h5
  clear hA0 hval0
  refine (exactPick_walk z0 a0 len0 cap0 z1 a1 len1 cap1 a2 a3 a4 a5 W e0 lc0 cm0 w0 rd0 e1 lc1 cm1 w1 rd1 (wf_i64 wf2) (wf_i64 wf3) (wf_i64 wf4) (wf_i64 wf5)).mono fun e W' ⟨he, bel⟩ => ?_
  subst he
  exact ⟨_, rfl, _, _, _, [], _, [], hW', trodAll_mk1 (shut_bool Try.underlying4 _), (trodAll_cons_mk (Below.trod laidOut_ (by kernel_rfl) (of_decide_eq_true (by kernel_rfl)) k0 bel lt0) (trodAll_cons_mk (Below.trod laidOut_ (by kernel_rfl) (of_decide_eq_true (by kernel_rfl)) k1 bel lt1) (trodAll_cons_mk (shut_int Try.underlying3 wf2) (trodAll_cons_mk (shut_int Try.underlying3 wf3) (trodAll_cons_mk (shut_int Try.underlying3 wf4) (trodAll_cons_mk (shut_int Try.underlying3 wf5) trodAll_mk0)))))), rfl, bel.frame _, fun h => by cases h⟩

theorem fnExactPickNext_holds : Rows.FnExactPickNextSaid :=
  OpenClaim.holds_of_wide 4 Try.f4 rfl rfl rfl rfl rfl rfl rfl ⟨rfl, rfl, rfl, rfl, rfl⟩ rfl rfl rfl rfl rfl (by kernel_rfl) Try.func4 (by kernel_rfl)
    (of_decide_eq_true (by kernel_rfl)) (by unfold Func.isWrapper; first | (rw [if_pos (by decide +kernel)]; kernel_rfl) | (rw [if_neg (by decide +kernel)]; exact ⟨rfl, rfl⟩))
    (fun os started H enc _ => fnExactPickNext_lifted os started H enc)

end Go.Proofs.Ytfelfopcmkeimaa
