/-
  Barriers: the exact law of BarrierSafe.
-/
import Derived.Test.YtfmkjhkopocokaaBsB
import Derived.Test.YtfmkjhkopocokaaOpenI
namespace Go.Proofs.Ytfmkjhkopocokaa
open Go.ChangeShapes Go.WideShapes Go.ChangeAt Go.RowKit Go.BigFrame Go.Deep

set_option maxHeartbeats 2000000 in
theorem exactSafe_walk (fl : List It) (Afl : Option Addr) (nfl cfl : Nat) (o : List Int) (Ao : Option Addr) (no co : Nat) (w : World) (hnfl : fl.length = nfl) (hcfl : nfl ≤ cfl) (hcmfl : cfl ≤ maxLen) (qfl : ∀ f ∈ fl, I64 f.number) (hRfl : Rd w 2 Afl nfl (itC fl)) (hno : o.length = no) (hco : no ≤ co) (hcmo : co ≤ maxLen) (qo : ∀ f ∈ o, I64 f) (hRo : Rd w 1 Ao no (intC o)) :
    Calls Try.prog 7 #[.slice Afl nfl cfl, .slice Ao no co] w fun e w' => e = .returned (.bool true) ∧ Below w.heap.size w w' := by
  clear qfl
  have HMfl := hid_ (Nat.le_trans hcfl hcmfl)
  have hmfl : nfl ≤ 9223372036854775807 := by have := HMfl.out; unfold maxLen at this; omega
  clear hcfl hcmfl
  have HRfl := hid_ hRfl; clear hRfl
  have HNfl := hid_ hnfl; clear hnfl
  clear qo
  have HMo := hid_ (Nat.le_trans hco hcmo)
  have hmo : no ≤ 9223372036854775807 := by have := HMo.out; unfold maxLen at this; omega
  clear hco hcmo
  have HRo := hid_ hRo; clear hRo
  have HNo := hid_ hno; clear hno
  by_cases hbigo : (1048576 : Int) < (no : Int)
  · go_enter Try.func7, Try.ntmps7
    go_wp2
    go_returns
    exact ⟨rfl, Below.refl _ _⟩
  · have hnso : no ≤ 1048576 := by omega
    by_cases hbigfl : (1048576 : Int) < (nfl : Int)
    · go_enter Try.func7, Try.ntmps7
      go_wp2_with (go_at_call 12; refine (szIt_any Afl nfl cfl 1048576 _ HMfl.out (by omega) (by omega)).mono ?_; rw [if_pos hbigfl]; rintro e w1 ⟨rfl, rfl⟩)
      go_returns
      exact ⟨rfl, Below.refl _ _⟩
    · have hnsfl : nfl ≤ 1048576 := by omega
      go_enter Try.func7, Try.ntmps7
      go_wp2_with fail
      refine (szIt_any Afl nfl cfl 1048576 _ HMfl.out (by omega) (by omega)).mono ?_
      rw [if_neg (show ¬ (1048576 : Int) < (nfl : Int) by omega)]
      rintro e w' ⟨rfl, rfl⟩
      go_wp2_with fail
      refine (toItemS_any fl Afl nfl cfl w HNfl.out hnsfl (HRfl.out.below (Below.refl w.heap.size w))).mono ?_
      rintro e w1 ⟨A_sfl, c_sfl, rfl, hc_sfl, hcm_sfl, ho_sfl, hb1⟩
      have HC_sfl := hid_ hc_sfl; clear hc_sfl
      have HCM_sfl := hid_ hcm_sfl; clear hcm_sfl
      have hs1 := hb1.size
      have hbb1 := (Below.refl w.heap.size w).trans (hb1.mono (Below.refl w.heap.size w).size)
      have HO_sfl := hid_ ho_sfl; clear ho_sfl
      have HLT_sfl := hid_ (fun g e => (HO_sfl.out.lt g e).2)
      go_wp2_with fail
      refine (toIntS_any o Ao no co w1 HNo.out hnso (HRo.out.below hbb1)).mono ?_
      rintro e w2 ⟨A_so, c_so, rfl, hc_so, hcm_so, ho_so, hb2⟩
      have HC_so := hid_ hc_so; clear hc_so
      have HCM_so := hid_ hcm_so; clear hcm_so
      have hs2 := hb2.size
      have hbb2 := hbb1.trans (hb2.mono hbb1.size)
      have HO_sfl_2 := hid_ (own_below HO_sfl.out hb2)
      clear HO_sfl
      have HO_so := hid_ ho_so; clear ho_so
      have HLT_so := hid_ (fun g e => (HO_so.out.lt g e).2)
      go_wp2_with fail
      refine (specSafe_any fl A_sfl nfl c_sfl o A_so no c_so w2 HNfl.out (by omega) (own_rd HO_sfl_2.out) HNo.out (by omega) (own_rd HO_so.out)).mono ?_
      rintro e w3 ⟨rfl, hb3⟩
      have hs3 := hb3.size
      have hbb3 := hbb2.trans (hb3.mono hbb2.size)
      have HO_sfl_3 := hid_ (own_below HO_sfl_2.out hb3)
      clear HO_sfl_2
      have HO_so_3 := hid_ (own_below HO_so.out hb3)
      clear HO_so
      clear HO_sfl_3 HLT_sfl
      clear HO_so_3 HLT_so
      go_wp2_with fail
      refine (toItemS_any fl Afl nfl cfl w3 HNfl.out hnsfl (HRfl.out.below hbb3)).mono ?_
      rintro e w4 ⟨A_xfl, c_xfl, rfl, hc_xfl, hcm_xfl, ho_xfl, hb4⟩
      have HC_xfl := hid_ hc_xfl; clear hc_xfl
      have HCM_xfl := hid_ hcm_xfl; clear hcm_xfl
      have hs4 := hb4.size
      have hbb4 := hbb3.trans (hb4.mono hbb3.size)
      have HO_xfl := hid_ ho_xfl; clear ho_xfl
      have HLT_xfl := hid_ (fun g e => (HO_xfl.out.lt g e).2)
      go_wp2_with fail
      refine (toIntS_any o Ao no co w4 HNo.out hnso (HRo.out.below hbb4)).mono ?_
      rintro e w5 ⟨A_xo, c_xo, rfl, hc_xo, hcm_xo, ho_xo, hb5⟩
      have HC_xo := hid_ hc_xo; clear hc_xo
      have HCM_xo := hid_ hcm_xo; clear hcm_xo
      have hs5 := hb5.size
      have hbb5 := hbb4.trans (hb5.mono hbb4.size)
      have HO_xfl_5 := hid_ (own_below HO_xfl.out hb5)
      clear HO_xfl
      have HO_xo := hid_ ho_xo; clear ho_xo
      have HLT_xo := hid_ (fun g e => (HO_xo.out.lt g e).2)
      go_wp2_with fail
      refine (implSafe_any fl A_xfl nfl c_xfl o A_xo no c_xo w5 HNfl.out (by omega) HC_xfl.out HCM_xfl.out (own_rd HO_xfl_5.out) HNo.out (by omega) HC_xo.out HCM_xo.out (own_rd HO_xo.out)).mono ?_
      rintro e w6 ⟨rfl, hb6⟩
      have hs6 := hb6.size
      have hbb6 := hbb5.trans (hb6.mono hbb5.size)
      have HO_xfl_6 := hid_ (own_below HO_xfl_5.out hb6)
      clear HO_xfl_5
      have HO_xo_6 := hid_ (own_below HO_xo.out hb6)
      clear HO_xo
      go_wp2_with fail
      refine (toItemS_any fl Afl nfl cfl w6 HNfl.out hnsfl (HRfl.out.below hbb6)).mono ?_
      rintro e w7 ⟨A_yfl, c_yfl, rfl, hc_yfl, hcm_yfl, ho_yfl, hb7⟩
      have HC_yfl := hid_ hc_yfl; clear hc_yfl
      have HCM_yfl := hid_ hcm_yfl; clear hcm_yfl
      have hs7 := hb7.size
      have hbb7 := hbb6.trans (hb7.mono hbb6.size)
      have HO_xfl_7 := hid_ (own_below HO_xfl_6.out hb7)
      clear HO_xfl_6
      have HO_xo_7 := hid_ (own_below HO_xo_6.out hb7)
      clear HO_xo_6
      have HO_yfl := hid_ ho_yfl; clear ho_yfl
      have HLT_yfl := hid_ (fun g e => (HO_yfl.out.lt g e).2)
      go_wp2_with fail
      refine (eqItemS_any fl fl A_xfl A_yfl nfl nfl c_xfl c_yfl w7 HNfl.out HNfl.out HMfl.out HMfl.out (own_rd HO_xfl_7.out) (own_rd HO_yfl.out)).mono ?_
      rintro e w8 ⟨rfl, hb8⟩
      have hs8 := hb8.size
      have hbb8 := hbb7.trans (hb8.mono hbb7.size)
      have HO_xfl_8 := hid_ (own_below HO_xfl_7.out hb8)
      clear HO_xfl_7
      have HO_xo_8 := hid_ (own_below HO_xo_7.out hb8)
      clear HO_xo_7
      have HO_yfl_8 := hid_ (own_below HO_yfl.out hb8)
      clear HO_yfl
      clear HO_yfl_8 HLT_yfl
      go_wp2_with fail
      refine (toIntS_any o Ao no co w8 HNo.out hnso (HRo.out.below hbb8)).mono ?_
      rintro e w9 ⟨A_yo, c_yo, rfl, hc_yo, hcm_yo, ho_yo, hb9⟩
      have HC_yo := hid_ hc_yo; clear hc_yo
      have HCM_yo := hid_ hcm_yo; clear hcm_yo
      have hs9 := hb9.size
      have hbb9 := hbb8.trans (hb9.mono hbb8.size)
      have HO_xfl_9 := hid_ (own_below HO_xfl_8.out hb9)
      clear HO_xfl_8
      have HO_xo_9 := hid_ (own_below HO_xo_8.out hb9)
      clear HO_xo_8
      have HO_yo := hid_ ho_yo; clear ho_yo
      have HLT_yo := hid_ (fun g e => (HO_yo.out.lt g e).2)
      go_wp2_with fail
      refine (eqIntS_any o o A_xo A_yo no no c_xo c_yo w9 HNo.out HNo.out HMo.out HMo.out (own_rd HO_xo_9.out) (own_rd HO_yo.out)).mono ?_
      rintro e w10 ⟨rfl, hb10⟩
      have hs10 := hb10.size
      have hbb10 := hbb9.trans (hb10.mono hbb9.size)
      have HO_xfl_10 := hid_ (own_below HO_xfl_9.out hb10)
      clear HO_xfl_9
      have HO_xo_10 := hid_ (own_below HO_xo_9.out hb10)
      clear HO_xo_9
      have HO_yo_10 := hid_ (own_below HO_yo.out hb10)
      clear HO_yo
      clear HO_yo_10 HLT_yo
      go_wp2
      go_returns
      exact ⟨rfl, hbb10⟩


set_option maxRecDepth 100000 in
theorem fnExactBarrierSafe_lifted (os : Os) (started : os.Started) (H : Type) (enc : TypeId × Value → H) :
    ReturnsInHanded {} Try.checked os 7 .any (Rows.fnExactBarrierSafeSpec.pre6 enc Try.prog Try.f7 Rows.fnExactBarrierSafeRow.domain false) (Rows.fnExactBarrierSafeSpec.post enc Try.prog Try.f7 false true false false) := by
  refine returnsInHanded_of_change (C := Try.checked) own_ started (by kernel_rfl) Try.func7
    (ChangeSpec.witness6 (enc := enc) (C := Try.checked) false ⟨#[], #[.slice none 0 0, .slice none 0 0], []⟩ 8 (by kernel_rfl) (by kernel_rfl) (by kernel_rfl) (by kernel_rfl)) ?_
  intro W base args ds gs before hval0 hW hcnd _
  have hval : ∀ (j : Nat) t v, Try.f7.params[j]? = some t → args[j]? = some v → Value.okWide Try.prog W .any base t v := hval0
  have hW' := hW
  obtain ⟨p, q, hA0, hV, rfl, hfz, hnd⟩ := hW
  have hA : DataW.TrodAll enc Try.prog W 0 (fun _ => true) true Try.f7.params.toList args.toList ds p := hA0
  rw [Try.params7] at hA hval
  obtain ⟨v0, vs0, d0, ds0, p0, q0, hargs, rfl, rfl, h0, r0⟩ := trodAll_cons hA
  obtain ⟨v1, vs1, d1, ds1, p1, q1, rfl, rfl, rfl, h1, r1⟩ := trodAll_cons r0
  obtain ⟨rfl, rfl, rfl⟩ := trodAll_nil r1
  obtain rfl : args = #[v0, v1] := by cases args; simp_all
  obtain ⟨rfl, rfl⟩ := trodVars_none hV
  obtain ⟨a0, len0, cap0, rfl⟩ := okWide_slice Try.underlying22 (hval 0 22 v0 rfl rfl)
  have k0 := h0
  have lt0 : ∀ x ∈ p0, x.block < W.heap.size := by obtain ⟨m, hm⟩ := k0; exact DataW.trod_lt m _ _ _ hm
  obtain ⟨z0, e0, lc0, cm0, w0, rd0⟩ := open_item h0
  obtain ⟨a1, len1, cap1, rfl⟩ := okWide_slice Try.underlying38 (hval 1 38 v1 rfl rfl)
  have k1 := h1
  have lt1 : ∀ x ∈ p1, x.block < W.heap.size := by obtain ⟨m, hm⟩ := k1; exact DataW.trod_lt m _ _ _ hm
  obtain ⟨z1, e1, lc1, cm1, w1, rd1⟩ := open_ints_ h1
  clear hA0 hval0
  refine (exactSafe_walk z0 a0 len0 cap0 z1 a1 len1 cap1 W e0 lc0 cm0 w0 rd0 e1 lc1 cm1 w1 rd1).mono fun e W' ⟨he, bel⟩ => ?_
  subst he
  exact ⟨_, rfl, _, _, _, [], _, [], hW', trodAll_mk1 (shut_bool Try.underlying4 _), (trodAll_cons_mk (Below.trod laidOut_ (by kernel_rfl) (of_decide_eq_true (by kernel_rfl)) k0 bel lt0) (trodAll_cons_mk (Below.trod laidOut_ (by kernel_rfl) (of_decide_eq_true (by kernel_rfl)) k1 bel lt1) trodAll_mk0)), rfl, bel.frame _, fun h => by cases h⟩

theorem fnExactBarrierSafe_holds : Rows.FnExactBarrierSafeSaid :=
  OpenClaim.holds_of_wide 7 Try.f7 rfl rfl rfl rfl rfl rfl rfl ⟨rfl, rfl, rfl, rfl, rfl⟩ rfl rfl rfl rfl rfl (by kernel_rfl) Try.func7 (by kernel_rfl)
    (of_decide_eq_true (by kernel_rfl)) (by unfold Func.isWrapper; first | (rw [if_pos (by decide +kernel)]; kernel_rfl) | (rw [if_neg (by decide +kernel)]; exact ⟨rfl, rfl⟩))
    (fun os started H enc _ => fnExactBarrierSafe_lifted os started H enc)

end Go.Proofs.Ytfmkjhkopocokaa
