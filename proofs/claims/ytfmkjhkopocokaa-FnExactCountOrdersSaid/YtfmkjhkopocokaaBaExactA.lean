/-
  The law FnExactCountOrders: for every list of items the call returns true and leaves the list as it was.
-/
import Derived.Test.YtfmkjhkopocokaaBaI
import Derived.Test.YtfmkjhkopocokaaOpen
namespace Go.Proofs.Ytfmkjhkopocokaa
open Go.ChangeShapes Go.WideShapes Go.ChangeAt Go.RowKit Go.BigFrame Go.Deep

theorem specCnt_x (l : List It) (A : Option Addr) (n c : Nat) (w : World) (hn : l.length = n) (hm : n ≤ 1048576) (hR : Rd w 2 A n (itC l)) :
    Calls Try.prog 13 #[.slice A n c] w fun e w' => e = .returned (.int .i64 (cntR l)) ∧ Below w.heap.size w w' := specCnt_any l A n c w hn (by omega) hR
theorem implCnt_x (l : List It) (A : Option Addr) (n c : Nat) (w : World) (hn : l.length = n) (hm : n ≤ 1048576) (hc : n ≤ c) (hcm : c ≤ maxLen) (hR : Rd w 2 A n (itC l)) :
    Calls Try.prog 15 #[.slice A n c] w fun e w' => e = .returned (.int .i64 (cntR l)) ∧ Below w.heap.size w w' := implCnt_any l A n c w hn (by omega) hR

set_option maxHeartbeats 2000000 in
theorem exactCnt_walk (fl : List It) (Afl : Option Addr) (nfl cfl : Nat) (w : World) (hnfl : fl.length = nfl) (hcfl : nfl ≤ cfl) (hcmfl : cfl ≤ maxLen) (qfl : ∀ f ∈ fl, I64 f.number) (hRfl : Rd w 2 Afl nfl (itC fl)) :
    Calls Try.prog 3 #[.slice Afl nfl cfl] w fun e w' => e = .returned (.bool true) ∧ Below w.heap.size w w' := by
  clear qfl
  have HMfl := hid_ (Nat.le_trans hcfl hcmfl)
  have hmfl : nfl ≤ 9223372036854775807 := by have := HMfl.out; unfold maxLen at this; omega
  clear hcfl hcmfl
  have HRfl := hid_ hRfl; clear hRfl
  have HNfl := hid_ hnfl; clear hnfl
  by_cases hbigfl : (1048576 : Int) < (nfl : Int)
  · go_enter Try.func3, Try.ntmps3
    go_wp2_with (go_at_call 12; refine (szIt_any Afl nfl cfl 1048576 _ HMfl.out (by omega) (by omega)).mono ?_; rw [if_pos hbigfl]; rintro e w1 ⟨rfl, rfl⟩)
    go_returns
    exact ⟨rfl, Below.refl _ _⟩
  · have hnsfl : nfl ≤ 1048576 := by omega
    go_enter Try.func3, Try.ntmps3
    go_wp2_with fail
    refine (szIt_any Afl nfl cfl 1048576 _ HMfl.out (by omega) (by omega)).mono ?_
    rw [if_neg (show ¬ (1048576 : Int) < (nfl : Int) by omega)]
    rintro e w' ⟨rfl, rfl⟩
    go_wp2_with fail
    refine (toItemS_any fl Afl nfl cfl w HNfl.out hnsfl (HRfl.out.below (Below.refl w.heap.size w))).mono ?_
    rintro e w1 ⟨A_sfl, c_sfl, rfl, hc_sfl, hcm_sfl, ho_sfl, hb1⟩
    have HC_sfl := hid_ hc_sfl; clear hc_sfl
    have HCM_sfl := hid_ hcm_sfl; clear hcm_sfl
    have hs1 := hb1.size
    have hbb1 := (Below.refl w.heap.size w).trans (hb1.mono (Below.refl w.heap.size w).size)
    have HO_sfl := hid_ ho_sfl; clear ho_sfl
    have HLT_sfl := hid_ (fun g e => (HO_sfl.out.lt g e).2)
    go_wp2_with fail
    refine (specCnt_x fl A_sfl nfl c_sfl w1 HNfl.out (by omega) (own_rd HO_sfl.out)).mono ?_
    rintro e w2 ⟨rfl, hb2⟩
    have hs2 := hb2.size
    have hbb2 := hbb1.trans (hb2.mono hbb1.size)
    have HO_sfl_2 := hid_ (own_below HO_sfl.out hb2)
    clear HO_sfl
    clear HO_sfl_2 HLT_sfl
    go_wp2_with fail
    refine (toItemS_any fl Afl nfl cfl w2 HNfl.out hnsfl (HRfl.out.below hbb2)).mono ?_
    rintro e w3 ⟨A_xfl, c_xfl, rfl, hc_xfl, hcm_xfl, ho_xfl, hb3⟩
    have HC_xfl := hid_ hc_xfl; clear hc_xfl
    have HCM_xfl := hid_ hcm_xfl; clear hcm_xfl
    have hs3 := hb3.size
    have hbb3 := hbb2.trans (hb3.mono hbb2.size)
    have HO_xfl := hid_ ho_xfl; clear ho_xfl
    have HLT_xfl := hid_ (fun g e => (HO_xfl.out.lt g e).2)
    go_wp2_with fail
    refine (implCnt_x fl A_xfl nfl c_xfl w3 HNfl.out (by omega) HC_xfl.out HCM_xfl.out (own_rd HO_xfl.out)).mono ?_
    rintro e w4 ⟨rfl, hb4⟩
    have hs4 := hb4.size
    have hbb4 := hbb3.trans (hb4.mono hbb3.size)
    have HO_xfl_4 := hid_ (own_below HO_xfl.out hb4)
    clear HO_xfl
    go_wp2_with fail
    refine (toItemS_any fl Afl nfl cfl w4 HNfl.out hnsfl (HRfl.out.below hbb4)).mono ?_
    rintro e w5 ⟨A_yfl, c_yfl, rfl, hc_yfl, hcm_yfl, ho_yfl, hb5⟩
    have HC_yfl := hid_ hc_yfl; clear hc_yfl
    have HCM_yfl := hid_ hcm_yfl; clear hcm_yfl
    have hs5 := hb5.size
    have hbb5 := hbb4.trans (hb5.mono hbb4.size)
    have HO_xfl_5 := hid_ (own_below HO_xfl_4.out hb5)
    clear HO_xfl_4
    have HO_yfl := hid_ ho_yfl; clear ho_yfl
    have HLT_yfl := hid_ (fun g e => (HO_yfl.out.lt g e).2)
    go_wp2_with fail
    refine (eqItemS_any fl fl A_xfl A_yfl nfl nfl c_xfl c_yfl w5 HNfl.out HNfl.out HMfl.out HMfl.out (own_rd HO_xfl_5.out) (own_rd HO_yfl.out)).mono ?_
    rintro e w6 ⟨rfl, hb6⟩
    have hs6 := hb6.size
    have hbb6 := hbb5.trans (hb6.mono hbb5.size)
    have HO_xfl_6 := hid_ (own_below HO_xfl_5.out hb6)
    clear HO_xfl_5
    have HO_yfl_6 := hid_ (own_below HO_yfl.out hb6)
    clear HO_yfl
    clear HO_yfl_6 HLT_yfl
    go_wp2
    go_returns
    exact ⟨rfl, hbb6⟩


set_option maxRecDepth 100000 in
theorem fnExactCountOrders_lifted (os : Os) (started : os.Started) (H : Type) (enc : TypeId × Value → H) :
    ReturnsInHanded {} Try.checked os 3 .any (Rows.fnExactCountOrdersSpec.pre6 enc Try.prog Try.f3 Rows.fnExactCountOrdersRow.domain false) (Rows.fnExactCountOrdersSpec.post enc Try.prog Try.f3 false true false false) := by
  refine returnsInHanded_of_change (C := Try.checked) own_ started (by kernel_rfl) Try.func3
    (ChangeSpec.witness6 (enc := enc) (C := Try.checked) false ⟨#[], #[.slice none 0 0], []⟩ 8 (by kernel_rfl) (by kernel_rfl) (by kernel_rfl) (by kernel_rfl)) ?_
  intro W base args ds gs before hval0 hW hcnd _
  have hval : ∀ (j : Nat) t v, Try.f3.params[j]? = some t → args[j]? = some v → Value.okWide Try.prog W .any base t v := hval0
  have hW' := hW
  obtain ⟨p, q, hA0, hV, rfl, hfz, hnd⟩ := hW
  have hA : DataW.TrodAll enc Try.prog W 0 (fun _ => true) true Try.f3.params.toList args.toList ds p := hA0
  rw [Try.params3] at hA hval
  obtain ⟨v0, vs0, d0, ds0, p0, q0, hargs, rfl, rfl, h0, r0⟩ := trodAll_cons hA
  obtain ⟨rfl, rfl, rfl⟩ := trodAll_nil r0
  obtain rfl : args = #[v0] := by cases args; simp_all
  obtain ⟨rfl, rfl⟩ := trodVars_none hV
  obtain ⟨a0, len0, cap0, rfl⟩ := okWide_slice Try.underlying22 (hval 0 22 v0 rfl rfl)
  have k0 := h0
  have lt0 : ∀ x ∈ p0, x.block < W.heap.size := by obtain ⟨m, hm⟩ := k0; exact DataW.trod_lt m _ _ _ hm
  obtain ⟨z0, e0, lc0, cm0, w0, rd0⟩ := open_item h0
  clear hA0 hval0
  refine (exactCnt_walk z0 a0 len0 cap0 W e0 lc0 cm0 w0 rd0).mono fun e W' ⟨he, bel⟩ => ?_
  subst he
  exact ⟨_, rfl, _, _, _, [], _, [], hW', trodAll_mk1 (shut_bool Try.underlying4 _), (trodAll_cons_mk (Below.trod laidOut_ (by kernel_rfl) (of_decide_eq_true (by kernel_rfl)) k0 bel lt0) trodAll_mk0), rfl, bel.frame _, fun h => by cases h⟩

theorem fnExactCountOrders_holds : Rows.FnExactCountOrdersSaid :=
  OpenClaim.holds_of_wide 3 Try.f3 rfl rfl rfl rfl rfl rfl rfl ⟨rfl, rfl, rfl, rfl, rfl⟩ rfl rfl rfl rfl rfl (by kernel_rfl) Try.func3 (by kernel_rfl)
    (of_decide_eq_true (by kernel_rfl)) (by unfold Func.isWrapper; first | (rw [if_pos (by decide +kernel)]; kernel_rfl) | (rw [if_neg (by decide +kernel)]; exact ⟨rfl, rfl⟩))
    (fun os started H enc _ => fnExactCountOrders_lifted os started H enc)

end Go.Proofs.Ytfmkjhkopocokaa
