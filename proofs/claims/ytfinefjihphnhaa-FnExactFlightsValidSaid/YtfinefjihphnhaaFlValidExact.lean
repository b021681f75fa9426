/-
  The law FnExactFlightsValid: for every list of flights the call returns true and leaves the list as it was.
-/
import Derived.Test.YtfinefjihphnhaaFlC
import Derived.Test.YtfinefjihphnhaaOpen
namespace Go.Proofs.Ytfinefjihphnhaa
open Go.ChangeShapes Go.WideShapes Go.ChangeAt Go.RowKit Go.BigFrame

set_option maxHeartbeats 1000000 in
theorem fnExactFlightsValid_walk (fl : List Fl) (A : Option Addr) (n c : Nat) (w : World) (hn : fl.length = n) (hm : n ≤ maxLen) (hR : Rd w 3 A n (flC fl)) :
    Calls Try.prog 3 #[.slice A n c] w fun e w' => e = .returned (.bool true) ∧ Below w.heap.size w w' := by
  have HM := hid_ hm
  unfold maxLen at hm
  have HR := hid_ hR; clear hR
  have HN := hid_ hn; clear hn
  go_enter Try.func3, Try.ntmps3
  go_wp2_with fail
  refine (sz_any A n c 1048576 w HM.out (by omega) (by omega)).mono ?_
  rintro e w1 ⟨rfl, rfl⟩
  by_cases hbig : (1048576 : Int) < (n : Int)
  · rw [if_pos hbig]
    go_wp2
    go_returns
    exact ⟨rfl, Below.refl _ _⟩
  · rw [if_neg hbig]
    have hns : n ≤ 1048576 := by omega
    go_wp2_with fail
    refine (toFlightS_any fl A n c w HN.out hns HR.out).mono ?_
    rintro e w1 ⟨A1, c1, rfl, hc1, hm1, ho1, hb1⟩
    have HO1 := hid_ ho1; clear ho1
    go_wp2_with fail
    refine (specFV_any fl A1 n c1 w1 HN.out (by omega) (own_rd HO1.out)).mono ?_
    rintro e w2 ⟨rfl, hb2⟩
    have hbb2 := hb1.trans (hb2.mono hb1.size)
    go_wp2_with fail
    refine (toFlightS_any fl A n c w2 HN.out hns (HR.out.below hbb2)).mono ?_
    rintro e w3 ⟨A3, c3, rfl, hc3, hm3, ho3, hb3⟩
    have HO3 := hid_ ho3; clear ho3
    have hbb3 := hbb2.trans (hb3.mono hbb2.size)
    go_wp2_with fail
    refine (implFV_any fl A3 n c3 w3 HN.out (by omega) hc3 hm3 (own_rd HO3.out)).mono ?_
    rintro e w4 ⟨rfl, hb4⟩
    have hbb4 := hbb3.trans (hb4.mono hbb3.size)
    go_wp2_with fail
    refine (toFlightS_any fl A n c w4 HN.out hns (HR.out.below hbb4)).mono ?_
    rintro e w5 ⟨A5, c5, rfl, hc5, hm5, ho5, hb5⟩
    have HO5 := hid_ ho5; clear ho5
    have hbb5 := hbb4.trans (hb5.mono hbb4.size)
    go_wp2_with fail
    refine (eqFlightS_any fl fl A3 A5 n n c3 c5 w5 HN.out HN.out HM.out HM.out ((own_rd HO3.out).below (hb4.trans (hb5.mono hb4.size))) (own_rd HO5.out)).mono ?_
    rintro e w6 ⟨rfl, hb6⟩
    have hbb6 := hbb5.trans (hb6.mono hbb5.size)
    go_wp2
    go_returns
    exact ⟨rfl, hbb6⟩

set_option maxRecDepth 100000 in
theorem fnExactFlightsValid_lifted (os : Os) (started : os.Started) (H : Type) (enc : TypeId × Value → H) :
    ReturnsInHanded {} Try.checked os 3 .any (Rows.fnExactFlightsValidSpec.pre6 enc Try.prog Try.f3 Rows.fnExactFlightsValidRow.domain false) (Rows.fnExactFlightsValidSpec.post enc Try.prog Try.f3 false true false false) := by
  refine returnsInHanded_of_change (C := Try.checked) own_ started (by kernel_rfl) Try.func3
    (ChangeSpec.witness6 (enc := enc) (C := Try.checked) false ⟨#[], #[.slice none 0 0], []⟩ 8 (by kernel_rfl) (by kernel_rfl) (by kernel_rfl) (by kernel_rfl)) ?_
  intro W base args ds gs before hval0 hW hcnd _
  have hval : ∀ (j : Nat) t v, Try.f3.params[j]? = some t → args[j]? = some v → Value.okWide Try.prog W .any base t v := hval0
  have hW' := hW
  obtain ⟨p, q, hA0, hV, rfl, hfz, hnd⟩ := hW
  have hA : DataW.TrodAll enc Try.prog W 0 (fun _ => true) true Try.f3.params.toList args.toList ds p := hA0
  rw [Try.params3] at hA hval
  obtain ⟨v0, vs0, d0, ds0, p0, q0, hargs, rfl, rfl, h0, r0⟩ := trodAll_cons hA
  obtain ⟨rfl, rfl, rfl⟩ := trodAll_nil r0
  obtain rfl : args = #[v0] := by cases args; simp_all
  obtain ⟨rfl, rfl⟩ := trodVars_none hV
  obtain ⟨a0, len0, cap0, rfl⟩ := okWide_slice Try.underlying22 (hval 0 22 v0 rfl rfl)
  have k0 := h0
  have lt0 : ∀ x ∈ p0, x.block < W.heap.size := by obtain ⟨m, hm⟩ := k0; exact DataW.trod_lt m _ _ _ hm
  obtain ⟨z0, e0, lc0, cm0, w0, rd0⟩ := open_fl h0
  clear hA0 hval0
  refine (fnExactFlightsValid_walk z0 a0 len0 cap0 W e0 (by omega) rd0).mono fun e W' ⟨he, bel⟩ => ?_
  subst he
  exact ⟨_, rfl, _, _, _, [], _, [], hW', trodAll_mk1 (shut_bool Try.underlying4 _), (trodAll_cons_mk (Below.trod laidOut_ (by kernel_rfl) (of_decide_eq_true (by kernel_rfl)) k0 bel lt0) trodAll_mk0), rfl, bel.frame _, fun h => by cases h⟩

theorem fnExactFlightsValid_holds : Rows.FnExactFlightsValidSaid :=
  OpenClaim.holds_of_wide 3 Try.f3 rfl rfl rfl rfl rfl rfl rfl ⟨rfl, rfl, rfl, rfl, rfl⟩ rfl rfl rfl rfl rfl (by kernel_rfl) Try.func3 (by kernel_rfl)
    (of_decide_eq_true (by kernel_rfl)) (by unfold Func.isWrapper; first | (rw [if_pos (by decide +kernel)]; kernel_rfl) | (rw [if_neg (by decide +kernel)]; exact ⟨rfl, rfl⟩))
    (fun os started H enc _ => fnExactFlightsValid_lifted os started H enc)
end Go.Proofs.Ytfinefjihphnhaa
