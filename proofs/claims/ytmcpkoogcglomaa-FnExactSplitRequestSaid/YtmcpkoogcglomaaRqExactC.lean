/-
  Requests: the exact law of SplitRequest.
-/
import Derived.Test.YtmcpkoogcglomaaRqE
import Derived.Test.YtmcpkoogcglomaaRqG
import Derived.Test.YtmcpkoogcglomaaOpen
namespace Go.Proofs.Ytmcpkoogcglomaa
open Go.ChangeShapes Go.WideShapes Go.ChangeAt Go.RowKit Go.BigFrame Go.Deep

set_option maxHeartbeats 2000000 in
theorem exactSpl_walk (r : Rq) (most : Int) (border : Int) (w : World) (qr : I64 r.at_ ∧ I64 r.count) (qmost : I64 most) (qborder : I64 border) :
    Calls Try.prog 5 #[.agg #[.int .i64 r.at_, .int .i64 r.count, .bool r.write], .int .i64 most, .int .i64 border] w fun e w' => e = .returned (.bool true) ∧ Below w.heap.size w w' := by
  clear qr
  clear qmost
  clear qborder
  have hl0 : (splR r most border).length ≤ 1048576 := Nat.le_trans (splR_length r most border) (by omega)
  have HLm0 := hid_ (show (splR r most border).length ≤ maxLen by unfold maxLen; omega)
  go_enter Try.func5, Try.ntmps5
  go_wp2_with fail
  refine (toRequest_any r.at_ r.count r.write _).mono ?_
  rintro e w1 ⟨rfl, hb1⟩
  have hq0 : w1.cell? ⟨w.heap.size, 0, none⟩ = some (.int .i64 r.at_) := by rw [hb1.cell (p := ⟨w.heap.size, 0, none⟩) (by simp)]; simp [go_sem]
  have hq1 : w1.cell? ⟨w.heap.size, 1, none⟩ = some (.int .i64 r.count) := by rw [hb1.cell (p := ⟨w.heap.size, 1, none⟩) (by simp)]; simp [go_sem]
  have hq2 : w1.cell? ⟨w.heap.size, 2, none⟩ = some (.bool r.write) := by rw [hb1.cell (p := ⟨w.heap.size, 2, none⟩) (by simp)]; simp [go_sem]
  have hs1 := hb1.size
  simp only [World.size_alloc] at hs1
  have hbb1 := ((Below.refl w.heap.size w).alloc (Nat.le_refl _) (.cells #[.int .i64 r.at_, .int .i64 r.count, .bool r.write] 31)).trans (hb1.mono ((Below.refl w.heap.size w).alloc (Nat.le_refl _) (.cells #[.int .i64 r.at_, .int .i64 r.count, .bool r.write] 31)).size)
  go_wp2_with fail
  refine (specSpl_any r most border w1 ).mono ?_
  rintro e w2 ⟨A_w0, c_w0, rfl, hc_w0, hcm_w0, ho_w0, hb2⟩
  clear hc_w0 hcm_w0
  replace hq0 := (hb2.cell (cell_lt hq0)).trans hq0
  replace hq1 := (hb2.cell (cell_lt hq1)).trans hq1
  replace hq2 := (hb2.cell (cell_lt hq2)).trans hq2
  have hs2 := hb2.size
  have hbb2 := hbb1.trans (hb2.mono hbb1.size)
  have HO_w0 := hid_ ho_w0; clear ho_w0
  have HLT_w0 := hid_ (fun g e => (HO_w0.out.lt g e).2)
  go_wp2_with fail
  refine (toRequest_any r.at_ r.count r.write _).mono ?_
  rintro e w3 ⟨rfl, hb3⟩
  replace hq0 := (hb3.cell (cell_lt hq0)).trans hq0
  replace hq1 := (hb3.cell (cell_lt hq1)).trans hq1
  replace hq2 := (hb3.cell (cell_lt hq2)).trans hq2
  have hs3 := hb3.size
  have hbb3 := hbb2.trans (hb3.mono hbb2.size)
  have HO_w0_3 := hid_ (own_below HO_w0.out hb3)
  clear HO_w0
  go_wp2_with fail
  refine (implSpl_any r most border w3 ).mono ?_
  rintro e w4 ⟨A_g0, c_g0, rfl, hc_g0, hcm_g0, ho_g0, hb4⟩
  clear hc_g0 hcm_g0
  replace hq0 := (hb4.cell (cell_lt hq0)).trans hq0
  replace hq1 := (hb4.cell (cell_lt hq1)).trans hq1
  replace hq2 := (hb4.cell (cell_lt hq2)).trans hq2
  have hs4 := hb4.size
  have hbb4 := hbb3.trans (hb4.mono hbb3.size)
  have HO_w0_4 := hid_ (own_below HO_w0_3.out hb4)
  clear HO_w0_3
  have HO_g0 := hid_ ho_g0; clear ho_g0
  have HLT_g0 := hid_ (fun g e => (HO_g0.out.lt g e).2)
  go_wp2_with fail
  refine (eqRequestS_any (splR r most border) (splR r most border) A_g0 A_w0 (splR r most border).length (splR r most border).length c_g0 c_w0 w4 rfl rfl HLm0.out HLm0.out (own_rd HO_g0.out) (own_rd HO_w0_4.out)).mono ?_
  rintro e w5 ⟨rfl, hb5⟩
  replace hq0 := (hb5.cell (cell_lt hq0)).trans hq0
  replace hq1 := (hb5.cell (cell_lt hq1)).trans hq1
  replace hq2 := (hb5.cell (cell_lt hq2)).trans hq2
  have hs5 := hb5.size
  have hbb5 := hbb4.trans (hb5.mono hbb4.size)
  have HO_w0_5 := hid_ (own_below HO_w0_4.out hb5)
  clear HO_w0_4
  have HO_g0_5 := hid_ (own_below HO_g0.out hb5)
  clear HO_g0
  go_wp2_with fail
  refine (markRequestS_any A_g0 (splR r most border).length c_g0 _ 1 _ w5 (by omega) (by omega) (by omega) HO_g0_5.out).mono ?_
  rintro e w6 ⟨rfl, ho_m6, hg6⟩
  have hs6 := hg6.size
  replace hq0 := hg6.cell hq0 (fun e => by have h1 : _ ≤ w.heap.size := (HO_g0_5.out.lt _ e.symm).1; have h2 := cell_lt hq0; have h3 := hb1.size; simp only [World.size_alloc] at h2 h3; omega)
  replace hq1 := hg6.cell hq1 (fun e => by have h1 : _ ≤ w.heap.size := (HO_g0_5.out.lt _ e.symm).1; have h2 := cell_lt hq1; have h3 := hb1.size; simp only [World.size_alloc] at h2 h3; omega)
  replace hq2 := hg6.cell hq2 (fun e => by have h1 : _ ≤ w.heap.size := (HO_g0_5.out.lt _ e.symm).1; have h2 := cell_lt hq2; have h3 := hb1.size; simp only [World.size_alloc] at h2 h3; omega)
  have HG6 := hid_ hg6; clear hg6
  have hbb6 := hbb5.grown HG6.out hbb5.size (fun g e => by have := (HO_g0_5.out.lt g e).1; omega)
  have HO_w0_6 := hid_ (own_mark_older HO_w0_5.out HLT_w0.out HO_g0_5.out (by omega) HG6.out)
  clear HO_w0_5
  clear HO_g0_5
  have HO_g0_6 := hid_ ho_m6; clear ho_m6
  go_wp2_with fail
  refine (heldRequestS_any A_g0 (splR r most border).length c_g0 1 w6 (by omega) (by omega) (by omega) (own_rd HO_g0_6.out)).mono ?_
  rintro e w' ⟨rfl, rfl⟩
  go_wp2_with fail
  refine (toRequest_any r.at_ r.count r.write _).mono ?_
  rintro e w7 ⟨rfl, hb7⟩
  replace hq0 := (hb7.cell (cell_lt hq0)).trans hq0
  replace hq1 := (hb7.cell (cell_lt hq1)).trans hq1
  replace hq2 := (hb7.cell (cell_lt hq2)).trans hq2
  have hs7 := hb7.size
  have hbb7 := hbb6.trans (hb7.mono hbb6.size)
  have HO_w0_7 := hid_ (own_below HO_w0_6.out hb7)
  clear HO_w0_6
  have HO_g0_7 := hid_ (own_below HO_g0_6.out hb7)
  clear HO_g0_6
  go_wp2_with fail
  refine (implSpl_any r most border w7 ).mono ?_
  rintro e w8 ⟨A_h0, c_h0, rfl, hc_h0, hcm_h0, ho_h0, hb8⟩
  clear hc_h0 hcm_h0
  replace hq0 := (hb8.cell (cell_lt hq0)).trans hq0
  replace hq1 := (hb8.cell (cell_lt hq1)).trans hq1
  replace hq2 := (hb8.cell (cell_lt hq2)).trans hq2
  have hs8 := hb8.size
  have hbb8 := hbb7.trans (hb8.mono hbb7.size)
  have HO_w0_8 := hid_ (own_below HO_w0_7.out hb8)
  clear HO_w0_7
  have HO_g0_8 := hid_ (own_below HO_g0_7.out hb8)
  clear HO_g0_7
  have HO_h0 := hid_ ho_h0; clear ho_h0
  have HLT_h0 := hid_ (fun g e => (HO_h0.out.lt g e).2)
  go_wp2_with fail
  refine (eqRequestS_any (splR r most border) (splR r most border) A_h0 A_w0 (splR r most border).length (splR r most border).length c_h0 c_w0 w8 rfl rfl HLm0.out HLm0.out (own_rd HO_h0.out) (own_rd HO_w0_8.out)).mono ?_
  rintro e w9 ⟨rfl, hb9⟩
  replace hq0 := (hb9.cell (cell_lt hq0)).trans hq0
  replace hq1 := (hb9.cell (cell_lt hq1)).trans hq1
  replace hq2 := (hb9.cell (cell_lt hq2)).trans hq2
  have hs9 := hb9.size
  have hbb9 := hbb8.trans (hb9.mono hbb8.size)
  have HO_w0_9 := hid_ (own_below HO_w0_8.out hb9)
  clear HO_w0_8
  have HO_g0_9 := hid_ (own_below HO_g0_8.out hb9)
  clear HO_g0_8
  have HO_h0_9 := hid_ (own_below HO_h0.out hb9)
  clear HO_h0
  go_wp2_with fail
  refine (heldRequestS_any A_g0 (splR r most border).length c_g0 1 w9 (by omega) (by omega) (by omega) (own_rd HO_g0_9.out)).mono ?_
  rintro e w' ⟨rfl, rfl⟩
  go_wp2
  go_returns
  exact ⟨rfl, hbb9⟩


set_option maxRecDepth 100000 in
theorem fnExactSplitRequest_lifted (os : Os) (started : os.Started) (H : Type) (enc : TypeId × Value → H) :
    ReturnsInHanded {} Try.checked os 5 .any (Rows.fnExactSplitRequestSpec.pre6 enc Try.prog Try.f5 Rows.fnExactSplitRequestRow.domain false) (Rows.fnExactSplitRequestSpec.post enc Try.prog Try.f5 false true false false) := by
  refine returnsInHanded_of_change (C := Try.checked) own_ started (by kernel_rfl) Try.func5
    (ChangeSpec.witness6 (enc := enc) (C := Try.checked) false ⟨#[], #[.agg #[.int .i64 0, .int .i64 0, .bool false], .int .i64 0, .int .i64 0], []⟩ 8 (by kernel_rfl) (by kernel_rfl) (by kernel_rfl) (by kernel_rfl)) ?_
  intro W base args ds gs before hval0 hW hcnd _
  have hval : ∀ (j : Nat) t v, Try.f5.params[j]? = some t → args[j]? = some v → Value.okWide Try.prog W .any base t v := hval0
  have hW' := hW
  obtain ⟨p, q, hA0, hV, rfl, hfz, hnd⟩ := hW
  have hA : DataW.TrodAll enc Try.prog W 0 (fun _ => true) true Try.f5.params.toList args.toList ds p := hA0
  rw [Try.params5] at hA hval
  obtain ⟨v0, vs0, d0, ds0, p0, q0, hargs, rfl, rfl, h0, r0⟩ := trodAll_cons hA
  obtain ⟨v1, vs1, d1, ds1, p1, q1, rfl, rfl, rfl, h1, r1⟩ := trodAll_cons r0
  obtain ⟨v2, vs2, d2, ds2, p2, q2, rfl, rfl, rfl, h2, r2⟩ := trodAll_cons r1
  obtain ⟨rfl, rfl, rfl⟩ := trodAll_nil r2
  obtain rfl : args = #[v0, v1, v2] := by cases args; simp_all
  obtain ⟨rfl, rfl⟩ := trodVars_none hV
  have k0 := h0
  have lt0 : ∀ x ∈ p0, x.block < W.heap.size := by obtain ⟨m, hm⟩ := k0; exact DataW.trod_lt m _ _ _ hm
  obtain ⟨z0, rfl, w0⟩ := open_req1 (hval 0 31 v0 rfl rfl) h0
  obtain ⟨a1, rfl, rfl, rfl, wf1⟩ := open_int Try.underlying3 (hval 1 3 v1 rfl rfl) h1
  obtain ⟨a2, rfl, rfl, rfl, wf2⟩ := open_int Try.underlying3 (hval 2 3 v2 rfl rfl) h2
  clear hA0 hval0
  refine (exactSpl_walk z0 a1 a2 W w0 (wf_i64 wf1) (wf_i64 wf2)).mono fun e W' ⟨he, bel⟩ => ?_
  subst he
  exact ⟨_, rfl, _, _, _, [], _, [], hW', trodAll_mk1 (shut_bool Try.underlying4 _), (trodAll_cons_mk (Below.trod laidOut_ (by kernel_rfl) (of_decide_eq_true (by kernel_rfl)) k0 bel lt0) (trodAll_cons_mk (shut_int Try.underlying3 wf1) (trodAll_cons_mk (shut_int Try.underlying3 wf2) trodAll_mk0))), rfl, bel.frame _, fun h => by cases h⟩

theorem fnExactSplitRequest_holds : Rows.FnExactSplitRequestSaid :=
  OpenClaim.holds_of_wide 5 Try.f5 rfl rfl rfl rfl rfl rfl rfl ⟨rfl, rfl, rfl, rfl, rfl⟩ rfl rfl rfl rfl rfl (by kernel_rfl) Try.func5 (by kernel_rfl)
    (of_decide_eq_true (by kernel_rfl)) (by unfold Func.isWrapper; first | (rw [if_pos (by decide +kernel)]; kernel_rfl) | (rw [if_neg (by decide +kernel)]; exact ⟨rfl, rfl⟩))
    (fun os started H enc _ => fnExactSplitRequest_lifted os started H enc)

end Go.Proofs.Ytmcpkoogcglomaa
