/-
  Caches: the exact law of CacheValid.
-/
import Derived.Test.YtejnieoneknbbaaCaC
import Derived.Test.YtejnieoneknbbaaSemW
import Derived.Test.YtejnieoneknbbaaOpenC
namespace Go.Proofs.Ytejnieoneknbbaa
open Go.ChangeShapes Go.WideShapes Go.ChangeAt Go.RowKit Go.BigFrame Go.Deep

section
variable (ρ : Operand → Value) (dst : Option Tmp) (ty : TypeId) (pos : String) (after : Array Edge) (guard : Option (Nat × Bool)) (w : World)
theorem run_ldc (x : Operand) {b : Nat} {u v : Value} (e : ρ x = .pointer (some ⟨b, 0, none⟩)) (hc : w.cell? ⟨b, 0, none⟩ = some u) (hc1 : w.cell? ⟨b, 1, none⟩ = some v) :
    (execOp ρ { dst := dst, op := .load 29 x, type := ty, pos := pos, after := after, guard := guard }).run Try.prog w = .ok (.value (.agg #[u, v])) w := by
  simp [execOp, e, go_sem, hc, hc1]
theorem run_ldca (x : Operand) {b : Nat} {u v : Value} (e : ρ x = .pointer (some ⟨b, 0, none⟩)) (hc : w.cell? ⟨b, 0, none⟩ = some u) (hc1 : w.cell? ⟨b, 1, none⟩ = some v) :
    (execOp ρ { dst := dst, op := .load 24 x, type := ty, pos := pos, after := after, guard := guard }).run Try.prog w = .ok (.value (.agg #[u, v])) w := by
  simp [execOp, e, go_sem, hc, hc1]
theorem run_toc (x : Operand) (ats : Array TypeId) {a : Value} (hf : ρ (.func 17) = .func (.func 17) #[] #[]) (ex : ρ x = a) :
    (execOp ρ { dst := dst, op := .call { callee := .value (.func 17), args := #[x], argTypes := ats }, type := ty, pos := pos, after := after, guard := guard }).run Try.prog w = .ok (.enter 17 #[a]) w := by
  simp [execOp, resolve, hf, ex, go_sem]
end

set_option maxHeartbeats 4000000 in
theorem exactCV_walk (ca : List Ln) (Aca : Option Addr) (nca cca : Nat) (mca : Int) (size : Int) (w : World) (hnca : ca.length = nca) (hcca : nca ≤ cca) (hcmca : cca ≤ maxLen) (qca : ∀ f ∈ ca, I64 f.at_ ∧ I64 f.value) (hRca : Rd w 3 Aca nca (lnC ca)) (qmca : I64 mca) (qsize : I64 size) :
    Calls Try.prog 3 #[.agg #[.slice Aca nca cca, .int .i64 mca], .int .i64 size] w fun e w' => e = .returned (.bool true) ∧ Below w.heap.size w w' := by
  clear qca
  clear qsize
  clear qmca
  have HMca := hid_ (Nat.le_trans hcca hcmca)
  have hmca : nca ≤ 9223372036854775807 := by have := HMca.out; unfold maxLen at this; omega
  clear hcca hcmca
  have HRca := hid_ hRca; clear hRca
  have HNca := hid_ hnca; clear hnca
  by_cases hbigca : (1048576 : Int) < (nca : Int)
  · go_enter Try.func3, Try.ntmps3
    go_wp2_with (go_at_call 15; refine (szCa_any Aca nca cca mca 1048576 _ HMca.out (by omega) (by omega)).mono ?_; rw [if_pos hbigca]; rintro e w1 ⟨rfl, hb1⟩)
    go_returns
    exact ⟨rfl, ((Below.refl _ _).alloc (Nat.le_refl _) _).trans (hb1.mono (by simp))⟩
  have hnsca : nca ≤ 1048576 := by omega
  obtain ⟨w1, hw1⟩ : ∃ x, w.alloc (.cells #[.slice Aca nca cca, .int .i64 mca] 24) = x := ⟨_, rfl⟩
  have hb1 : Below w.heap.size w w1 := by rw [← hw1]; exact (Below.refl _ _).alloc (Nat.le_refl _) _
  have hz1 : w.heap.size < w1.heap.size := by rw [← hw1]; simp
  have bx_a0 : w1.cell? ⟨w.heap.size, 0, none⟩ = some (.slice Aca nca cca) := by rw [← hw1]; simp [go_sem]
  have bx_a1 : w1.cell? ⟨w.heap.size, 1, none⟩ = some (.int .i64 mca) := by rw [← hw1]; simp [go_sem]
  have hs1 := hb1.size
  have hbb1 := (Below.refl w.heap.size w).trans (hb1.mono (Below.refl w.heap.size w).size)
  clear hb1
  go_enter Try.func3, Try.ntmps3
  go_wp2_with fail
  clear hw1
  refine (szCa_any Aca nca cca mca 1048576 _ HMca.out (by omega) (by omega)).mono ?_
  rw [if_neg (show ¬ (1048576 : Int) < (nca : Int) by omega)]
  rintro e w2 ⟨rfl, hb2⟩
  have hs2 := hb2.size
  have hbb2 := hbb1.trans (hb2.mono hbb1.size)
  replace bx_a0 := (hb2.cell (cell_lt bx_a0)).trans bx_a0
  replace bx_a1 := (hb2.cell (cell_lt bx_a1)).trans bx_a1
  clear hb2
  go_wp2_with fail
  refine (toCache_any ca Aca nca cca mca w2 HNca.out hnsca (HRca.out.below hbb2)).mono ?_
  rintro e w3 ⟨A_sca, c_sca, rfl, hc_sca, hcm_sca, ho_sca, hb3⟩
  have HC_sca := hid_ hc_sca; clear hc_sca
  have HCM_sca := hid_ hcm_sca; clear hcm_sca
  have hs3 := hb3.size
  have hbb3 := hbb2.trans (hb3.mono hbb2.size)
  replace bx_a0 := (hb3.cell (cell_lt bx_a0)).trans bx_a0
  replace bx_a1 := (hb3.cell (cell_lt bx_a1)).trans bx_a1
  clear hb3
  have HO_sca := hid_ ho_sca; clear ho_sca
  have HLT_sca := hid_ (fun g e => (HO_sca.out.lt g e).2)
  go_wp2_with fail
  refine (specCV_any ca A_sca nca c_sca mca size w3 HNca.out (by omega) (own_rd HO_sca.out)).mono ?_
  rintro e w4 ⟨rfl, hb4⟩
  have hs4 := hb4.size
  have hbb4 := hbb3.trans (hb4.mono hbb3.size)
  replace bx_a0 := (hb4.cell (cell_lt bx_a0)).trans bx_a0
  replace bx_a1 := (hb4.cell (cell_lt bx_a1)).trans bx_a1
  have HO_sca_4 := hid_ (own_below HO_sca.out hb4)
  clear HO_sca
  clear hb4
  clear HO_sca_4 HLT_sca
  go_wp2_with fail
  refine (toCache_any ca Aca nca cca mca w4 HNca.out hnsca (HRca.out.below hbb4)).mono ?_
  rintro e w5 ⟨A_xca, c_xca, rfl, hc_xca, hcm_xca, ho_xca, hb5⟩
  have HC_xca := hid_ hc_xca; clear hc_xca
  have HCM_xca := hid_ hcm_xca; clear hcm_xca
  have hs5 := hb5.size
  have hbb5 := hbb4.trans (hb5.mono hbb4.size)
  replace bx_a0 := (hb5.cell (cell_lt bx_a0)).trans bx_a0
  replace bx_a1 := (hb5.cell (cell_lt bx_a1)).trans bx_a1
  clear hb5
  have HO_xca := hid_ ho_xca; clear ho_xca
  have HLT_xca := hid_ (fun g e => (HO_xca.out.lt g e).2)
  obtain ⟨w6, hw6⟩ : ∃ x, w5.alloc (.cells #[.slice A_xca nca c_xca, .int .i64 mca] 29) = x := ⟨_, rfl⟩
  have hb6 : Below w5.heap.size w5 w6 := by rw [← hw6]; exact (Below.refl _ _).alloc (Nat.le_refl _) _
  have hz6 : w5.heap.size < w6.heap.size := by rw [← hw6]; simp
  have bx_xca0 : w6.cell? ⟨w5.heap.size, 0, none⟩ = some (.slice A_xca nca c_xca) := by rw [← hw6]; simp [go_sem]
  have bx_xca1 : w6.cell? ⟨w5.heap.size, 1, none⟩ = some (.int .i64 mca) := by rw [← hw6]; simp [go_sem]
  have hs6 := hb6.size
  have hbb6 := hbb5.trans (hb6.mono hbb5.size)
  replace bx_a0 := (hb6.cell (cell_lt bx_a0)).trans bx_a0
  replace bx_a1 := (hb6.cell (cell_lt bx_a1)).trans bx_a1
  have HO_xca_6 := hid_ (own_below HO_xca.out hb6)
  clear HO_xca
  clear hb6
  go_wp2_with fail
  clear hw6
  refine (implCV_any ca A_xca nca c_xca mca size w6 HNca.out (by omega) HC_xca.out HCM_xca.out (own_rd HO_xca_6.out)).mono ?_
  rintro e w7 ⟨rfl, hb7⟩
  have hs7 := hb7.size
  have hbb7 := hbb6.trans (hb7.mono hbb6.size)
  replace bx_a0 := (hb7.cell (cell_lt bx_a0)).trans bx_a0
  replace bx_a1 := (hb7.cell (cell_lt bx_a1)).trans bx_a1
  replace bx_xca0 := (hb7.cell (cell_lt bx_xca0)).trans bx_xca0
  replace bx_xca1 := (hb7.cell (cell_lt bx_xca1)).trans bx_xca1
  have HO_xca_7 := hid_ (own_below HO_xca_6.out hb7)
  clear HO_xca_6
  clear hb7
  go_wp2_with fail
  refine wp_region_semT (semW (fun j => if j = 7 then .val (.pointer (some ⟨w5.heap.size, 0, none⟩)) else if j = 2 then .val (.pointer (some ⟨w.heap.size, 0, none⟩)) else if j = 26 then .val (.agg #[.slice A_xca nca c_xca, .int .i64 mca]) else if j = 27 then .val (.agg #[.slice Aca nca cca, .int .i64 mca]) else .str 3 nca (lnC ca) mca)) [2, 7] 31 3 (by kernel_rfl) (by kernel_rfl) rfl ?_ trivial ?_ ?_
  · intro j hj
    have hj' : j = 2 ∨ j = 7 := by simpa using hj
    rcases hj' with rfl | rfl <;> rfl
  · simp only [List.take_succ_cons, List.take_zero, HAll]
    refine ⟨hopw_val _ rfl rfl rfl rfl (fun a w0 h hb => run_ldc a.eval _ _ _ _ _ w0 _ (h 7 (by kernel_rfl)) ((hb.cell (cell_lt (show (w7.drew).cell? _ = _ from bx_xca0))).trans bx_xca0) ((hb.cell (cell_lt (show (w7.drew).cell? _ = _ from bx_xca1))).trans bx_xca1)),
      hopw_val _ rfl rfl rfl rfl (fun a w0 h hb => run_ldca a.eval _ _ _ _ _ w0 _ (h 2 (by kernel_rfl)) ((hb.cell (cell_lt (show (w7.drew).cell? _ = _ from bx_a0))).trans bx_a0) ((hb.cell (cell_lt (show (w7.drew).cell? _ = _ from bx_a1))).trans bx_a1)),
      hopw_call rfl rfl rfl (fun a w0 h hb => ⟨_, _, run_toc a.eval _ _ _ _ _ w0 _ _ rfl (h 27 (by kernel_rfl)), (toCache_any ca Aca nca cca mca w0 HNca.out hnsca ((HRca.out.below hbb7).below (show Below w7.heap.size w7 w0 from ((Below.refl _ _).drew).trans hb))).mono fun e w3 hh => by obtain ⟨A9, c9, h1, h2, h3, h4, h5⟩ := hh; exact ⟨_, h1, ⟨A9, c9, rfl, h2, h3, own_rd h4⟩, h5⟩⟩), trivial⟩
  · intro a' w8 haf
    have hex := haf.ex rfl [26, 27, 28] (by kernel_rfl)
    have hb8 : Below w7.heap.size w7 w8 := ((Below.refl _ _).drew).trans (show Below w7.drew.heap.size w7.drew w8 from haf.r)
    clear haf
    simp only [SemEx, Act.put, List.setIfInBounds_toArray, List.set_cons_succ, List.set_cons_zero] at hex
    obtain ⟨x0_, t0_, x1_, -, x2_, t2_, rfl⟩ := hex
    obtain rfl : x0_ = .agg #[.slice A_xca nca c_xca, .int .i64 mca] := t0_
    obtain ⟨A_e8, c_e8, rfl, -, hcme8, hre8⟩ : ∃ A c, x2_ = .agg #[.slice A nca c, .int .i64 mca] ∧ nca ≤ c ∧ c ≤ maxLen ∧ Rd w8 3 A nca (lnC ca) := t2_
    simp only [List.drop_succ_cons, List.drop_zero]
    have HRE8 := hid_ hre8; clear hre8 hcme8
    have hs8 := hb8.size
    have hbb8 := hbb7.trans (hb8.mono hbb7.size)
    replace bx_a0 := (hb8.cell (cell_lt bx_a0)).trans bx_a0
    replace bx_a1 := (hb8.cell (cell_lt bx_a1)).trans bx_a1
    replace bx_xca0 := (hb8.cell (cell_lt bx_xca0)).trans bx_xca0
    replace bx_xca1 := (hb8.cell (cell_lt bx_xca1)).trans bx_xca1
    have HO_xca_8 := hid_ (own_below HO_xca_7.out hb8)
    clear HO_xca_7
    clear hb8
    go_wp2_with fail
    refine (eqCache_any ca ca A_xca A_e8 nca nca c_xca c_e8 mca mca w8 HNca.out HNca.out HMca.out HMca.out (own_rd HO_xca_8.out) HRE8.out).mono ?_
    rintro e w9 ⟨rfl, hb9⟩
    have hs9 := hb9.size
    have hbb9 := hbb8.trans (hb9.mono hbb8.size)
    replace bx_a0 := (hb9.cell (cell_lt bx_a0)).trans bx_a0
    replace bx_a1 := (hb9.cell (cell_lt bx_a1)).trans bx_a1
    replace bx_xca0 := (hb9.cell (cell_lt bx_xca0)).trans bx_xca0
    replace bx_xca1 := (hb9.cell (cell_lt bx_xca1)).trans bx_xca1
    have HO_xca_9 := hid_ (own_below HO_xca_8.out hb9)
    clear HO_xca_8
    clear hb9
    go_wp2
    go_returns
    exact ⟨rfl, hbb9⟩


set_option maxRecDepth 100000 in
theorem fnExactCacheValid_lifted (os : Os) (started : os.Started) (H : Type) (enc : TypeId × Value → H) :
    ReturnsInHanded {} Try.checked os 3 .any (Rows.fnExactCacheValidSpec.pre6 enc Try.prog Try.f3 Rows.fnExactCacheValidRow.domain false) (Rows.fnExactCacheValidSpec.post enc Try.prog Try.f3 false true false false) := by
  refine returnsInHanded_of_change (C := Try.checked) own_ started (by kernel_rfl) Try.func3
    (ChangeSpec.witness6 (enc := enc) (C := Try.checked) false ⟨#[], #[.agg #[.slice none 0 0, .int .i64 0], .int .i64 0], []⟩ 8 (by kernel_rfl) (by kernel_rfl) (by kernel_rfl) (by kernel_rfl)) ?_
  intro W base args ds gs before hval0 hW hcnd _
  have hval : ∀ (j : Nat) t v, Try.f3.params[j]? = some t → args[j]? = some v → Value.okWide Try.prog W .any base t v := hval0
  have hW' := hW
  obtain ⟨p, q, hA0, hV, rfl, hfz, hnd⟩ := hW
  have hA : DataW.TrodAll enc Try.prog W 0 (fun _ => true) true Try.f3.params.toList args.toList ds p := hA0
  rw [Try.params3] at hA hval
  obtain ⟨v0, vs0, d0, ds0, p0, q0, hargs, rfl, rfl, h0, r0⟩ := trodAll_cons hA
  obtain ⟨v1, vs1, d1, ds1, p1, q1, rfl, rfl, rfl, h1, r1⟩ := trodAll_cons r0
  obtain ⟨rfl, rfl, rfl⟩ := trodAll_nil r1
  obtain rfl : args = #[v0, v1] := by cases args; simp_all
  obtain ⟨rfl, rfl⟩ := trodVars_none hV
  have k0 := h0
  have lt0 : ∀ x ∈ p0, x.block < W.heap.size := by obtain ⟨m, hm⟩ := k0; exact DataW.trod_lt m _ _ _ hm
  obtain ⟨z0, a0, len0, cap0, m0, rfl, e0, lc0, cm0, w0, rd0, wm0⟩ := open_cache (hval 0 24 v0 rfl rfl) h0
  obtain ⟨a1, rfl, rfl, rfl, wf1⟩ := open_int Try.underlying3 (hval 1 3 v1 rfl rfl) h1
  clear hA0 hval0
  refine (exactCV_walk z0 a0 len0 cap0 m0 a1 W e0 lc0 cm0 w0 rd0 wm0 (wf_i64 wf1)).mono fun e W' ⟨he, bel⟩ => ?_
  subst he
  exact ⟨_, rfl, _, _, _, [], _, [], hW', trodAll_mk1 (shut_bool Try.underlying4 _), (trodAll_cons_mk (Below.trod laidOut_ (by kernel_rfl) (of_decide_eq_true (by kernel_rfl)) k0 bel lt0) (trodAll_cons_mk (shut_int Try.underlying3 wf1) trodAll_mk0)), rfl, bel.frame _, fun h => by cases h⟩

theorem fnExactCacheValid_holds : Rows.FnExactCacheValidSaid :=
  OpenClaim.holds_of_wide 3 Try.f3 rfl rfl rfl rfl rfl rfl rfl ⟨rfl, rfl, rfl, rfl, rfl⟩ rfl rfl rfl rfl rfl (by kernel_rfl) Try.func3 (by kernel_rfl)
    (of_decide_eq_true (by kernel_rfl)) (by unfold Func.isWrapper; first | (rw [if_pos (by decide +kernel)]; kernel_rfl) | (rw [if_neg (by decide +kernel)]; exact ⟨rfl, rfl⟩))
    (fun os started H enc _ => fnExactCacheValid_lifted os started H enc)

end Go.Proofs.Ytejnieoneknbbaa
