/-
  Signals: the walks of the laws on bursts and on valid times.
-/
import Derived.Test.YtjgpmihkmobcoaaSgL
namespace Go.Proofs.Ytjgpmihkmobcoaa
open Go.ChangeShapes Go.WideShapes Go.ChangeAt Go.RowKit Go.BigFrame Go.Deep

set_option maxHeartbeats 1600000 in
theorem lawSB_walk (z : List Int) (A : Option Addr) (n c : Nat) (w : World) (hl : z.length = n) (hc : n ≤ c) (hcm : c ≤ maxLen) (_ : True) (hB : Bys w w.heap.size A n) :
    Calls Try.prog 8 #[.slice A n c] w fun e w' => e = .returned (.bool true) ∧ Below w.heap.size w w' := by
  clear hl
  have HB := hid_ hB; clear hB
  have HC := hid_ hcm
  have hm : n ≤ 9223372036854775807 := by unfold maxLen at hcm; omega
  clear hcm
  by_cases hbig : (1048576 : Int) < (n : Int)
  · go_enter Try.func8, Try.ntmps8
    go_wp2
    go_returns
    exact ⟨rfl, Below.refl _ _⟩
  have hn20 : n ≤ 1048576 := by omega
  go_enter Try.func8, Try.ntmps8
  go_wp2_with fail
  refine (drawST_any A n c _ hn20 hc HC.out HB.out).mono ?_
  clear HB HC
  rintro e w1 ⟨l, Al, cl, g, wt, rfl, hl, hcl, hcml, hg, hwt, hol, BB⟩
  replace BB := hid_ BB
  clear hcml hol
  have hs1 := BB.out.size
  go_wp2
  go_loopw [6, 7] (fun v i wr => ∃ k : Nat, k ≤ l.length ∧ i = .int .i64 k ∧ wr.ownsRow w1.heap.size 3 1 v k (intC (List.replicate k 50)) ∧ Below w1.heap.size w1 wr) (fun _ i _ => l.length - (intOf i).toNat)
  case atStart => exact ⟨0, Nat.zero_le _, rfl, own_empty w1 3 1, (Below.refl _ _).alloc (Nat.le_refl _) _⟩
  case round =>
    obtain ⟨k, hk, rfl, ho, hb⟩ := hrel
    have HO := hid_ ho; clear ho
    have hbs := hb.size
    by_cases hlt : k < l.length
    · go_wp2_with (at_builtin; refine wpList_push _ rfl _ _ 22 rfl w1.heap.size 3 (.int .i64 0) 1 8 Try.underlying22 int_info rfl (by decide) (by decide) _ _ rfl rfl _ _ _ HO.out rfl _ rfl (by simp) (by omega) hb.size ?_; intro v' w' ho' hg')
      go_roundw
      case rel => exact ⟨k + 1, by omega, by go_num, own_eq ho' rfl (by rw [List.replicate_succ', intC_append]; rfl), below_push hb HO.out hg' hb.size⟩
      case measure => exact meas_ hlt
    · have hkm : k = l.length := by omega
      have hl2 : k ≤ 20 := by omega
      have HKM := hid_ hkm; clear hkm
      obtain ⟨As, cs, rfl, hcs, hcms⟩ := own_shape HO.out
      have HRs := hid_ (own_rd HO.out); clear HO
      have HCs := hid_ hcms; clear hcms
      have hs_hb := hb.size
      replace BB := hid_ (BB.out.trans (hb.mono BB.out.size))
      clear hb
      have HB1 := hid_ (burst_ok k g wt)
      have HB2 := hid_ (burst_no (List.replicate k 50) g wt)
      have HL := sgR_length (List.replicate k 50) g wt
      rw [List.length_replicate] at HL
      obtain ⟨X, hX⟩ : ∃ X, sgR (List.replicate k 50) g wt = X := ⟨_, rfl⟩
      rw [hX] at HB1 HB2 HL
      have HX := hid_ hX; clear hX
      go_wp2_with fail
      refine (implST_any (List.replicate k 50) As k cs g wt _ (by simp) (by omega) hcs HCs.out HRs.out).mono ?_
      rw [HX.out]
      rintro e w2 ⟨Ao, co, rfl, hco, hcmo, hoo, hbo⟩
      have HRo := hid_ (own_rd hoo); clear hoo
      clear hcmo
      have hs_hbo := hbo.size
      replace BB := hid_ (BB.out.trans (hbo.mono BB.out.size))
      replace HRs := hid_ (HRs.out.below hbo)
      clear hbo
      go_wp2_with fail
      refine (specST_any (List.replicate k 50) As k cs g wt _ (by simp) (by omega) HRs.out).mono ?_
      rw [HX.out]
      rintro e w3 ⟨Ap, cp, rfl, hcp, hcmp, hop, hbp⟩
      have HRp := hid_ (own_rd hop); clear hop
      clear hcmp
      have hs_hbp := hbp.size
      replace BB := hid_ (BB.out.trans (hbp.mono BB.out.size))
      replace HRs := hid_ (HRs.out.below hbp)
      replace HRo := hid_ (HRo.out.below hbp)
      clear hbp
      go_wp2_with fail
      refine (sameInts_self X Ao Ap _ _ _ _ _ rfl rfl (by unfold maxLen; omega) HRo.out HRp.out).mono ?_
      rintro e w4 ⟨rfl, hb_w4⟩
      have hs_hb_w4 := hb_w4.size
      replace BB := hid_ (BB.out.trans (hb_w4.mono BB.out.size))
      replace HRs := hid_ (HRs.out.below hb_w4)
      replace HRo := hid_ (HRo.out.below hb_w4)
      clear hb_w4
      clear HRp HRo HRs
      by_cases hg1 : g < 1
      · have hX0 := HB2.out (by omega)
        subst hX0
        go_wp2_with fail
        go_wp2_with fail
        refine (alive_any _).mono ?_
        rintro e w5 ⟨rfl, hbal⟩
        replace BB := hid_ (BB.out.trans (hbal.mono BB.out.size))
        go_wp2
        go_returns
        exact ⟨rfl, BB.out⟩
      · by_cases hg2 : 10 < g
        · have hX0 := HB2.out (by omega)
          subst hX0
          go_wp2_with fail
          go_wp2_with fail
          refine (alive_any _).mono ?_
          rintro e w5 ⟨rfl, hbal⟩
          replace BB := hid_ (BB.out.trans (hbal.mono BB.out.size))
          go_wp2
          go_returns
          exact ⟨rfl, BB.out⟩
        · by_cases hw0 : wt < 0
          · have hX0 := HB2.out (by omega)
            subst hX0
            go_wp2_with fail
            go_wp2_with fail
            refine (alive_any _).mono ?_
            rintro e w5 ⟨rfl, hbal⟩
            replace BB := hid_ (BB.out.trans (hbal.mono BB.out.size))
            go_wp2
            go_returns
            exact ⟨rfl, BB.out⟩
          · have e := HB1.out (by omega) (by omega) (by omega)
            have hne : ¬ g = 0 := by omega
            have hd : ((X.length : Int) == ((k : Int) + g - 1) / g) = true := by rw [e]; simp
            clear e
            go_wp2_with fail
            go_wp2_with fail
            refine (alive_any _).mono ?_
            rintro e w5 ⟨rfl, hbal⟩
            replace BB := hid_ (BB.out.trans (hbal.mono BB.out.size))
            go_wp2
            go_returns
            exact ⟨rfl, BB.out⟩


set_option maxRecDepth 100000 in
theorem fnSignalBurst_lifted (os : Os) (started : os.Started) (H : Type) (enc : TypeId × Value → H) :
    ReturnsInHanded {} Try.checked os 8 .any (Rows.fnSignalBurstSpec.pre6 enc Try.prog Try.f8 Rows.fnSignalBurstRow.domain false) (Rows.fnSignalBurstSpec.post enc Try.prog Try.f8 false true false false) := by
  refine returnsInHanded_of_change (C := Try.checked) own_ started (by kernel_rfl) Try.func8
    (ChangeSpec.witness6 (enc := enc) (C := Try.checked) false ⟨#[], #[.slice none 0 0], []⟩ 8 (by kernel_rfl) (by kernel_rfl) (by kernel_rfl) (by kernel_rfl)) ?_
  intro W base args ds gs before hval0 hW hcnd _
  have hval : ∀ (j : Nat) t v, Try.f8.params[j]? = some t → args[j]? = some v → Value.okWide Try.prog W .any base t v := hval0
  have hW' := hW
  obtain ⟨p, q, hA0, hV, rfl, hfz, hnd⟩ := hW
  have hA : DataW.TrodAll enc Try.prog W 0 (fun _ => true) true Try.f8.params.toList args.toList ds p := hA0
  rw [Try.params8] at hA hval
  obtain ⟨v0, vs0, d0, ds0, p0, q0, hargs, rfl, rfl, h0, r0⟩ := trodAll_cons hA
  obtain ⟨rfl, rfl, rfl⟩ := trodAll_nil r0
  obtain rfl : args = #[v0] := by cases args; simp_all
  obtain ⟨rfl, rfl⟩ := trodVars_none hV
  obtain ⟨a0, len0, cap0, rfl⟩ := okWide_slice Try.underlying26 (hval 0 26 v0 rfl rfl)
  have k0 := h0
  have lt0 : ∀ x ∈ p0, x.block < W.heap.size := by obtain ⟨m, hm⟩ := k0; exact DataW.trod_lt m _ _ _ hm
  obtain ⟨z0, e0, lc0, cm0, w0, rd0⟩ := open_bytes h0
  clear hA0 hval0
  refine (lawSB_walk z0 a0 len0 cap0 W e0 lc0 cm0 w0 rd0).mono fun e W' ⟨he, bel⟩ => ?_
  subst he
  exact ⟨_, rfl, _, _, _, [], _, [], hW', trodAll_mk1 (shut_bool Try.underlying4 _), (trodAll_cons_mk (Below.trod laidOut_ (by kernel_rfl) (of_decide_eq_true (by kernel_rfl)) k0 bel lt0) trodAll_mk0), rfl, bel.frame _, fun h => by cases h⟩

theorem fnSignalBurst_holds : Rows.FnSignalBurstSaid :=
  OpenClaim.holds_of_wide 8 Try.f8 rfl rfl rfl rfl rfl rfl rfl ⟨rfl, rfl, rfl, rfl, rfl⟩ rfl rfl rfl rfl rfl (by kernel_rfl) Try.func8 (by kernel_rfl)
    (of_decide_eq_true (by kernel_rfl)) (by unfold Func.isWrapper; first | (rw [if_pos (by decide +kernel)]; kernel_rfl) | (rw [if_neg (by decide +kernel)]; exact ⟨rfl, rfl⟩))
    (fun os started H enc _ => fnSignalBurst_lifted os started H enc)

end Go.Proofs.Ytjgpmihkmobcoaa
