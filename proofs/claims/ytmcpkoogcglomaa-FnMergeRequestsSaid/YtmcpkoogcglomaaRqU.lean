/-
  Requests: the walk of the law on merging.
-/
import Derived.Test.YtmcpkoogcglomaaRqL
namespace Go.Proofs.Ytmcpkoogcglomaa
open Go.ChangeShapes Go.WideShapes Go.ChangeAt Go.RowKit Go.BigFrame Go.Deep

theorem mrR_facts' {l X : List Rq} {most : Int} (e : mrR l most = X) (h : 0 < X.length) :
    (∀ at_ wr, cov X at_ wr = cov l at_ wr) ∧ X.length ≤ l.length ∧ mrR l 1 = l ∧ totR X = totR l := by
  subst e; exact mrR_facts h
theorem mrR_sm {l X : List Rq} {most : Int} (e : mrR l most = X) : ∀ x ∈ X, -1 ≤ x.at_ ∧ x.at_ ≤ 200000 ∧ 0 ≤ x.count ∧ x.count ≤ 1000 := by
  subst e
  intro x hx
  have hne : mrR l most ≠ [] := fun e => by rw [e] at hx; simp at hx
  obtain ⟨h1, h2, h3⟩ := mrR_ok hne
  rw [h3] at hx
  have := okR_iff.1 ((rv_iff.1 (mrg_ok most l h1 h2.2)).1 x hx)
  omega
theorem DrR_sm {l : List Rq} (h : DrR l) : ∀ x ∈ l, -1 ≤ x.at_ ∧ x.at_ ≤ 200000 ∧ 0 ≤ x.count ∧ x.count ≤ 1000 := fun x hx => by have := h x hx; omega

set_option maxHeartbeats 1600000 in
theorem lawMrg_walk (z : List Int) (A : Option Addr) (n c : Nat) (w : World) (hl : z.length = n) (hc : n ≤ c) (hcm : c ≤ maxLen) (_ : True) (hB : Bys w w.heap.size A n) :
    Calls Try.prog 11 #[.slice A n c] w fun e w' => e = .returned (.bool true) ∧ Below w.heap.size w w' := by
  clear hl
  have HB := hid_ hB; clear hB
  have HC := hid_ hcm
  have hm : n ≤ 9223372036854775807 := by unfold maxLen at hcm; omega
  clear hcm
  by_cases hbig : (1048576 : Int) < (n : Int)
  · go_enter Try.func11, Try.ntmps11
    go_wp2
    go_returns
    exact ⟨rfl, Below.refl _ _⟩
  have hn20 : n ≤ 1048576 := by omega
  go_enter Try.func11, Try.ntmps11
  go_wp2_with fail
  refine (drawMR_any A n c _ hn20 hc HC.out HB.out).mono ?_
  clear HB HC
  rintro e w1 ⟨l, Al, cl, most, rfl, hl, hcl, hcml, hdr, hmo, hol, BB⟩
  replace BB := hid_ BB
  have HRl := hid_ (own_rd hol); clear hol
  have HCl := hid_ hcml; clear hcml
  have HD := hid_ (DrR_sm hdr); clear hdr
  have HL := mrR_length l most
  obtain ⟨X, hX⟩ : ∃ X, mrR l most = X := ⟨_, rfl⟩
  have HF := hid_ (mrR_facts' hX)
  have HS := hid_ (mrR_sm hX)
  rw [hX] at HL
  have HX := hid_ hX; clear hX
  go_wp2_with fail
  refine (implMrg_any l Al l.length cl most _ rfl (by omega) hcl HCl.out HRl.out).mono ?_
  rw [HX.out]
  rintro e w2 ⟨Ao, co, rfl, hco, hcmo, hoo, hbo⟩
  have HRo := hid_ (own_rd hoo); clear hoo
  have HCo := hid_ hcmo; clear hcmo
  have hs_hbo := hbo.size
  replace BB := hid_ (BB.out.trans (hbo.mono BB.out.size))
  replace HRl := hid_ (HRl.out.below hbo)
  clear hbo
  go_wp2_with fail
  refine (specMrg_any l Al l.length cl most _ rfl (by omega) HRl.out).mono ?_
  rw [HX.out]
  rintro e w3 ⟨Ap, cp, rfl, hcp, hcmp, hop, hbp⟩
  have HRp := hid_ (own_rd hop); clear hop
  clear hcmp
  have hs_hbp := hbp.size
  replace BB := hid_ (BB.out.trans (hbp.mono BB.out.size))
  replace HRl := hid_ (HRl.out.below hbp)
  replace HRo := hid_ (HRo.out.below hbp)
  clear hbp
  go_wp2_with fail
  refine (sameRequests_self X Ao Ap _ _ _ _ _ rfl rfl (by unfold maxLen; omega) HRo.out HRp.out).mono ?_
  rintro e w4 ⟨rfl, hb_w4⟩
  have hs_hb_w4 := hb_w4.size
  replace BB := hid_ (BB.out.trans (hb_w4.mono BB.out.size))
  replace HRl := hid_ (HRl.out.below hb_w4)
  replace HRo := hid_ (HRo.out.below hb_w4)
  clear hb_w4
  clear HRp
  by_cases h0 : X.length = 0
  · have hX0 : X = [] := List.eq_nil_of_length_eq_zero h0
    subst hX0
    simp only [List.length_nil] at *
    go_wp2_with fail
    go_wp2_with fail
    refine (alive_any _).mono ?_
    rintro e w5 ⟨rfl, hbal⟩
    replace BB := hid_ (BB.out.trans (hbal.mono BB.out.size))
    go_wp2
    go_returns
    exact ⟨rfl, BB.out⟩
  · have hpos : 0 < X.length := by omega
    obtain ⟨f1, f2, f3, f4⟩ := HF.out hpos
    have F1 := hid_ f1; clear f1
    have F3 := hid_ f3; clear f3
    have F4 := hid_ f4; clear f4
    have hz : ((X.length : Int) == 0) = false := by rw [beq_eq_false_iff_ne]; omega
    clear HF
    go_wp2
    go_loopw [6] (fun v wr => ∃ k : Nat, k ≤ 260 ∧ v = .int .i64 k ∧ Below w4.heap.size w4 wr) (fun v _ => 260 - (intOf v).toNat)
    case atStart => exact ⟨0, by omega, rfl, Below.refl _ _⟩
    case round =>
      obtain ⟨k, hk, rfl, hb⟩ := hrel
      have hbs := hb.size
      by_cases hlt : k < 260
      · have HRl' := hid_ (HRl.out.below hb)
        have HRo' := hid_ (HRo.out.below hb)
        have Ht := hid_ (F1.out k true)
        have Hf := hid_ (F1.out k false)
        obtain ⟨ct, hct⟩ : ∃ ct, cov l k true = ct := ⟨_, rfl⟩
        obtain ⟨cf, hcf⟩ : ∃ cf, cov l k false = cf := ⟨_, rfl⟩
        rw [hct] at Ht
        rw [hcf] at Hf
        have HCT := hid_ hct; clear hct
        have HCF := hid_ hcf; clear hcf
        have hkz : (k : Int) < 260 := by omega
        have HBw := hid_ hb; clear hb
        go_wp2_with fail
        refine (covers_any X Ao X.length co k true _ rfl (by omega) (by omega) HS.out HRo'.out).mono ?_
        rw [Ht.out]
        rintro e w5 ⟨rfl, hb5⟩
        replace HBw := hid_ (HBw.out.trans (hb5.mono HBw.out.size)); replace HRl' := hid_ (HRl'.out.below hb5); replace HRo' := hid_ (HRo'.out.below hb5); clear hb5
        go_wp2_with fail
        refine (covers_any l Al l.length cl k true _ rfl (by omega) (by omega) HD.out HRl'.out).mono ?_
        rw [HCT.out]
        rintro e w6 ⟨rfl, hb6⟩
        replace HBw := hid_ (HBw.out.trans (hb6.mono HBw.out.size)); replace HRl' := hid_ (HRl'.out.below hb6); replace HRo' := hid_ (HRo'.out.below hb6); clear hb6
        have hq : (ct != ct) = false := by simp
        go_wp2_with fail
        refine (covers_any X Ao X.length co k false _ rfl (by omega) (by omega) HS.out HRo'.out).mono ?_
        rw [Hf.out]
        rintro e w7 ⟨rfl, hb7⟩
        replace HBw := hid_ (HBw.out.trans (hb7.mono HBw.out.size)); replace HRl' := hid_ (HRl'.out.below hb7); replace HRo' := hid_ (HRo'.out.below hb7); clear hb7
        go_wp2_with fail
        refine (covers_any l Al l.length cl k false _ rfl (by omega) (by omega) HD.out HRl'.out).mono ?_
        rw [HCF.out]
        rintro e w8 ⟨rfl, hb8⟩
        replace HBw := hid_ (HBw.out.trans (hb8.mono HBw.out.size)); clear hb8
        go_wp2
        go_roundw
        case rel => exact ⟨k + 1, by omega, by go_num, HBw.out⟩
        case measure => exact meas_ hlt
      · have hs_hb := hb.size
        replace BB := hid_ (BB.out.trans (hb.mono BB.out.size))
        replace HRl := hid_ (HRl.out.below hb)
        replace HRo := hid_ (HRo.out.below hb)
        clear hb
        have hd : decide (X.length ≤ l.length) = true := by simpa using f2
        have hkz : ¬ ((k : Int) < 260) := by omega
        go_wp2_with fail
        refine (implMrg_any l Al l.length cl 1 _ rfl (by omega) hcl HCl.out HRl.out).mono ?_
        rw [F3.out]
        rintro e w5 ⟨Aq, cq, rfl, hcq, hcmq, hoq, hbq⟩
        have HRq := hid_ (own_rd hoq); clear hoq
        clear hcmq
        have hs_hbq := hbq.size
        replace BB := hid_ (BB.out.trans (hbq.mono BB.out.size))
        replace HRl := hid_ (HRl.out.below hbq)
        replace HRo := hid_ (HRo.out.below hbq)
        clear hbq
        go_wp2_with fail
        refine (sameRequests_self l Aq Al _ _ _ _ _ rfl rfl (by unfold maxLen; omega) HRq.out HRl.out).mono ?_
        rintro e w6 ⟨rfl, hb_w6⟩
        have hs_hb_w6 := hb_w6.size
        replace BB := hid_ (BB.out.trans (hb_w6.mono BB.out.size))
        replace HRl := hid_ (HRl.out.below hb_w6)
        replace HRo := hid_ (HRo.out.below hb_w6)
        clear hb_w6
        go_wp2_with fail
        refine (implTot_any X Ao X.length co _ rfl (by omega) hco HCo.out HRo.out).mono ?_
        rw [F4.out]
        rintro e w7 ⟨rfl, hb7⟩
        have hs_hb7 := hb7.size
        replace BB := hid_ (BB.out.trans (hb7.mono BB.out.size))
        replace HRl := hid_ (HRl.out.below hb7)
        replace HRo := hid_ (HRo.out.below hb7)
        clear hb7
        go_wp2_with fail
        refine (implTot_any l Al l.length cl _ rfl (by omega) hcl HCl.out HRl.out).mono ?_
        rintro e w8 ⟨rfl, hb_w8⟩
        have hs_hb_w8 := hb_w8.size
        replace BB := hid_ (BB.out.trans (hb_w8.mono BB.out.size))
        replace HRl := hid_ (HRl.out.below hb_w8)
        replace HRo := hid_ (HRo.out.below hb_w8)
        clear hb_w8
        go_wp2
        go_returns
        exact ⟨rfl, BB.out⟩

set_option maxRecDepth 100000 in
theorem fnMergeRequests_lifted (os : Os) (started : os.Started) (H : Type) (enc : TypeId × Value → H) :
    ReturnsInHanded {} Try.checked os 11 .any (Rows.fnMergeRequestsSpec.pre6 enc Try.prog Try.f11 Rows.fnMergeRequestsRow.domain false) (Rows.fnMergeRequestsSpec.post enc Try.prog Try.f11 false true false false) := by
  refine returnsInHanded_of_change (C := Try.checked) own_ started (by kernel_rfl) Try.func11
    (ChangeSpec.witness6 (enc := enc) (C := Try.checked) false ⟨#[], #[.slice none 0 0], []⟩ 8 (by kernel_rfl) (by kernel_rfl) (by kernel_rfl) (by kernel_rfl)) ?_
  intro W base args ds gs before hval0 hW hcnd _
  have hval : ∀ (j : Nat) t v, Try.f11.params[j]? = some t → args[j]? = some v → Value.okWide Try.prog W .any base t v := hval0
  have hW' := hW
  obtain ⟨p, q, hA0, hV, rfl, hfz, hnd⟩ := hW
  have hA : DataW.TrodAll enc Try.prog W 0 (fun _ => true) true Try.f11.params.toList args.toList ds p := hA0
  rw [Try.params11] at hA hval
  obtain ⟨v0, vs0, d0, ds0, p0, q0, hargs, rfl, rfl, h0, r0⟩ := trodAll_cons hA
  obtain ⟨rfl, rfl, rfl⟩ := trodAll_nil r0
  obtain rfl : args = #[v0] := by cases args; simp_all
  obtain ⟨rfl, rfl⟩ := trodVars_none hV
  obtain ⟨a0, len0, cap0, rfl⟩ := okWide_slice Try.underlying37 (hval 0 37 v0 rfl rfl)
  have k0 := h0
  have lt0 : ∀ x ∈ p0, x.block < W.heap.size := by obtain ⟨m, hm⟩ := k0; exact DataW.trod_lt m _ _ _ hm
  obtain ⟨z0, e0, lc0, cm0, w0, rd0⟩ := open_bytes h0
  clear hA0 hval0
  refine (lawMrg_walk z0 a0 len0 cap0 W e0 lc0 cm0 w0 rd0).mono fun e W' ⟨he, bel⟩ => ?_
  subst he
  exact ⟨_, rfl, _, _, _, [], _, [], hW', trodAll_mk1 (shut_bool Try.underlying4 _), (trodAll_cons_mk (Below.trod laidOut_ (by kernel_rfl) (of_decide_eq_true (by kernel_rfl)) k0 bel lt0) trodAll_mk0), rfl, bel.frame _, fun h => by cases h⟩

theorem fnMergeRequests_holds : Rows.FnMergeRequestsSaid :=
  OpenClaim.holds_of_wide 11 Try.f11 rfl rfl rfl rfl rfl rfl rfl ⟨rfl, rfl, rfl, rfl, rfl⟩ rfl rfl rfl rfl rfl (by kernel_rfl) Try.func11 (by kernel_rfl)
    (of_decide_eq_true (by kernel_rfl)) (by unfold Func.isWrapper; first | (rw [if_pos (by decide +kernel)]; kernel_rfl) | (rw [if_neg (by decide +kernel)]; exact ⟨rfl, rfl⟩))
    (fun os started H enc _ => fnMergeRequests_lifted os started H enc)

end Go.Proofs.Ytmcpkoogcglomaa
