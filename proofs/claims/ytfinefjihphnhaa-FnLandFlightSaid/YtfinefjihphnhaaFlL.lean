/-
  Flights: the walk of the law on landing.
-/
import Derived.Test.YtfinefjihphnhaaFlI
import Derived.Test.YtfinefjihphnhaaFlH
namespace Go.Proofs.Ytfinefjihphnhaa
open Go.ChangeShapes Go.WideShapes Go.ChangeAt Go.RowKit Go.BigFrame Go.Deep

theorem sameFlights_self (l : List Fl) (A A' : Option Addr) (n n' c c' : Nat) (w : World) (hn : l.length = n) (hn' : l.length = n') (hm : n ≤ maxLen) (hR : Rd w 3 A n (flC l)) (hR' : Rd w 3 A' n' (flC l)) :
    Calls Try.prog 36 #[.slice A n c, .slice A' n' c'] w fun e w' => e = .returned (.bool true) ∧ Below w.heap.size w w' := by
  have hm' : n' ≤ maxLen := by omega
  simpa using sameFlights_any l l A A' n n' c c' w hn hn' hm hm' hR hR'
theorem landL_length (l : List Fl) (tag : Int) : (landL l tag).length ≤ l.length := by
  unfold landL
  split
  · exact List.length_filter_le _ _
  · simp

set_option maxHeartbeats 1600000 in
theorem lawLand_walk (z : List Int) (A : Option Addr) (n c : Nat) (w : World) (hl : z.length = n) (hc : n ≤ c) (hcm : c ≤ maxLen) (_ : True) (hB : Bys w w.heap.size A n) :
    Calls Try.prog 10 #[.slice A n c] w fun e w' => e = .returned (.bool true) ∧ Below w.heap.size w w' := by
  clear hl
  have HB := hid_ hB; clear hB
  have HC := hid_ hcm
  have hm : n ≤ 9223372036854775807 := by unfold maxLen at hcm; omega
  clear hcm
  by_cases hbig : (1048576 : Int) < (n : Int)
  · go_enter Try.func10, Try.ntmps10
    go_wp2
    go_returns
    exact ⟨rfl, Below.refl _ _⟩
  have hn20 : n ≤ 1048576 := by omega
  go_enter Try.func10, Try.ntmps10
  go_wp2_with fail
  refine (drawLand_any A n c _ hn20 hc HC.out HB.out).mono ?_
  clear HB HC
  rintro e w1 ⟨l, Al, cl, x, rfl, hx, hf⟩
  obtain ⟨hl, hcl, hcml, hdr, hol, BB⟩ := hf
  replace BB := hid_ BB
  have HRl := hid_ (own_rd hol); clear hol hdr
  have HCl := hid_ hcml; clear hcml
  have HL := landL_length l x
  obtain ⟨X, hX⟩ : ∃ X, landL l x = X := ⟨_, rfl⟩
  obtain ⟨f1, f2⟩ := land_facts hX
  rw [hX] at HL
  obtain ⟨t, ht⟩ : ∃ t, fv l = t := ⟨_, rfl⟩
  obtain ⟨b, hb⟩ : ∃ b, landB l x = b := ⟨_, rfl⟩
  rw [ht, hb] at f1 f2
  have F1 := hid_ f1; clear f1
  have F2 := hid_ f2; clear f2
  have HX := hid_ hX; clear hX
  have HB := hid_ hb; clear hb
  have HT := hid_ ht; clear ht
  go_wp2_with fail
  refine (implLand_any l Al l.length cl x _ rfl (by omega) hcl HCl.out HRl.out).mono ?_
  rw [HX.out, HB.out]
  rintro e w2 ⟨Ao, co, rfl, hco, hcmo, hoo, hbo⟩
  have HRo := hid_ (own_rd hoo); clear hoo
  have HCo := hid_ hcmo; clear hcmo
  have hs_hbo := hbo.size
  replace BB := hid_ (BB.out.trans (hbo.mono BB.out.size))
  replace HRl := hid_ (HRl.out.below hbo)
  clear hbo
  go_wp2_with fail
  refine (specLand_any l Al l.length cl x _ rfl (by omega) HRl.out).mono ?_
  rw [HX.out, HB.out]
  rintro e w3 ⟨Ap, cp, rfl, -, -, hop, hbp⟩
  have HRp := hid_ (own_rd hop); clear hop
  have hs_hbp := hbp.size
  replace BB := hid_ (BB.out.trans (hbp.mono BB.out.size))
  replace HRl := hid_ (HRl.out.below hbp)
  replace HRo := hid_ (HRo.out.below hbp)
  clear hbp
  have hbb : (b != b) = false := by simp
  go_wp2_with fail
  refine (sameFlights_self X Ao Ap _ _ _ _ _ rfl rfl (by unfold maxLen; omega) HRo.out HRp.out).mono ?_
  rintro e w4 ⟨rfl, hb_w4⟩
  have hs_hb_w4 := hb_w4.size
  replace BB := hid_ (BB.out.trans (hb_w4.mono BB.out.size))
  replace HRl := hid_ (HRl.out.below hb_w4)
  replace HRo := hid_ (HRo.out.below hb_w4)
  clear hb_w4
  clear HRp
  go_wp2_with fail
  refine (specFV_any l Al l.length cl _ rfl (by omega) HRl.out).mono ?_
  rw [HT.out]
  rintro e w5 ⟨rfl, hb5⟩
  have hs_hb5 := hb5.size
  replace BB := hid_ (BB.out.trans (hb5.mono BB.out.size))
  replace HRl := hid_ (HRl.out.below hb5)
  replace HRo := hid_ (HRo.out.below hb5)
  clear hb5
  cases t
  · obtain ⟨rfl, rfl⟩ := F1.out rfl
    clear F1 F2 HB HX HT
    simp only [List.length_nil] at *
    go_wp2_with fail
    go_wp2_with fail
    refine (alive_any _).mono ?_
    rintro e w6 ⟨rfl, hbal⟩
    replace BB := hid_ (BB.out.trans (hbal.mono BB.out.size))
    go_wp2
    go_returns
    exact ⟨rfl, BB.out⟩
  · obtain ⟨g1, g2, g3, g4, g5⟩ := F2.out rfl
    have G1 := hid_ g1; clear g1
    have G2 := hid_ g2; clear g2
    have G3 := hid_ g3; clear g3
    clear F1 F2 HB HX HT
    go_wp2
    go_loopw [9] (fun u wr => ∃ k : Nat, k ≤ X.length ∧ u = .int .i64 k ∧ Below w5.heap.size w5 wr) (fun u _ => X.length - (intOf u).toNat)
    case atStart => exact ⟨0, Nat.zero_le _, rfl, Below.refl _ _⟩
    case round =>
      obtain ⟨k, hk, rfl, hbk⟩ := hrel
      by_cases hlt : k < X.length
      · obtain ⟨bo, oo, rfl, y0, y1, y2⟩ := (HRo.out.below hbk).fl k hlt rfl
        have hne : (X[k].tag == x) = false := by rw [beq_eq_false_iff_ne]; exact G1.out k hlt
        go_wp2
        go_roundw
        case rel => exact ⟨k + 1, by omega, by go_num, hbk⟩
        case measure => exact meas_ hlt
      · have hs_hbk := hbk.size
        replace BB := hid_ (BB.out.trans (hbk.mono BB.out.size))
        replace HRl := hid_ (HRl.out.below hbk)
        replace HRo := hid_ (HRo.out.below hbk)
        clear hbk
        clear G1
        go_wp2_with fail
        refine (implLand_any X Ao X.length co x _ rfl (by omega) hco HCo.out HRo.out).mono ?_
        rw [G2.out]
        rintro e w6 ⟨A6, c6, rfl, -, -, -, hb6⟩
        have hs_hb6 := hb6.size
        replace BB := hid_ (BB.out.trans (hb6.mono BB.out.size))
        replace HRl := hid_ (HRl.out.below hb6)
        replace HRo := hid_ (HRo.out.below hb6)
        clear hb6
        have hd : decide (X.length < l.length) = b := G3.out.symm
        have hq : (b == b) = true := by simp
        clear G2 G3
        go_wp2
        go_returns
        exact ⟨ret_bool (by simp; omega), BB.out⟩

set_option maxRecDepth 100000 in
theorem fnLandFlight_lifted (os : Os) (started : os.Started) (H : Type) (enc : TypeId × Value → H) :
    ReturnsInHanded {} Try.checked os 10 .any (Rows.fnLandFlightSpec.pre6 enc Try.prog Try.f10 Rows.fnLandFlightRow.domain false) (Rows.fnLandFlightSpec.post enc Try.prog Try.f10 false true false false) := by
  refine returnsInHanded_of_change (C := Try.checked) own_ started (by kernel_rfl) Try.func10
    (ChangeSpec.witness6 (enc := enc) (C := Try.checked) false ⟨#[], #[.slice none 0 0], []⟩ 8 (by kernel_rfl) (by kernel_rfl) (by kernel_rfl) (by kernel_rfl)) ?_
  intro W base args ds gs before hval0 hW hcnd _
  have hval : ∀ (j : Nat) t v, Try.f10.params[j]? = some t → args[j]? = some v → Value.okWide Try.prog W .any base t v := hval0
  have hW' := hW
  obtain ⟨p, q, hA0, hV, rfl, hfz, hnd⟩ := hW
  have hA : DataW.TrodAll enc Try.prog W 0 (fun _ => true) true Try.f10.params.toList args.toList ds p := hA0
  rw [Try.params10] at hA hval
  obtain ⟨v0, vs0, d0, ds0, p0, q0, hargs, rfl, rfl, h0, r0⟩ := trodAll_cons hA
  obtain ⟨rfl, rfl, rfl⟩ := trodAll_nil r0
  obtain rfl : args = #[v0] := by cases args; simp_all
  obtain ⟨rfl, rfl⟩ := trodVars_none hV
  obtain ⟨a0, len0, cap0, rfl⟩ := okWide_slice Try.underlying31 (hval 0 31 v0 rfl rfl)
  have k0 := h0
  have lt0 : ∀ x ∈ p0, x.block < W.heap.size := by obtain ⟨m, hm⟩ := k0; exact DataW.trod_lt m _ _ _ hm
  obtain ⟨z0, e0, lc0, cm0, w0, rd0⟩ := open_bytes h0
  clear hA0 hval0
  refine (lawLand_walk z0 a0 len0 cap0 W e0 lc0 cm0 w0 rd0).mono fun e W' ⟨he, bel⟩ => ?_
  subst he
  exact ⟨_, rfl, _, _, _, [], _, [], hW', trodAll_mk1 (shut_bool Try.underlying4 _), (trodAll_cons_mk (Below.trod laidOut_ (by kernel_rfl) (of_decide_eq_true (by kernel_rfl)) k0 bel lt0) trodAll_mk0), rfl, bel.frame _, fun h => by cases h⟩

theorem fnLandFlight_holds : Rows.FnLandFlightSaid :=
  OpenClaim.holds_of_wide 10 Try.f10 rfl rfl rfl rfl rfl rfl rfl ⟨rfl, rfl, rfl, rfl, rfl⟩ rfl rfl rfl rfl rfl (by kernel_rfl) Try.func10 (by kernel_rfl)
    (of_decide_eq_true (by kernel_rfl)) (by unfold Func.isWrapper; first | (rw [if_pos (by decide +kernel)]; kernel_rfl) | (rw [if_neg (by decide +kernel)]; exact ⟨rfl, rfl⟩))
    (fun os started H enc _ => fnLandFlight_lifted os started H enc)

end Go.Proofs.Ytfinefjihphnhaa
