/-
  Schedulers: the law on heads behind all requests.
-/
import Derived.Test.YtfelfopcmkeimaaScM
namespace Go.Proofs.Ytfelfopcmkeimaa
open Go.ChangeShapes Go.WideShapes Go.ChangeAt Go.RowKit Go.BigFrame Go.Deep

theorem sweep_back {l : List Rq} (h : ∀ k (hk : k < l.length), l[k].at_ < 100000) : sweepR l 100000 = sortR l := by
  cases hv : rv l
  · rw [sweepR_no (Or.inl hv), sortR_no hv]
  · rw [sweepR_ok hv (by decide), sortR_ok hv]
    have hx : ∀ x ∈ sortN l l.length, atK l x < 100000 := fun x hx => by
      have hb := sortN_mem.1 hx
      rw [atK_get l x hb.1 (by omega)]
      exact h _ _
    unfold sweepO
    have ha : ahead l 100000 (sortN l l.length) = [] := by
      unfold ahead
      rw [List.filter_eq_nil_iff]
      intro x hx'
      have := hx x hx'
      simpa using this
    have hb : behind l 100000 (sortN l l.length) = sortN l l.length := by
      unfold behind
      rw [List.filter_eq_self]
      intro x hx'
      simpa using hx x hx'
    rw [ha, hb, List.nil_append]

set_option maxHeartbeats 1600000 in
theorem lawBack_walk (z : List Int) (A : Option Addr) (n c : Nat) (w : World) (hl : z.length = n) (hc : n ≤ c) (hcm : c ≤ maxLen) (_ : True) (hB : Bys w w.heap.size A n) :
    Calls Try.prog 11 #[.slice A n c] w fun e w' => e = .returned (.bool true) ∧ Below w.heap.size w w' := by
  clear hl
  have HB := hid_ hB; clear hB
  have HC := hid_ hcm
  have hm : n ≤ 9223372036854775807 := by unfold maxLen at hcm; omega
  clear hcm
  by_cases hbig : (1048576 : Int) < (n : Int)
  · go_enter Try.func11, Try.ntmps11
    go_wp2
    go_returns
    exact ⟨rfl, Below.refl _ _⟩
  have hn20 : n ≤ 1048576 := by omega
  go_enter Try.func11, Try.ntmps11
  go_wp2_with fail
  refine (drawSw_any A n c _ hn20 hc HC.out HB.out).mono ?_
  clear HB HC
  rintro e w1 ⟨l, Al, cl, hd0, rfl, hl, hcl, hcml, hdr, hh, hol, BB⟩
  replace BB := hid_ BB
  have HRl := hid_ (own_rd hol); clear hol
  have HCl := hid_ hcml; clear hcml
  clear hdr
  have HL := sweepR_length l 100000
  have HL2 := sortR_length l
  have HF := hid_ (sweep_back (l := l))
  go_wp2_with fail
  refine (implSwR_any l Al l.length cl 100000 _ rfl (by omega) hcl HCl.out HRl.out).mono ?_
  obtain ⟨X, hX⟩ : ∃ X, sweepR l 100000 = X := ⟨_, rfl⟩
  rw [hX] at HL HF ⊢
  have HX := hid_ hX; clear hX
  rintro e w2 ⟨Ao, co, rfl, hco, hcmo, hoo, hbo⟩
  have HRo := hid_ (own_rd hoo); clear hoo
  clear hcmo hco
  have hs_hbo := hbo.size
  replace BB := hid_ (BB.out.trans (hbo.mono BB.out.size))
  replace HRl := hid_ (HRl.out.below hbo)
  clear hbo
  go_wp2_with fail
  refine (specSwR_any l Al l.length cl 100000 _ rfl (by omega) HRl.out).mono ?_
  rw [HX.out]
  rintro e w3 ⟨Ap, cp, rfl, hcp, hcmp, hop, hbp⟩
  have HRp := hid_ (own_rd hop); clear hop
  clear hcmp hcp
  have hs_hbp := hbp.size
  replace BB := hid_ (BB.out.trans (hbp.mono BB.out.size))
  replace HRl := hid_ (HRl.out.below hbp)
  replace HRo := hid_ (HRo.out.below hbp)
  clear hbp
  go_wp2_with fail
  refine (sameInts_self X Ao Ap _ _ _ _ _ rfl rfl (by unfold maxLen; omega) HRo.out HRp.out).mono ?_
  rintro e w4 ⟨rfl, hb_w4⟩
  have hs_hb_w4 := hb_w4.size
  replace BB := hid_ (BB.out.trans (hb_w4.mono BB.out.size))
  replace HRl := hid_ (HRl.out.below hb_w4)
  replace HRo := hid_ (HRo.out.below hb_w4)
  clear hb_w4
  clear HRp
  go_wp2
  go_loopw [6] (fun v wr => ∃ k : Nat, k ≤ l.length ∧ v = .int .i64 k ∧ w4 = wr ∧ ∀ i (hi : i < l.length), i < k → l[i].at_ < 100000) (fun v _ => l.length - (intOf v).toNat)
  case atStart => exact ⟨0, Nat.zero_le _, rfl, rfl, fun i hi h => absurd h (by omega)⟩
  case round =>
    obtain ⟨k, hk, rfl, rfl, hid⟩ := hrel
    have HI := hid_ hid; clear hid
    by_cases hlt : k < l.length
    · obtain ⟨b1, o1, rfl, c0, c1, c2⟩ := HRl.out.rq k hlt rfl
      obtain ⟨a, ha⟩ : ∃ a, l[k].at_ = a := ⟨_, rfl⟩
      rw [ha] at c0
      have HA := hid_ ha; clear ha c1 c2
      have hltz : (k : Int) < ((l.length : Nat) : Int) := by omega
      by_cases hbig : 100000 ≤ a
      · go_wp2_with fail
        go_wp2_with fail
        refine (alive_any _).mono ?_
        rintro e w5 ⟨rfl, hbal⟩
        replace BB := hid_ (BB.out.trans (hbal.mono BB.out.size))
        go_wp2
        go_returns
        exact ⟨rfl, BB.out⟩
      · go_wp2
        go_roundw
        case rel =>
          refine ⟨k + 1, by omega, by go_num, trivial, fun i hi h => ?_⟩
          by_cases e : i = k
          · subst e; rw [HA.out]; omega
          · exact HI.out i hi (by omega)
        case measure => exact meas_ hlt
    · have hXs := hid_ (HF.out (fun i hi => HI.out i hi (by omega)))
      clear HI HF
      go_wp2_with fail
      refine (implSort_any l Al l.length cl _ rfl (by omega) hcl HCl.out HRl.out).mono ?_
      rw [← hXs.out]
      rintro e w5 ⟨Aq, cq, rfl, hcq, hcmq, hoq, hbq⟩
      have HRq := hid_ (own_rd hoq); clear hoq
      clear hcmq hcq
      have hs_hbq := hbq.size
      replace BB := hid_ (BB.out.trans (hbq.mono BB.out.size))
      replace HRl := hid_ (HRl.out.below hbq)
      replace HRo := hid_ (HRo.out.below hbq)
      clear hbq
      go_wp2_with fail
      refine (sameInts_self X Ao Aq _ _ _ _ _ rfl rfl (by unfold maxLen; omega) HRo.out HRq.out).mono ?_
      rintro e w6 ⟨rfl, hb_w6⟩
      have hs_hb_w6 := hb_w6.size
      replace BB := hid_ (BB.out.trans (hb_w6.mono BB.out.size))
      replace HRl := hid_ (HRl.out.below hb_w6)
      clear hb_w6
      go_wp2_with fail
      go_wp2_with fail
      refine (alive_any _).mono ?_
      rintro e w7 ⟨rfl, hbal⟩
      replace BB := hid_ (BB.out.trans (hbal.mono BB.out.size))
      go_wp2
      go_returns
      exact ⟨rfl, BB.out⟩

set_option maxRecDepth 100000 in
theorem fnSweepBack_lifted (os : Os) (started : os.Started) (H : Type) (enc : TypeId × Value → H) :
    ReturnsInHanded {} Try.checked os 11 .any (Rows.fnSweepBackSpec.pre6 enc Try.prog Try.f11 Rows.fnSweepBackRow.domain false) (Rows.fnSweepBackSpec.post enc Try.prog Try.f11 false true false false) := by
  refine returnsInHanded_of_change (C := Try.checked) own_ started (by kernel_rfl) Try.func11
    (ChangeSpec.witness6 (enc := enc) (C := Try.checked) false ⟨#[], #[.slice none 0 0], []⟩ 8 (by kernel_rfl) (by kernel_rfl) (by kernel_rfl) (by kernel_rfl)) ?_
  intro W base args ds gs before hval0 hW hcnd _
  have hval : ∀ (j : Nat) t v, Try.f11.params[j]? = some t → args[j]? = some v → Value.okWide Try.prog W .any base t v := hval0
  have hW' := hW
  obtain ⟨p, q, hA0, hV, rfl, hfz, hnd⟩ := hW
  have hA : DataW.TrodAll enc Try.prog W 0 (fun _ => true) true Try.f11.params.toList args.toList ds p := hA0
  rw [Try.params11] at hA hval
  obtain ⟨v0, vs0, d0, ds0, p0, q0, hargs, rfl, rfl, h0, r0⟩ := trodAll_cons hA
  obtain ⟨rfl, rfl, rfl⟩ := trodAll_nil r0
  obtain rfl : args = #[v0] := by cases args; simp_all
  obtain ⟨rfl, rfl⟩ := trodVars_none hV
  obtain ⟨a0, len0, cap0, rfl⟩ := okWide_slice Try.underlying22 (hval 0 22 v0 rfl rfl)
  have k0 := h0
  have lt0 : ∀ x ∈ p0, x.block < W.heap.size := by obtain ⟨m, hm⟩ := k0; exact DataW.trod_lt m _ _ _ hm
  obtain ⟨z0, e0, lc0, cm0, w0, rd0⟩ := open_bytes h0
  clear hA0 hval0
  refine (lawBack_walk z0 a0 len0 cap0 W e0 lc0 cm0 w0 rd0).mono fun e W' ⟨he, bel⟩ => ?_
  subst he
  exact ⟨_, rfl, _, _, _, [], _, [], hW', trodAll_mk1 (shut_bool Try.underlying4 _), (trodAll_cons_mk (Below.trod laidOut_ (by kernel_rfl) (of_decide_eq_true (by kernel_rfl)) k0 bel lt0) trodAll_mk0), rfl, bel.frame _, fun h => by cases h⟩

theorem fnSweepBack_holds : Rows.FnSweepBackSaid :=
  OpenClaim.holds_of_wide 11 Try.f11 rfl rfl rfl rfl rfl rfl rfl ⟨rfl, rfl, rfl, rfl, rfl⟩ rfl rfl rfl rfl rfl (by kernel_rfl) Try.func11 (by kernel_rfl)
    (of_decide_eq_true (by kernel_rfl)) (by unfold Func.isWrapper; first | (rw [if_pos (by decide +kernel)]; kernel_rfl) | (rw [if_neg (by decide +kernel)]; exact ⟨rfl, rfl⟩))
    (fun os started H enc _ => fnSweepBack_lifted os started H enc)

end Go.Proofs.Ytfelfopcmkeimaa
