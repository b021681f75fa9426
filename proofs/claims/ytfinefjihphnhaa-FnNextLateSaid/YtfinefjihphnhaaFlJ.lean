/-
  Flights: the walk of the law on the next late flight.
-/
import Derived.Test.YtfinefjihphnhaaFlI
import Derived.Test.YtfinefjihphnhaaFlH
namespace Go.Proofs.Ytfinefjihphnhaa
open Go.ChangeShapes Go.WideShapes Go.ChangeAt Go.RowKit Go.BigFrame Go.Deep

set_option maxHeartbeats 1600000 in
theorem lawNL_walk (z : List Int) (A : Option Addr) (n c : Nat) (w : World) (hl : z.length = n) (hc : n ≤ c) (hcm : c ≤ maxLen) (_ : True) (hB : Bys w w.heap.size A n) :
    Calls Try.prog 7 #[.slice A n c] w fun e w' => e = .returned (.bool true) ∧ Below w.heap.size w w' := by
  clear hl
  have HB := hid_ hB; clear hB
  have HC := hid_ hcm
  have hm : n ≤ 9223372036854775807 := by unfold maxLen at hcm; omega
  clear hcm
  by_cases hbig : (1048576 : Int) < (n : Int)
  · go_enter Try.func7, Try.ntmps7
    go_wp2
    go_returns
    exact ⟨rfl, Below.refl _ _⟩
  have hn20 : n ≤ 1048576 := by omega
  go_enter Try.func7, Try.ntmps7
  go_wp2_with fail
  refine (drawNL_any A n c _ hn20 hc HC.out HB.out).mono ?_
  clear HB HC
  rintro e w1 ⟨l, Al, cl, x, rfl, hx, hf⟩
  obtain ⟨hl, hcl, hcml, hdr, hol, BB⟩ := hf
  replace BB := hid_ BB
  have HRl := hid_ (own_rd hol); clear hol hdr
  have HCl := hid_ hcml; clear hcml
  obtain ⟨v, hv⟩ : ∃ v, nextR l x = v := ⟨_, rfl⟩
  obtain ⟨f1, f2, f3⟩ := nextR_facts hv
  have HF := hid_ f3; clear f3
  have HV := hid_ hv; clear hv
  go_wp2_with fail
  refine (implNext_any l Al l.length cl x _ rfl (by omega) hcl HCl.out HRl.out).mono ?_
  rw [HV.out]
  rintro e w2 ⟨rfl, hb2⟩
  have hs_hb2 := hb2.size
  replace BB := hid_ (BB.out.trans (hb2.mono BB.out.size))
  replace HRl := hid_ (HRl.out.below hb2)
  clear hb2
  go_wp2_with fail
  refine (specNext_any l Al l.length cl x _ rfl (by omega) HRl.out).mono ?_
  rw [HV.out]
  rintro e w3 ⟨rfl, hb3⟩
  have hs_hb3 := hb3.size
  replace BB := hid_ (BB.out.trans (hb3.mono BB.out.size))
  replace HRl := hid_ (HRl.out.below hb3)
  clear hb3
  have hq : (v != v) = false := by simp
  by_cases hv0 : v < 0
  · have hv1 := f1 hv0
    subst hv1
    clear HV
    go_wp2_with fail
    go_wp2_with fail
    refine (alive_any _).mono ?_
    rintro e w5 ⟨rfl, hbal⟩
    replace BB := hid_ (BB.out.trans (hbal.mono BB.out.size))
    go_wp2
    go_returns
    exact ⟨rfl, BB.out⟩
  · clear f1
    by_cases hbig : 100000 < v
    · go_wp2
      go_returns
      exact ⟨rfl, BB.out⟩
    · obtain ⟨p1, p2⟩ := HF.out (by omega) (by omega)
      obtain ⟨X, hX⟩ : ∃ X, lateR l v x = X := ⟨_, rfl⟩
      obtain ⟨Y, hY⟩ : ∃ Y, lateR l (v - 1) x = Y := ⟨_, rfl⟩
      rw [hX] at p1
      rw [hY] at p2
      have hY0 : Y = [] := List.eq_nil_of_length_eq_zero p2
      subst hY0
      have HX := hid_ hX; clear hX
      have HY := hid_ hY; clear hY p2
      clear HF HV
      go_wp2_with fail
      refine (implLate_any l Al l.length cl v x _ rfl (by omega) hcl HCl.out HRl.out).mono ?_
      rw [HX.out]
      rintro e w5 ⟨A5, c5, rfl, -, -, -, hb5⟩
      have hs_hb5 := hb5.size
      replace BB := hid_ (BB.out.trans (hb5.mono BB.out.size))
      replace HRl := hid_ (HRl.out.below hb5)
      clear hb5
      go_wp2_with fail
      refine (implLate_any l Al l.length cl (v - 1) x _ rfl (by omega) hcl HCl.out HRl.out).mono ?_
      rw [HY.out]
      rintro e w6 ⟨A6, c6, rfl, -, -, -, hb6⟩
      have hs_hb6 := hb6.size
      replace BB := hid_ (BB.out.trans (hb6.mono BB.out.size))
      replace HRl := hid_ (HRl.out.below hb6)
      clear hb6
      go_wp2
      go_returns
      exact ⟨rfl, BB.out⟩

set_option maxRecDepth 100000 in
theorem fnNextLate_lifted (os : Os) (started : os.Started) (H : Type) (enc : TypeId × Value → H) :
    ReturnsInHanded {} Try.checked os 7 .any (Rows.fnNextLateSpec.pre6 enc Try.prog Try.f7 Rows.fnNextLateRow.domain false) (Rows.fnNextLateSpec.post enc Try.prog Try.f7 false true false false) := by
  refine returnsInHanded_of_change (C := Try.checked) own_ started (by kernel_rfl) Try.func7
    (ChangeSpec.witness6 (enc := enc) (C := Try.checked) false ⟨#[], #[.slice none 0 0], []⟩ 8 (by kernel_rfl) (by kernel_rfl) (by kernel_rfl) (by kernel_rfl)) ?_
  intro W base args ds gs before hval0 hW hcnd _
  have hval : ∀ (j : Nat) t v, Try.f7.params[j]? = some t → args[j]? = some v → Value.okWide Try.prog W .any base t v := hval0
  have hW' := hW
  obtain ⟨p, q, hA0, hV, rfl, hfz, hnd⟩ := hW
  have hA : DataW.TrodAll enc Try.prog W 0 (fun _ => true) true Try.f7.params.toList args.toList ds p := hA0
  rw [Try.params7] at hA hval
  obtain ⟨v0, vs0, d0, ds0, p0, q0, hargs, rfl, rfl, h0, r0⟩ := trodAll_cons hA
  obtain ⟨rfl, rfl, rfl⟩ := trodAll_nil r0
  obtain rfl : args = #[v0] := by cases args; simp_all
  obtain ⟨rfl, rfl⟩ := trodVars_none hV
  obtain ⟨a0, len0, cap0, rfl⟩ := okWide_slice Try.underlying31 (hval 0 31 v0 rfl rfl)
  have k0 := h0
  have lt0 : ∀ x ∈ p0, x.block < W.heap.size := by obtain ⟨m, hm⟩ := k0; exact DataW.trod_lt m _ _ _ hm
  obtain ⟨z0, e0, lc0, cm0, w0, rd0⟩ := open_bytes h0
  clear hA0 hval0
  refine (lawNL_walk z0 a0 len0 cap0 W e0 lc0 cm0 w0 rd0).mono fun e W' ⟨he, bel⟩ => ?_
  subst he
  exact ⟨_, rfl, _, _, _, [], _, [], hW', trodAll_mk1 (shut_bool Try.underlying4 _), (trodAll_cons_mk (Below.trod laidOut_ (by kernel_rfl) (of_decide_eq_true (by kernel_rfl)) k0 bel lt0) trodAll_mk0), rfl, bel.frame _, fun h => by cases h⟩

theorem fnNextLate_holds : Rows.FnNextLateSaid :=
  OpenClaim.holds_of_wide 7 Try.f7 rfl rfl rfl rfl rfl rfl rfl ⟨rfl, rfl, rfl, rfl, rfl⟩ rfl rfl rfl rfl rfl (by kernel_rfl) Try.func7 (by kernel_rfl)
    (of_decide_eq_true (by kernel_rfl)) (by unfold Func.isWrapper; first | (rw [if_pos (by decide +kernel)]; kernel_rfl) | (rw [if_neg (by decide +kernel)]; exact ⟨rfl, rfl⟩))
    (fun os started H enc _ => fnNextLate_lifted os started H enc)

end Go.Proofs.Ytfinefjihphnhaa
