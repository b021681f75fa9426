/-
  Signals: the walk of the law on valid times.
-/
import Derived.Test.YtjgpmihkmobcoaaSgL
namespace Go.Proofs.Ytjgpmihkmobcoaa
open Go.ChangeShapes Go.WideShapes Go.ChangeAt Go.RowKit Go.BigFrame Go.Deep

set_option maxHeartbeats 1600000 in
theorem lawTV_walk (z : List Int) (A : Option Addr) (n c : Nat) (w : World) (hl : z.length = n) (hc : n ≤ c) (hcm : c ≤ maxLen) (_ : True) (hB : Bys w w.heap.size A n) :
    Calls Try.prog 4 #[.slice A n c] w fun e w' => e = .returned (.bool true) ∧ Below w.heap.size w w' := by
  clear hl
  have HB := hid_ hB; clear hB
  have HC := hid_ hcm
  have hm : n ≤ 9223372036854775807 := by unfold maxLen at hcm; omega
  clear hcm
  by_cases hbig : (1048576 : Int) < (n : Int)
  · go_enter Try.func4, Try.ntmps4
    go_wp2
    go_returns
    exact ⟨rfl, Below.refl _ _⟩
  have hn20 : n ≤ 1048576 := by omega
  go_enter Try.func4, Try.ntmps4
  go_wp2_with fail
  refine (drawTV_any A n c _ hn20 hc HC.out HB.out).mono ?_
  clear HB HC
  rintro e w1 ⟨l, hl, Al, cl, rfl, hcl, hcml, hol, BB⟩
  replace BB := hid_ BB
  have HRl := hid_ (own_rd hol); clear hol
  have HCl := hid_ hcml; clear hcml
  have HD := hid_ (fun h => tvB_drop (l := l) h (l.length / 2))
  have H54 := hid_ (tvB_54 l)
  obtain ⟨t, ht⟩ : ∃ t, tvB l = t := ⟨_, rfl⟩
  rw [ht] at HD
  have HT := hid_ ht; clear ht
  go_wp2_with fail
  refine (implTV_any l Al l.length cl _ rfl (by omega) hcl HCl.out HRl.out).mono ?_
  rw [HT.out]
  rintro e w2 ⟨rfl, hb2⟩
  have hs_hb2 := hb2.size
  replace BB := hid_ (BB.out.trans (hb2.mono BB.out.size))
  replace HRl := hid_ (HRl.out.below hb2)
  clear hb2
  go_wp2_with fail
  refine (specTV_any l Al l.length cl _ rfl (by omega) HRl.out).mono ?_
  rw [HT.out]
  rintro e w3 ⟨rfl, hb3⟩
  have hs_hb3 := hb3.size
  replace BB := hid_ (BB.out.trans (hb3.mono BB.out.size))
  replace HRl := hid_ (HRl.out.below hb3)
  clear hb3
  have hb := BB.out.size
  have i1 : (l.length : Int) / 2 ≤ (l.length : Int) := by omega
  have i2 : (0 : Int) ≤ (l.length : Int) / 2 := by omega
  have i3 : (l.length : Int) ≤ (cl : Int) := by omega
  have i4 : ((l.length : Int) / 2).toNat = l.length / 2 := by omega
  have i5 : (l.length : Int).tdiv 2 = (l.length : Int) / 2 := by rw [Int.tdiv_eq_ediv_of_nonneg (by omega)]
  have i6 : IntKind.i64.wrap ((l.length : Int) / 2) = (l.length : Int) / 2 := IntWalk.i64_in _ (by omega)
  have hRd := HRl.out.drop (show l.length / 2 ≤ l.length by omega) hcl
  rw [show (intC l).drop (l.length / 2 * 1) = intC (l.drop (l.length / 2)) by simp [intC, List.map_drop], Nat.mul_one] at hRd
  have HRd := hid_ hRd; clear hRd
  have key : ∀ (W : World) (A : Option Addr) (cc : Nat), l.length + 2 ≤ cc → cc ≤ maxLen → Rd W 1 A (l.length + 2) (intC (l ++ [5, 4])) → Calls Try.prog 12 #[.slice A (l.length + 2) cc] W fun e w' => e = .returned (.bool false) ∧ Below W.heap.size W w' := fun W A cc h1 h2 hR => by
    have := implTV_any (l ++ [5, 4]) A (l.length + 2) cc W (by simp) (by omega) h1 h2 hR
    rwa [H54.out] at this
  have KEY := hid_ key; clear key
  cases t
  · go_wp2_with (first
      | (at_builtin; (with_reducible change wpList _ _ _ (⟨some 29, _, _, _, _, _⟩ :: _) _ _); refine wpList_append_rdg _ rfl _ _ 22 rfl w3.heap.size 3 (.int .i64 0) 1 8 Try.underlying22 int_info rfl (by decide) (by decide) _ _ _ (own_empty w3 3 1) rfl _ _ _ _ (HRl.out.alloc _) rfl (intC_one l) (by omega) (by simp) ?_; intro v29 w29 ho' hg'; have HO29 := hid_ ho'; have HG29 := hid_ hg'; clear ho' hg')
      | (at_builtin; (with_reducible change wpList _ _ _ (⟨some 31, _, _, _, _, _⟩ :: _) _ _); refine wpList_append_rdg _ rfl _ _ 22 rfl w3.heap.size 3 (.int .i64 0) 1 8 Try.underlying22 int_info rfl (by decide) (by decide) _ _ _ (HO29.out.alloc _) rfl _ _ _ _ (rd2_ _ 5 4) rfl (intC_one [5, 4]) (by omega) (by have := HG29.out.size; simp only [World.size_alloc] at this ⊢; omega) ?_; intro v31 w31 ho' hg'; have HO31 := hid_ ho'; have HG31 := hid_ hg'; clear ho' hg'))
    have HO := hid_ (own_eq HO31.out (show 0 + l.length + 2 = l.length + 2 by omega) (show [] ++ intC l ++ intC [5, 4] = intC (l ++ [5, 4]) by simp [intC]))
    clear HO31
    have hbb := hid_ (below_push ((below_push ((Below.refl w3.heap.size w3).alloc (Nat.le_refl _) (.cells #[] 3)) (own_empty w3 3 1) HG29.out (by simp)).alloc (by have := HG29.out.size; simp only [World.size_alloc] at this; omega) (.cells #[.int .i64 5, .int .i64 4] 3)) (HO29.out.alloc _) HG31.out (by have := HG29.out.size; simp only [World.size_alloc] at this ⊢; omega))
    clear HO29 HG29 HG31
    obtain ⟨Az, cz, rfl, hcz, hcmz⟩ := own_shape HO.out
    have HCz := hid_ hcmz; clear hcmz
    refine (KEY.out _ _ _ hcz HCz.out (own_rd HO.out)).mono ?_
    rintro e w5 ⟨rfl, hb5⟩
    have hb5' := hbb.out
    replace BB := hid_ (BB.out.trans (hb5'.mono BB.out.size))
    replace BB := hid_ (BB.out.trans (hb5.mono BB.out.size))
    clear hb5 hb5'
    go_wp2_with fail
    refine (alive_any _).mono ?_
    rintro e w6 ⟨rfl, hbal⟩
    replace BB := hid_ (BB.out.trans (hbal.mono BB.out.size))
    go_wp2
    go_returns
    exact ⟨rfl, BB.out⟩
  · have HDT := hid_ (HD.out rfl)
    rcases (Decidable.em (cl = l.length / 2)) with hcc | hcc
    case' inl =>
      rw [if_pos hcc] at HRd
      have hz : l.length - l.length / 2 ≤ 0 := by omega
      go_wp2_with fail
      refine (implTV_any (l.drop (l.length / 2)) Al (l.length - l.length / 2) 0 _ (by rw [List.length_drop]) (by omega) hz (by unfold maxLen; omega) HRd.out).mono ?_
      rw [HDT.out]
      rintro e w4 ⟨rfl, hb4⟩
      clear hz
    case' inr =>
      rw [if_neg hcc] at HRd
      go_wp2_with fail
      refine (implTV_any (l.drop (l.length / 2)) _ (l.length - l.length / 2) (cl - l.length / 2) _ (by rw [List.length_drop]) (by omega) (by omega) (Nat.le_trans (Nat.sub_le _ _) HCl.out) HRd.out).mono ?_
      rw [HDT.out]
      rintro e w4 ⟨rfl, hb4⟩
    all_goals
      clear HRd hcc i1 i2 i3 i4 i5 i6
      have hs_hb4 := hb4.size
      replace BB := hid_ (BB.out.trans (hb4.mono BB.out.size))
      replace HRl := hid_ (HRl.out.below hb4)
      clear hb4
      go_wp2_with (first
        | (at_builtin; (with_reducible change wpList _ _ _ (⟨some 29, _, _, _, _, _⟩ :: _) _ _); refine wpList_append_rdg _ rfl _ _ 22 rfl w4.heap.size 3 (.int .i64 0) 1 8 Try.underlying22 int_info rfl (by decide) (by decide) _ _ _ (own_empty w4 3 1) rfl _ _ _ _ (HRl.out.alloc _) rfl (intC_one l) (by omega) (by simp) ?_; intro v29 w29 ho' hg'; have HO29 := hid_ ho'; have HG29 := hid_ hg'; clear ho' hg')
        | (at_builtin; (with_reducible change wpList _ _ _ (⟨some 31, _, _, _, _, _⟩ :: _) _ _); refine wpList_append_rdg _ rfl _ _ 22 rfl w4.heap.size 3 (.int .i64 0) 1 8 Try.underlying22 int_info rfl (by decide) (by decide) _ _ _ (HO29.out.alloc _) rfl _ _ _ _ (rd2_ _ 5 4) rfl (intC_one [5, 4]) (by omega) (by have := HG29.out.size; simp only [World.size_alloc] at this ⊢; omega) ?_; intro v31 w31 ho' hg'; have HO31 := hid_ ho'; have HG31 := hid_ hg'; clear ho' hg'))
      have HO := hid_ (own_eq HO31.out (show 0 + l.length + 2 = l.length + 2 by omega) (show [] ++ intC l ++ intC [5, 4] = intC (l ++ [5, 4]) by simp [intC]))
      clear HO31
      have hbb := hid_ (below_push ((below_push ((Below.refl w4.heap.size w4).alloc (Nat.le_refl _) (.cells #[] 3)) (own_empty w4 3 1) HG29.out (by simp)).alloc (by have := HG29.out.size; simp only [World.size_alloc] at this; omega) (.cells #[.int .i64 5, .int .i64 4] 3)) (HO29.out.alloc _) HG31.out (by have := HG29.out.size; simp only [World.size_alloc] at this ⊢; omega))
      clear HO29 HG29 HG31
      obtain ⟨Az, cz, rfl, hcz, hcmz⟩ := own_shape HO.out
      have HCz := hid_ hcmz; clear hcmz
      refine (KEY.out _ _ _ hcz HCz.out (own_rd HO.out)).mono ?_
      rintro e w5 ⟨rfl, hb5⟩
      have hb5' := hbb.out
      replace BB := hid_ (BB.out.trans (hb5'.mono BB.out.size))
      replace BB := hid_ (BB.out.trans (hb5.mono BB.out.size))
      clear hb5 hb5'
      go_wp2_with fail
      refine (alive_any _).mono ?_
      rintro e w6 ⟨rfl, hbal⟩
      replace BB := hid_ (BB.out.trans (hbal.mono BB.out.size))
      go_wp2
      go_returns
      exact ⟨rfl, BB.out⟩

set_option maxRecDepth 100000 in
theorem fnTimesValid_lifted (os : Os) (started : os.Started) (H : Type) (enc : TypeId × Value → H) :
    ReturnsInHanded {} Try.checked os 4 .any (Rows.fnTimesValidSpec.pre6 enc Try.prog Try.f4 Rows.fnTimesValidRow.domain false) (Rows.fnTimesValidSpec.post enc Try.prog Try.f4 false true false false) := by
  refine returnsInHanded_of_change (C := Try.checked) own_ started (by kernel_rfl) Try.func4
    (ChangeSpec.witness6 (enc := enc) (C := Try.checked) false ⟨#[], #[.slice none 0 0], []⟩ 8 (by kernel_rfl) (by kernel_rfl) (by kernel_rfl) (by kernel_rfl)) ?_
  intro W base args ds gs before hval0 hW hcnd _
  have hval : ∀ (j : Nat) t v, Try.f4.params[j]? = some t → args[j]? = some v → Value.okWide Try.prog W .any base t v := hval0
  have hW' := hW
  obtain ⟨p, q, hA0, hV, rfl, hfz, hnd⟩ := hW
  have hA : DataW.TrodAll enc Try.prog W 0 (fun _ => true) true Try.f4.params.toList args.toList ds p := hA0
  rw [Try.params4] at hA hval
  obtain ⟨v0, vs0, d0, ds0, p0, q0, hargs, rfl, rfl, h0, r0⟩ := trodAll_cons hA
  obtain ⟨rfl, rfl, rfl⟩ := trodAll_nil r0
  obtain rfl : args = #[v0] := by cases args; simp_all
  obtain ⟨rfl, rfl⟩ := trodVars_none hV
  obtain ⟨a0, len0, cap0, rfl⟩ := okWide_slice Try.underlying26 (hval 0 26 v0 rfl rfl)
  have k0 := h0
  have lt0 : ∀ x ∈ p0, x.block < W.heap.size := by obtain ⟨m, hm⟩ := k0; exact DataW.trod_lt m _ _ _ hm
  obtain ⟨z0, e0, lc0, cm0, w0, rd0⟩ := open_bytes h0
  clear hA0 hval0
  refine (lawTV_walk z0 a0 len0 cap0 W e0 lc0 cm0 w0 rd0).mono fun e W' ⟨he, bel⟩ => ?_
  subst he
  exact ⟨_, rfl, _, _, _, [], _, [], hW', trodAll_mk1 (shut_bool Try.underlying4 _), (trodAll_cons_mk (Below.trod laidOut_ (by kernel_rfl) (of_decide_eq_true (by kernel_rfl)) k0 bel lt0) trodAll_mk0), rfl, bel.frame _, fun h => by cases h⟩

theorem fnTimesValid_holds : Rows.FnTimesValidSaid :=
  OpenClaim.holds_of_wide 4 Try.f4 rfl rfl rfl rfl rfl rfl rfl ⟨rfl, rfl, rfl, rfl, rfl⟩ rfl rfl rfl rfl rfl (by kernel_rfl) Try.func4 (by kernel_rfl)
    (of_decide_eq_true (by kernel_rfl)) (by unfold Func.isWrapper; first | (rw [if_pos (by decide +kernel)]; kernel_rfl) | (rw [if_neg (by decide +kernel)]; exact ⟨rfl, rfl⟩))
    (fun os started H enc _ => fnTimesValid_lifted os started H enc)

end Go.Proofs.Ytjgpmihkmobcoaa
