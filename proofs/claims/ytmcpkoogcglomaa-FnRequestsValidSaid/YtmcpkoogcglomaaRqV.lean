/-
  Requests: the walk of the law on valid requests.
-/
import Derived.Test.YtmcpkoogcglomaaRqL
namespace Go.Proofs.Ytmcpkoogcglomaa
open Go.ChangeShapes Go.WideShapes Go.ChangeAt Go.RowKit Go.BigFrame Go.Deep

theorem rd_rqz (w : World) (g : Nat) (hg : w.heap.size = g) : Rd (w.alloc (.cells #[.int .i64 0, .int .i64 0, .bool false] 33)) 3 (some ⟨g, 0, none⟩) 1 (rqC [⟨0, 0, false⟩]) := by
  subst hg
  exact ⟨rfl, fun _ => ⟨_, _, rfl, fun j u hu => by
    have := news_alloc w [.int .i64 0, .int .i64 0, .bool false] 33 j u hu
    rwa [add_mid] at this⟩⟩

set_option maxHeartbeats 1600000 in
theorem lawRV_walk (z : List Int) (A : Option Addr) (n c : Nat) (w : World) (hl : z.length = n) (hc : n ≤ c) (hcm : c ≤ maxLen) (_ : True) (hB : Bys w w.heap.size A n) :
    Calls Try.prog 6 #[.slice A n c] w fun e w' => e = .returned (.bool true) ∧ Below w.heap.size w w' := by
  clear hl
  have HB := hid_ hB; clear hB
  have HC := hid_ hcm
  have hm : n ≤ 9223372036854775807 := by unfold maxLen at hcm; omega
  clear hcm
  by_cases hbig : (1048576 : Int) < (n : Int)
  · go_enter Try.func6, Try.ntmps6
    go_wp2
    go_returns
    exact ⟨rfl, Below.refl _ _⟩
  have hn20 : n ≤ 1048576 := by omega
  go_enter Try.func6, Try.ntmps6
  go_wp2_with fail
  refine (drawRV_any A n c _ hn20 hc HC.out HB.out).mono ?_
  clear HB HC
  rintro e w1 ⟨l, Al, cl, rfl, hl, hcl, hcml, hdr, hol, BB⟩
  replace BB := hid_ BB
  have HRl := hid_ (own_rd hol); clear hol hdr
  have HCl := hid_ hcml; clear hcml
  have HD := hid_ (fun h => rv_take (l := l) h (l.length / 2))
  have H54 := hid_ (rv_zero l)
  obtain ⟨t, ht⟩ : ∃ t, rv l = t := ⟨_, rfl⟩
  rw [ht] at HD
  have HT := hid_ ht; clear ht
  go_wp2_with fail
  refine (implRV_any l Al l.length cl _ rfl (by omega) hcl HCl.out HRl.out).mono ?_
  rw [HT.out]
  rintro e w2 ⟨rfl, hb2⟩
  have hs_hb2 := hb2.size
  replace BB := hid_ (BB.out.trans (hb2.mono BB.out.size))
  replace HRl := hid_ (HRl.out.below hb2)
  clear hb2
  go_wp2_with fail
  refine (specRV_any l Al l.length cl _ rfl (by omega) HRl.out).mono ?_
  rw [HT.out]
  rintro e w3 ⟨rfl, rfl⟩
  have hb := BB.out.size
  have key : ∀ (W : World) (A : Option Addr) (cc : Nat), l.length + 1 ≤ cc → cc ≤ maxLen → Rd W 3 A (l.length + 1) (rqC (l ++ [⟨0, 0, false⟩])) → Calls Try.prog 15 #[.slice A (l.length + 1) cc] W fun e w' => e = .returned (.bool false) ∧ Below W.heap.size W w' := fun W A cc h1 h2 hR => by
    have := implRV_any (l ++ [⟨0, 0, false⟩]) A (l.length + 1) cc W (by simp) (by omega) h1 h2 hR
    rwa [H54.out] at this
  have KEY := hid_ key; clear key
  obtain ⟨w4, hw4⟩ : ∃ w4, w2 = w4 := ⟨_, rfl⟩
  subst hw4
  cases t
  · go_wp2_with (first
      | (at_builtin; (with_reducible change wpList _ _ _ (⟨some 29, _, _, _, _, _⟩ :: _) _ _); refine wpList_append_rdg _ rfl _ _ 25 rfl w2.heap.size 33 (.agg #[.int .i64 0, .int .i64 0, .bool false]) 3 24 Try.underlying25 rq_info rfl (by decide) (by decide) _ _ _ (own_empty w2 33 3) rfl _ _ _ _ (HRl.out.alloc _) rfl (rqC_one l) (by omega) (by simp) ?_; intro v29 w29 ho' hg'; have HO29 := hid_ ho'; have HG29 := hid_ hg'; clear ho' hg')
      | (at_builtin; (with_reducible change wpList _ _ _ (⟨some 32, _, _, _, _, _⟩ :: _) _ _); refine wpList_append_rdg _ rfl _ _ 25 rfl w2.heap.size 33 (.agg #[.int .i64 0, .int .i64 0, .bool false]) 3 24 Try.underlying25 rq_info rfl (by decide) (by decide) _ _ _ (HO29.out.alloc _) rfl _ _ _ _ (rd_rqz _ _ rfl) rfl (rqC_one [⟨0, 0, false⟩]) (by omega) (by have := HG29.out.size; simp only [World.size_alloc] at this ⊢; omega) ?_; intro v32 w32 ho' hg'; have HO32 := hid_ ho'; have HG32 := hid_ hg'; clear ho' hg'))
    have HO := hid_ (own_eq HO32.out (show 0 + l.length + 1 = l.length + 1 by omega) (show [] ++ rqC l ++ rqC [⟨0, 0, false⟩] = rqC (l ++ [⟨0, 0, false⟩]) by rw [rqC_append]; simp))
    clear HO32
    have hbb := hid_ (below_push ((below_push ((Below.refl w2.heap.size w2).alloc (Nat.le_refl _) (.cells #[] 33)) (own_empty w2 33 3) HG29.out (by simp)).alloc (by have := HG29.out.size; simp only [World.size_alloc] at this; omega) (.cells #[.int .i64 0, .int .i64 0, .bool false] 33)) (HO29.out.alloc _) HG32.out (by have := HG29.out.size; simp only [World.size_alloc] at this ⊢; omega))
    clear HO29 HG29 HG32
    obtain ⟨Az, cz, rfl, hcz, hcmz⟩ := own_shape HO.out
    have HCz := hid_ hcmz; clear hcmz
    refine (KEY.out _ _ _ hcz HCz.out (own_rd HO.out)).mono ?_
    rintro e w5 ⟨rfl, hb5⟩
    have hb5' := hbb.out
    replace BB := hid_ (BB.out.trans (hb5'.mono BB.out.size))
    replace BB := hid_ (BB.out.trans (hb5.mono BB.out.size))
    clear hb5 hb5'
    go_wp2_with fail
    refine (alive_any _).mono ?_
    rintro e w6 ⟨rfl, hbal⟩
    replace BB := hid_ (BB.out.trans (hbal.mono BB.out.size))
    go_wp2
    go_returns
    exact ⟨rfl, BB.out⟩
  · have HDT := hid_ (HD.out rfl)
    have i1 : (l.length : Int) / 2 ≤ (l.length : Int) := by omega
    have i2 : (0 : Int) ≤ (l.length : Int) / 2 := by omega
    have i3 : (l.length : Int) / 2 ≤ (cl : Int) := by omega
    have i4 : ((l.length : Int) / 2).toNat = l.length / 2 := by omega
    have hRd := HRl.out.take (show l.length / 2 ≤ l.length by omega)
    rw [rqC_take] at hRd
    have HRd := hid_ hRd; clear hRd
    go_wp2_with fail
    refine (implRV_any (l.take (l.length / 2)) Al (l.length / 2) cl _ (by rw [List.length_take]; omega) (by omega) (by omega) HCl.out HRd.out).mono ?_
    rw [HDT.out]
    rintro e w3 ⟨rfl, hb3⟩
    clear HRd i1 i2 i3 i4
    have hs_hb3 := hb3.size
    replace BB := hid_ (BB.out.trans (hb3.mono BB.out.size))
    replace HRl := hid_ (HRl.out.below hb3)
    clear hb3
    go_wp2_with (first
      | (at_builtin; (with_reducible change wpList _ _ _ (⟨some 29, _, _, _, _, _⟩ :: _) _ _); refine wpList_append_rdg _ rfl _ _ 25 rfl w3.heap.size 33 (.agg #[.int .i64 0, .int .i64 0, .bool false]) 3 24 Try.underlying25 rq_info rfl (by decide) (by decide) _ _ _ (own_empty w3 33 3) rfl _ _ _ _ (HRl.out.alloc _) rfl (rqC_one l) (by omega) (by simp) ?_; intro v29 w29 ho' hg'; have HO29 := hid_ ho'; have HG29 := hid_ hg'; clear ho' hg')
      | (at_builtin; (with_reducible change wpList _ _ _ (⟨some 32, _, _, _, _, _⟩ :: _) _ _); refine wpList_append_rdg _ rfl _ _ 25 rfl w3.heap.size 33 (.agg #[.int .i64 0, .int .i64 0, .bool false]) 3 24 Try.underlying25 rq_info rfl (by decide) (by decide) _ _ _ (HO29.out.alloc _) rfl _ _ _ _ (rd_rqz _ _ rfl) rfl (rqC_one [⟨0, 0, false⟩]) (by omega) (by have := HG29.out.size; simp only [World.size_alloc] at this ⊢; omega) ?_; intro v32 w32 ho' hg'; have HO32 := hid_ ho'; have HG32 := hid_ hg'; clear ho' hg'))
    have HO := hid_ (own_eq HO32.out (show 0 + l.length + 1 = l.length + 1 by omega) (show [] ++ rqC l ++ rqC [⟨0, 0, false⟩] = rqC (l ++ [⟨0, 0, false⟩]) by rw [rqC_append]; simp))
    clear HO32
    have hbb := hid_ (below_push ((below_push ((Below.refl w3.heap.size w3).alloc (Nat.le_refl _) (.cells #[] 33)) (own_empty w3 33 3) HG29.out (by simp)).alloc (by have := HG29.out.size; simp only [World.size_alloc] at this; omega) (.cells #[.int .i64 0, .int .i64 0, .bool false] 33)) (HO29.out.alloc _) HG32.out (by have := HG29.out.size; simp only [World.size_alloc] at this ⊢; omega))
    clear HO29 HG29 HG32
    obtain ⟨Az, cz, rfl, hcz, hcmz⟩ := own_shape HO.out
    have HCz := hid_ hcmz; clear hcmz
    refine (KEY.out _ _ _ hcz HCz.out (own_rd HO.out)).mono ?_
    rintro e w5 ⟨rfl, hb5⟩
    have hb5' := hbb.out
    replace BB := hid_ (BB.out.trans (hb5'.mono BB.out.size))
    replace BB := hid_ (BB.out.trans (hb5.mono BB.out.size))
    clear hb5 hb5'
    go_wp2_with fail
    refine (alive_any _).mono ?_
    rintro e w6 ⟨rfl, hbal⟩
    replace BB := hid_ (BB.out.trans (hbal.mono BB.out.size))
    go_wp2
    go_returns
    exact ⟨rfl, BB.out⟩

set_option maxRecDepth 100000 in
theorem fnRequestsValid_lifted (os : Os) (started : os.Started) (H : Type) (enc : TypeId × Value → H) :
    ReturnsInHanded {} Try.checked os 6 .any (Rows.fnRequestsValidSpec.pre6 enc Try.prog Try.f6 Rows.fnRequestsValidRow.domain false) (Rows.fnRequestsValidSpec.post enc Try.prog Try.f6 false true false false) := by
  refine returnsInHanded_of_change (C := Try.checked) own_ started (by kernel_rfl) Try.func6
    (ChangeSpec.witness6 (enc := enc) (C := Try.checked) false ⟨#[], #[.slice none 0 0], []⟩ 8 (by kernel_rfl) (by kernel_rfl) (by kernel_rfl) (by kernel_rfl)) ?_
  intro W base args ds gs before hval0 hW hcnd _
  have hval : ∀ (j : Nat) t v, Try.f6.params[j]? = some t → args[j]? = some v → Value.okWide Try.prog W .any base t v := hval0
  have hW' := hW
  obtain ⟨p, q, hA0, hV, rfl, hfz, hnd⟩ := hW
  have hA : DataW.TrodAll enc Try.prog W 0 (fun _ => true) true Try.f6.params.toList args.toList ds p := hA0
  rw [Try.params6] at hA hval
  obtain ⟨v0, vs0, d0, ds0, p0, q0, hargs, rfl, rfl, h0, r0⟩ := trodAll_cons hA
  obtain ⟨rfl, rfl, rfl⟩ := trodAll_nil r0
  obtain rfl : args = #[v0] := by cases args; simp_all
  obtain ⟨rfl, rfl⟩ := trodVars_none hV
  obtain ⟨a0, len0, cap0, rfl⟩ := okWide_slice Try.underlying37 (hval 0 37 v0 rfl rfl)
  have k0 := h0
  have lt0 : ∀ x ∈ p0, x.block < W.heap.size := by obtain ⟨m, hm⟩ := k0; exact DataW.trod_lt m _ _ _ hm
  obtain ⟨z0, e0, lc0, cm0, w0, rd0⟩ := open_bytes h0
  clear hA0 hval0
  refine (lawRV_walk z0 a0 len0 cap0 W e0 lc0 cm0 w0 rd0).mono fun e W' ⟨he, bel⟩ => ?_
  subst he
  exact ⟨_, rfl, _, _, _, [], _, [], hW', trodAll_mk1 (shut_bool Try.underlying4 _), (trodAll_cons_mk (Below.trod laidOut_ (by kernel_rfl) (of_decide_eq_true (by kernel_rfl)) k0 bel lt0) trodAll_mk0), rfl, bel.frame _, fun h => by cases h⟩

theorem fnRequestsValid_holds : Rows.FnRequestsValidSaid :=
  OpenClaim.holds_of_wide 6 Try.f6 rfl rfl rfl rfl rfl rfl rfl ⟨rfl, rfl, rfl, rfl, rfl⟩ rfl rfl rfl rfl rfl (by kernel_rfl) Try.func6 (by kernel_rfl)
    (of_decide_eq_true (by kernel_rfl)) (by unfold Func.isWrapper; first | (rw [if_pos (by decide +kernel)]; kernel_rfl) | (rw [if_neg (by decide +kernel)]; exact ⟨rfl, rfl⟩))
    (fun os started H enc _ => fnRequestsValid_lifted os started H enc)

end Go.Proofs.Ytmcpkoogcglomaa
