/-
  Signals: the walks of the laws.
-/
import Derived.Test.YtjgpmihkmobcoaaSgM
import Derived.Test.YtjgpmihkmobcoaaSgD
import Derived.Test.YtjgpmihkmobcoaaInts
import Derived.Test.YtjgpmihkmobcoaaOpenB
import Derived.Deep.RegionHeld3
import Derived.IntWalk
namespace Go.Proofs.Ytjgpmihkmobcoaa
open Go.ChangeShapes Go.WideShapes Go.ChangeAt Go.RowKit Go.BigFrame Go.Deep

theorem sameInts_self (l : List Int) (A A' : Option Addr) (n n' c c' : Nat) (w : World) (hn : l.length = n) (hn' : l.length = n') (hm : n ≤ maxLen) (hR : Rd w 1 A n (intC l)) (hR' : Rd w 1 A' n' (intC l)) :
    Calls Try.prog 24 #[.slice A n c, .slice A' n' c'] w fun e w' => e = .returned (.bool true) ∧ Below w.heap.size w w' := by
  have hm' : n' ≤ maxLen := by omega
  simpa using sameInts_any l l A A' n n' c c' w hn hn' hm hm' hR hR'

set_option maxHeartbeats 1000000 in
theorem drawTV_any (A : Option Addr) (n c : Nat) (w : World) (hn : n ≤ 1048576) (hc : n ≤ c) (hcm : c ≤ maxLen) (hB : Bys w w.heap.size A n) :
    Calls Try.prog 14 #[.slice A n c] w (fun e w' => ∃ (l : List Int), l.length ≤ 20 ∧ RSl w 3 1 l.length (intC l) e w') := by
  have HB := hid_ hB; clear hB
  have HC := hid_ hcm; clear hcm
  go_enter Try.func14, Try.ntmps14
  go_wp2_with fail
  refine (open_any A n c _ hn hc HC.out HB.out).mono ?_
  rintro e w1 ⟨rfl, hr1, hb1⟩
  have HBB := hid_ hb1; clear hb1
  have HR1 := hid_ hr1; clear hr1
  have hz := HBB.out.size
  go_wp2_with fail
  refine (l20Times_any w.heap.size 2 _ (by omega) (by omega) HR1.out).mono ?_
  rintro e w2 ⟨l, A2, c2, rfl, hl, hc1, hc2, ho2, hr2, hg2⟩
  have HO2 := hid_ ho2; clear ho2
  have HG2 := hid_ hg2; clear hg2
  have HL := hid_ hl; clear hl
  clear hr2 hc1 hc2
  go_wp2
  go_returns
  exact ⟨l, HL.out, RSl.of_own (own_base HO2.out HBB.out.size) (HBB.out.trans (below_of_gbs HG2.out (by omega) (Nat.le_refl _)))⟩

set_option maxHeartbeats 1000000 in
theorem drawLW_any (A : Option Addr) (n c : Nat) (w : World) (hn : n ≤ 1048576) (hc : n ≤ c) (hcm : c ≤ maxLen) (hB : Bys w w.heap.size A n) :
    Calls Try.prog 22 #[.slice A n c] w (DrawnL2 w) := by
  have HB := hid_ hB; clear hB
  have HC := hid_ hcm; clear hcm
  go_enter Try.func22, Try.ntmps22
  go_wp2_with fail
  refine (drawST_any A n c _ hn hc HC.out HB.out).mono ?_
  rintro e w1 ⟨l, A1, c1, x, y, rfl, hl, h1, h2, hx, hy, ho, hb⟩
  have HO := hid_ ho; clear ho
  have H2 := hid_ h2; clear h2
  have HB1 := hid_ hb; clear hb
  have HH := hid_ (And.intro hl (And.intro h1 (And.intro hx hy))); clear hl h1 hx hy
  go_wp2
  go_returns
  exact DrawnL2.mk_ HH.out.1 HH.out.2.1 H2.out HH.out.2.2.1 HH.out.2.2.2 HO.out HB1.out

set_option maxHeartbeats 1600000 in
theorem lawLW_walk (z : List Int) (A : Option Addr) (n c : Nat) (w : World) (hl : z.length = n) (hc : n ≤ c) (hcm : c ≤ maxLen) (_ : True) (hB : Bys w w.heap.size A n) :
    Calls Try.prog 7 #[.slice A n c] w fun e w' => e = .returned (.bool true) ∧ Below w.heap.size w w' := by
  clear hl
  have HB := hid_ hB; clear hB
  have HC := hid_ hcm
  have hm : n ≤ 9223372036854775807 := by unfold maxLen at hcm; omega
  clear hcm
  by_cases hbig : (1048576 : Int) < (n : Int)
  · go_enter Try.func7, Try.ntmps7
    go_wp2
    go_returns
    exact ⟨rfl, Below.refl _ _⟩
  have hn20 : n ≤ 1048576 := by omega
  go_enter Try.func7, Try.ntmps7
  go_wp2_with fail
  refine (drawLW_any A n c _ hn20 hc HC.out HB.out).mono ?_
  clear HB HC
  rintro e w1 ⟨l, Al, cl, g, wt, rfl, hl, hcl, hcml, hg, hwt, hol, BB⟩
  replace BB := hid_ BB
  have HRl := hid_ (own_rd hol); clear hol
  have HCl := hid_ hcml; clear hcml
  have HF := hid_ (@lwR_facts l g wt)
  have HN := hid_ (@lwR_neg l g wt)
  go_wp2_with fail
  refine (implLW_any l Al l.length cl g wt _ rfl (by omega) hcl HCl.out HRl.out).mono ?_
  rintro e w2 ⟨rfl, hb_w2⟩
  have hs_hb_w2 := hb_w2.size
  replace BB := hid_ (BB.out.trans (hb_w2.mono BB.out.size))
  replace HRl := hid_ (HRl.out.below hb_w2)
  clear hb_w2
  go_wp2_with fail
  refine (specLW_any l Al l.length cl g wt _ rfl (by omega) HRl.out).mono ?_
  rintro e w3 ⟨rfl, hb_w3⟩
  have hs_hb_w3 := hb_w3.size
  replace BB := hid_ (BB.out.trans (hb_w3.mono BB.out.size))
  replace HRl := hid_ (HRl.out.below hb_w3)
  clear hb_w3
  obtain ⟨v, hv⟩ : ∃ v, lwR l g wt = v := ⟨_, rfl⟩
  rw [hv] at HF HN ⊢
  clear hv
  by_cases h0 : v < 0
  · obtain rfl := HN.out h0
    go_wp2_with fail
    go_wp2_with fail
    refine (alive_any _).mono ?_
    rintro e w4 ⟨rfl, hbal⟩
    replace BB := hid_ (BB.out.trans (hbal.mono BB.out.size))
    go_wp2
    go_returns
    exact ⟨rfl, BB.out⟩
  · have h0' : 0 ≤ v := by omega
    obtain ⟨f1, f2, f3⟩ := HF.out h0'
    have F2 := hid_ f2; clear f2
    have F3 := hid_ f3; clear f3
    go_wp2_with fail
    refine (implLW_any l Al l.length cl 1 wt _ rfl (by omega) hcl HCl.out HRl.out).mono ?_
    rw [F2.out]
    rintro e w4 ⟨rfl, hb4⟩
    replace BB := hid_ (BB.out.trans (hb4.mono BB.out.size)); clear hb4
    by_cases hl0 : 0 < l.length
    · have hl1 : (0 : Int) < (l.length : Int) := by omega
      go_wp2
      go_returns
      exact ⟨rfl, BB.out⟩
    · obtain rfl := F3.out (by omega)
      go_wp2
      go_returns
      exact ⟨ret_bool (by simp), BB.out⟩

set_option maxHeartbeats 1600000 in
theorem lawST_walk (z : List Int) (A : Option Addr) (n c : Nat) (w : World) (hl : z.length = n) (hc : n ≤ c) (hcm : c ≤ maxLen) (_ : True) (hB : Bys w w.heap.size A n) :
    Calls Try.prog 9 #[.slice A n c] w fun e w' => e = .returned (.bool true) ∧ Below w.heap.size w w' := by
  clear hl
  have HB := hid_ hB; clear hB
  have HC := hid_ hcm
  have hm : n ≤ 9223372036854775807 := by unfold maxLen at hcm; omega
  clear hcm
  by_cases hbig : (1048576 : Int) < (n : Int)
  · go_enter Try.func9, Try.ntmps9
    go_wp2
    go_returns
    exact ⟨rfl, Below.refl _ _⟩
  have hn20 : n ≤ 1048576 := by omega
  go_enter Try.func9, Try.ntmps9
  go_wp2_with fail
  refine (drawST_any A n c _ hn20 hc HC.out HB.out).mono ?_
  clear HB HC
  rintro e w1 ⟨l, Al, cl, g, wt, rfl, hl, hcl, hcml, hg, hwt, hol, BB⟩
  replace BB := hid_ BB
  have HRl := hid_ (own_rd hol); clear hol
  have HCl := hid_ hcml; clear hcml
  have HL := sgR_length l g wt
  obtain ⟨X, hX⟩ : ∃ X, sgR l g wt = X := ⟨_, rfl⟩
  have HF := hid_ (sgR_facts hX)
  rw [hX] at HL
  have HX := hid_ hX; clear hX
  go_wp2_with fail
  refine (implST_any l Al l.length cl g wt _ rfl (by omega) hcl HCl.out HRl.out).mono ?_
  rw [HX.out]
  rintro e w2 ⟨Ao, co, rfl, hco, hcmo, hoo, hbo⟩
  have HRo := hid_ (own_rd hoo); clear hoo
  have HCo := hid_ hcmo; clear hcmo
  have hs_hbo := hbo.size
  replace BB := hid_ (BB.out.trans (hbo.mono BB.out.size))
  replace HRl := hid_ (HRl.out.below hbo)
  clear hbo
  go_wp2_with fail
  refine (specST_any l Al l.length cl g wt _ rfl (by omega) HRl.out).mono ?_
  rw [HX.out]
  rintro e w3 ⟨Ap, cp, rfl, hcp, hcmp, hop, hbp⟩
  have HRp := hid_ (own_rd hop); clear hop
  clear hcmp
  have hs_hbp := hbp.size
  replace BB := hid_ (BB.out.trans (hbp.mono BB.out.size))
  replace HRl := hid_ (HRl.out.below hbp)
  replace HRo := hid_ (HRo.out.below hbp)
  clear hbp
  go_wp2_with fail
  refine (sameInts_self X Ao Ap _ _ _ _ _ rfl rfl (by unfold maxLen; omega) HRo.out HRp.out).mono ?_
  rintro e w4 ⟨rfl, hb_w4⟩
  have hs_hb_w4 := hb_w4.size
  replace BB := hid_ (BB.out.trans (hb_w4.mono BB.out.size))
  replace HRl := hid_ (HRl.out.below hb_w4)
  replace HRo := hid_ (HRo.out.below hb_w4)
  clear hb_w4
  clear HRp
  by_cases h0 : X.length = 0
  · have hX0 : X = [] := List.eq_nil_of_length_eq_zero h0
    subst hX0
    simp only [List.length_nil] at *
    go_wp2_with fail
    go_wp2_with fail
    refine (alive_any _).mono ?_
    rintro e w5 ⟨rfl, hbal⟩
    replace BB := hid_ (BB.out.trans (hbal.mono BB.out.size))
    go_wp2
    go_returns
    exact ⟨rfl, BB.out⟩
  · have hpos : 0 < X.length := by omega
    obtain ⟨f1, f2, f3, f4, f5, f6, f7, f8⟩ := HF.out hpos
    have F1 := hid_ f1; clear f1
    have F5 := hid_ f5; clear f5
    have F6 := hid_ f6; clear f6
    have F8 := hid_ (f8 f7); clear f8
    have hz : ((X.length : Int) == 0) = false := by rw [beq_eq_false_iff_ne]; omega
    clear HF
    go_wp2
    go_loopw [7] (fun v wr => ∃ k : Nat, 1 ≤ k ∧ k ≤ X.length ∧ v = .int .i64 k ∧ Below w4.heap.size w4 wr) (fun v _ => X.length - (intOf v).toNat)
    case atStart => exact ⟨1, by omega, hpos, rfl, Below.refl _ _⟩
    case round =>
      obtain ⟨k, hk1, hk, rfl, hb⟩ := hrel
      by_cases hlt : k < X.length
      · obtain ⟨b, o, rfl, h0⟩ := (HRo.out.below hb).int k hlt rfl
        obtain ⟨b', o', e', h1⟩ := (HRo.out.below hb).int (k - 1) (by omega) rfl
        injection e' with e1
        injection e1 with e2 e3
        subst e2; subst e3
        have hi : ((k : Int) - 1).toNat = k - 1 := by omega
        have hle := F1.out k hlt (by omega)
        have hnlt : decide (X[k] < X[k-1]) = false := decide_eq_false (fun h => absurd h (Int.not_lt.2 hle))
        go_wp2
        go_quiet (fail)
        go_wp2
        go_roundw
        case rel => exact ⟨k + 1, by omega, by omega, by go_num, bdN hb _⟩
        case measure => exact meas_ hlt
      · have hs_hb := hb.size
        replace BB := hid_ (BB.out.trans (hb.mono BB.out.size))
        replace HRl := hid_ (HRl.out.below hb)
        replace HRo := hid_ (HRo.out.below hb)
        clear hb
        have hd : decide (X.length ≤ l.length) = true := by simpa using f2
        have hne : ¬ g = 0 := by omega
        have f5 := F5.out
        obtain ⟨bo, oo, rfl, ho0⟩ := HRo.out.int 0 hpos rfl
        obtain ⟨bl, ol, rfl, hl0⟩ := HRl.out.int 0 f7 rfl
        simp only [Nat.add_zero] at ho0 hl0
        have f8 := F8.out
        have hpz : (0 : Int) < (X.length : Int) := by omega
        have hlz : (0 : Int) < (l.length : Int) := by omega
        have hbw := BB.out.size
        have L0 := cell_lt ho0
        have L1 := cell_lt hl0
        simp only at L0 L1
        go_wp2_with fail
        obtain ⟨q, hq⟩ : ∃ q, ((l.length : Int) + g - 1) / g = q := ⟨_, rfl⟩
        rw [hq] at f5
        have hq0 : 0 ≤ q := by rw [← hq]; exact Int.ediv_nonneg (by omega) (by omega)
        have d1 : decide (q ≤ (X.length : Int)) = true := by simpa using f5
        have wr1 : IntKind.i64.wrap ((l.length : Int) + g) = (l.length : Int) + g := IntWalk.i64_in _ (by omega)
        have wr2 : IntKind.i64.wrap ((l.length : Int) + g - 1) = (l.length : Int) + g - 1 := IntWalk.i64_in _ (by omega)
        have wr3 : ((l.length : Int) + g - 1).tdiv g = q := by rw [Int.tdiv_eq_ediv_of_nonneg (by omega)]; exact hq
        have wr4 : IntKind.i64.wrap q = q := IntWalk.i64_in _ (by omega)
        clear hq
        go_region_held3 (fun w' => w'.cell? ⟨bo, oo, none⟩ = some (.int .i64 X[0]) ∧ w'.cell? ⟨bl, ol, none⟩ = some (.int .i64 l[0])) (go_keep) (first
          | (go_at_call 19; refine (implST_any l _ l.length cl 1 wt _ rfl (by omega) hcl HCl.out HRl.out.drew).mono ?_; rw [F6.out]; rintro e w6 ⟨A6, c6, rfl, hc6, hcm6, ho6, hb6⟩; have n0 : w6.cell? ⟨bo, oo, none⟩ = some (.int .i64 X[0]) := (hb6.cell (p := ⟨bo, oo, none⟩) L0).trans ho0; have n1 : w6.cell? ⟨bl, ol, none⟩ = some (.int .i64 l[0]) := (hb6.cell (p := ⟨bl, ol, none⟩) L1).trans hl0; have HR6 := hid_ (own_rd ho6); have HRl6 := hid_ (HRl.out.drew.below hb6); have HB6 := hid_ hb6; clear ho6 hcm6 hb6)
          | (go_at_call 24; refine (sameInts_self l _ _ _ _ _ _ _ rfl rfl (by unfold maxLen; omega) HR6.out HRl6.out).mono ?_; rintro e w7 ⟨rfl, hb7⟩; have m0 := (hb7.cell (cell_lt n0)).trans n0; have m1 := (hb7.cell (cell_lt n1)).trans n1; have HB7 := hid_ hb7; clear hb7))
        all_goals
          go_wp2
          go_returns
          exact ⟨rfl, BB.out.drew.trans ((HB6.out.mono BB.out.size).trans (HB7.out.mono (Nat.le_trans BB.out.size HB6.out.size)))⟩

set_option maxRecDepth 100000 in
theorem fnLongestWait_lifted (os : Os) (started : os.Started) (H : Type) (enc : TypeId × Value → H) :
    ReturnsInHanded {} Try.checked os 7 .any (Rows.fnLongestWaitSpec.pre6 enc Try.prog Try.f7 Rows.fnLongestWaitRow.domain false) (Rows.fnLongestWaitSpec.post enc Try.prog Try.f7 false true false false) := by
  refine returnsInHanded_of_change (C := Try.checked) own_ started (by kernel_rfl) Try.func7
    (ChangeSpec.witness6 (enc := enc) (C := Try.checked) false ⟨#[], #[.slice none 0 0], []⟩ 8 (by kernel_rfl) (by kernel_rfl) (by kernel_rfl) (by kernel_rfl)) ?_
  intro W base args ds gs before hval0 hW hcnd _
  have hval : ∀ (j : Nat) t v, Try.f7.params[j]? = some t → args[j]? = some v → Value.okWide Try.prog W .any base t v := hval0
  have hW' := hW
  obtain ⟨p, q, hA0, hV, rfl, hfz, hnd⟩ := hW
  have hA : DataW.TrodAll enc Try.prog W 0 (fun _ => true) true Try.f7.params.toList args.toList ds p := hA0
  rw [Try.params7] at hA hval
  obtain ⟨v0, vs0, d0, ds0, p0, q0, hargs, rfl, rfl, h0, r0⟩ := trodAll_cons hA
  obtain ⟨rfl, rfl, rfl⟩ := trodAll_nil r0
  obtain rfl : args = #[v0] := by cases args; simp_all
  obtain ⟨rfl, rfl⟩ := trodVars_none hV
  obtain ⟨a0, len0, cap0, rfl⟩ := okWide_slice Try.underlying26 (hval 0 26 v0 rfl rfl)
  have k0 := h0
  have lt0 : ∀ x ∈ p0, x.block < W.heap.size := by obtain ⟨m, hm⟩ := k0; exact DataW.trod_lt m _ _ _ hm
  obtain ⟨z0, e0, lc0, cm0, w0, rd0⟩ := open_bytes h0
  clear hA0 hval0
  refine (lawLW_walk z0 a0 len0 cap0 W e0 lc0 cm0 w0 rd0).mono fun e W' ⟨he, bel⟩ => ?_
  subst he
  exact ⟨_, rfl, _, _, _, [], _, [], hW', trodAll_mk1 (shut_bool Try.underlying4 _), (trodAll_cons_mk (Below.trod laidOut_ (by kernel_rfl) (of_decide_eq_true (by kernel_rfl)) k0 bel lt0) trodAll_mk0), rfl, bel.frame _, fun h => by cases h⟩

theorem fnLongestWait_holds : Rows.FnLongestWaitSaid :=
  OpenClaim.holds_of_wide 7 Try.f7 rfl rfl rfl rfl rfl rfl rfl ⟨rfl, rfl, rfl, rfl, rfl⟩ rfl rfl rfl rfl rfl (by kernel_rfl) Try.func7 (by kernel_rfl)
    (of_decide_eq_true (by kernel_rfl)) (by unfold Func.isWrapper; first | (rw [if_pos (by decide +kernel)]; kernel_rfl) | (rw [if_neg (by decide +kernel)]; exact ⟨rfl, rfl⟩))
    (fun os started H enc _ => fnLongestWait_lifted os started H enc)


set_option maxRecDepth 100000 in
theorem fnSignalTimes_lifted (os : Os) (started : os.Started) (H : Type) (enc : TypeId × Value → H) :
    ReturnsInHanded {} Try.checked os 9 .any (Rows.fnSignalTimesSpec.pre6 enc Try.prog Try.f9 Rows.fnSignalTimesRow.domain false) (Rows.fnSignalTimesSpec.post enc Try.prog Try.f9 false true false false) := by
  refine returnsInHanded_of_change (C := Try.checked) own_ started (by kernel_rfl) Try.func9
    (ChangeSpec.witness6 (enc := enc) (C := Try.checked) false ⟨#[], #[.slice none 0 0], []⟩ 8 (by kernel_rfl) (by kernel_rfl) (by kernel_rfl) (by kernel_rfl)) ?_
  intro W base args ds gs before hval0 hW hcnd _
  have hval : ∀ (j : Nat) t v, Try.f9.params[j]? = some t → args[j]? = some v → Value.okWide Try.prog W .any base t v := hval0
  have hW' := hW
  obtain ⟨p, q, hA0, hV, rfl, hfz, hnd⟩ := hW
  have hA : DataW.TrodAll enc Try.prog W 0 (fun _ => true) true Try.f9.params.toList args.toList ds p := hA0
  rw [Try.params9] at hA hval
  obtain ⟨v0, vs0, d0, ds0, p0, q0, hargs, rfl, rfl, h0, r0⟩ := trodAll_cons hA
  obtain ⟨rfl, rfl, rfl⟩ := trodAll_nil r0
  obtain rfl : args = #[v0] := by cases args; simp_all
  obtain ⟨rfl, rfl⟩ := trodVars_none hV
  obtain ⟨a0, len0, cap0, rfl⟩ := okWide_slice Try.underlying26 (hval 0 26 v0 rfl rfl)
  have k0 := h0
  have lt0 : ∀ x ∈ p0, x.block < W.heap.size := by obtain ⟨m, hm⟩ := k0; exact DataW.trod_lt m _ _ _ hm
  obtain ⟨z0, e0, lc0, cm0, w0, rd0⟩ := open_bytes h0
  clear hA0 hval0
  refine (lawST_walk z0 a0 len0 cap0 W e0 lc0 cm0 w0 rd0).mono fun e W' ⟨he, bel⟩ => ?_
  subst he
  exact ⟨_, rfl, _, _, _, [], _, [], hW', trodAll_mk1 (shut_bool Try.underlying4 _), (trodAll_cons_mk (Below.trod laidOut_ (by kernel_rfl) (of_decide_eq_true (by kernel_rfl)) k0 bel lt0) trodAll_mk0), rfl, bel.frame _, fun h => by cases h⟩

theorem fnSignalTimes_holds : Rows.FnSignalTimesSaid :=
  OpenClaim.holds_of_wide 9 Try.f9 rfl rfl rfl rfl rfl rfl rfl ⟨rfl, rfl, rfl, rfl, rfl⟩ rfl rfl rfl rfl rfl (by kernel_rfl) Try.func9 (by kernel_rfl)
    (of_decide_eq_true (by kernel_rfl)) (by unfold Func.isWrapper; first | (rw [if_pos (by decide +kernel)]; kernel_rfl) | (rw [if_neg (by decide +kernel)]; exact ⟨rfl, rfl⟩))
    (fun os started H enc _ => fnSignalTimes_lifted os started H enc)

end Go.Proofs.Ytjgpmihkmobcoaa
