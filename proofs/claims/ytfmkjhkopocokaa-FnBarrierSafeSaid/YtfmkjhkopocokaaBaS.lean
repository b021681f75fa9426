/-
  Barriers: the law on safe orders.
-/
import Derived.Test.YtfmkjhkopocokaaBaR
namespace Go.Proofs.Ytfmkjhkopocokaa
open Go.ChangeShapes Go.WideShapes Go.ChangeAt Go.RowKit Go.BigFrame Go.Deep

set_option maxRecDepth 20000 in
set_option maxHeartbeats 1600000 in
theorem lawSafe_walk (z : List Int) (A : Option Addr) (n c : Nat) (w : World) (hl : z.length = n) (hc : n ≤ c) (hcm : c ≤ maxLen) (_ : True) (hB : Bys w w.heap.size A n) :
    Calls Try.prog 9 #[.slice A n c] w fun e w' => e = .returned (.bool true) ∧ Below w.heap.size w w' := by
  clear hl
  have HB := hid_ hB; clear hB
  have HC := hid_ hcm
  have hm : n ≤ 9223372036854775807 := by unfold maxLen at hcm; omega
  clear hcm
  by_cases hbig : (1048576 : Int) < (n : Int)
  · go_enter Try.func9, Try.ntmps9
    go_wp2
    go_returns
    exact ⟨rfl, Below.refl _ _⟩
  have hn20 : n ≤ 1048576 := by omega
  go_enter Try.func9, Try.ntmps9
  go_wp2_with fail
  refine (drawBo_any A n c _ hn20 hc HC.out HB.out).mono ?_
  clear HB HC
  rintro e w1 ⟨l, Al, cl, o, Aq, cq, rfl, hl, hcl, hcml, hol, hcq, hcmq, hrl, hrq, BB⟩
  replace BB := hid_ BB
  obtain ⟨n0, hn0⟩ : ∃ n0, l.length = n0 := ⟨_, rfl⟩
  have hon : o.length = n0 := hol.trans hn0
  rw [hn0] at hrl hcl hl ⊢
  rw [hon] at hrq hcq ⊢
  have HN := hid_ hn0; clear hn0
  have HON := hid_ hon; clear hon hol
  have HRl := hid_ (own_rd hrl); clear hrl
  have HRq := hid_ (own_rd hrq); clear hrq
  have HCl := hid_ hcml; clear hcml
  have HCq := hid_ hcmq; clear hcmq
  go_wp2_with fail
  refine (implSafe_any l Al n0 cl o Aq n0 cq _ HN.out (by omega) hcl HCl.out HRl.out HON.out (by omega) hcq HCq.out HRq.out).mono ?_
  rintro e w2 ⟨rfl, hb_w2⟩
  have hs_hb_w2 := hb_w2.size
  replace BB := hid_ (BB.out.trans (hb_w2.mono BB.out.size))
  replace HRl := hid_ (HRl.out.below hb_w2)
  replace HRq := hid_ (HRq.out.below hb_w2)
  clear hb_w2
  go_wp2_with fail
  refine (specSafe_any l Al n0 cl o Aq n0 cq _ HN.out (by omega) HRl.out HON.out (by omega) HRq.out).mono ?_
  rintro e w3 ⟨rfl, hb_w3⟩
  have hs_hb_w3 := hb_w3.size
  replace BB := hid_ (BB.out.trans (hb_w3.mono BB.out.size))
  replace HRl := hid_ (HRl.out.below hb_w3)
  replace HRq := hid_ (HRq.out.below hb_w3)
  clear hb_w3
  obtain ⟨B, hBv⟩ : ∃ B, safeR l o = B := ⟨_, rfl⟩
  rw [hBv]
  have HBV := hid_ hBv; clear hBv
  go_wp2_with fail
  refine (implGR_any l Al n0 cl _ HN.out (by omega) HRl.out).mono ?_
  have HFA := hid_ (grpR_facts l)
  have HGL := grpR_length l
  have HGM := hid_ (grpR_mem l)
  have HGS := hid_ (fun h : l.length ≤ 12 => safe_ins h (HON.out.trans HN.out.symm))
  obtain ⟨gs, hgs⟩ : ∃ gs, grpR l = gs := ⟨_, rfl⟩
  rw [hgs] at HFA HGL HGM HGS ⊢
  clear hgs
  rintro e w4 ⟨Ao, co, vs, rfl, hco, hcmo, hoo, hbo⟩
  have HRo := hid_ hoo.rd; clear hoo
  clear hcmo hco
  have hs_hbo := hbo.size
  replace BB := hid_ (BB.out.trans (hbo.mono BB.out.size))
  replace HRl := hid_ (HRl.out.below hbo)
  replace HRq := hid_ (HRq.out.below hbo)
  clear hbo
  by_cases h12 : 12 < n0
  · have hB : B = false := by rw [← HBV.out]; exact safeR_no (Or.inl (by rw [HN.out]; exact h12))
    subst hB
    have h12z : (12 : Int) < ((n0 : Nat) : Int) := by omega
    go_wp2_with fail
    go_wp2_with fail
    refine (alive_any _).mono ?_
    rintro e w5 ⟨rfl, hbal⟩
    replace BB := hid_ (BB.out.trans (hbal.mono BB.out.size))
    go_wp2
    go_returns
    exact ⟨rfl, BB.out⟩
  have h12z : ¬ (12 : Int) < ((n0 : Nat) : Int) := by omega
  have HBI := hid_ ((HBV.out).symm.trans (HGS.out (by rw [HN.out]; omega)))
  have HAL := hid_ ((HFA.out.2.1 (by rw [HN.out]; omega)).trans HN.out)
  clear HGS HBV HRl
  go_wp2
  go_loopw [7, 8, 9] (fun vi va vk wr => ∃ (k S : Nat) (b : Bool), k ≤ gs.length ∧ vk = .int .i64 (k : Int) ∧ va = .int .i64 (S : Int) ∧ vi = .bool b ∧ S = offs gs k ∧ b = insB o gs k ∧ Below w4.heap.size w4 wr ∧ ∀ a, w4.cell? a = wr.cell? a) (fun _ _ vk _ => gs.length - (intOf vk).toNat)
  case atStart => exact ⟨0, 0, true, Nat.zero_le _, rfl, rfl, rfl, (offs_zero gs).symm, rfl, Below.refl _ _, fun _ => rfl⟩
  case round =>
    obtain ⟨k, S, b, hk, rfl, rfl, rfl, hS, hb, hbw, hce⟩ := hrel
    have HS := hid_ hS; clear hS
    have HB := hid_ hb; clear hb
    have HCE := hid_ hce; clear hce
    have HBW := hid_ hbw; clear hbw
    by_cases hlt : k < gs.length
    · obtain ⟨bb, oo, Aj, cj, rfl, hrow, _, _, hrj⟩ := HRo.out.at k hlt
      have HRj := hid_ hrj; clear hrj
      have HSn := hid_ (offs_succ gs k hlt)
      have HIS := hid_ (insB_succ o gs k hlt)
      rw [← HS.out] at HSn HIS
      rw [← HB.out] at HIS
      have hSm := offs_flat gs (k + 1)
      rw [← flat_len, HAL.out, HSn.out] at hSm
      obtain ⟨g, hg⟩ : ∃ g, gs[k] = g := ⟨_, rfl⟩
      rw [hg] at hrow HRj HSn HIS hSm
      clear hg
      have HSE := hid_ (fun j (hj : j < g.length) => seenN_succ o S g j hj)
      have HSZ := hid_ (seenN_zero o S g)
      have HSL := hid_ (seenN_le o S g)
      obtain ⟨m, hm⟩ : ∃ m, g.length = m := ⟨_, rfl⟩
      rw [hm] at hrow HRj HSn hSm
      have HGD := hid_ (show goodB o S g = decide (seenN o S g m = m) by unfold goodB; rw [hm])
      have HM := hid_ hm; clear hm
      have HROW := hid_ hrow
      rw [HCE.out] at hrow
      have hkz : (k : Int) < ((gs.length : Nat) : Int) := by omega
      go_wp2
      go_loopw [10, 11] (fun vs vj wr => ∃ j s : Nat, j ≤ m ∧ vj = .int .i64 (j : Int) ∧ vs = .int .i64 (s : Int) ∧ s = seenN o S g j ∧ Below w4.heap.size w4 wr ∧ ∀ a, w4.cell? a = wr.cell? a) (fun _ vj _ => m - (intOf vj).toNat)
      case atStart => exact ⟨0, 0, Nat.zero_le _, rfl, rfl, HSZ.out.symm, HBW.out, HCE.out⟩
      case round =>
        obtain ⟨j, s, hj, rfl, rfl, hs, hbw2, hce2⟩ := hrel
        have hsj : s ≤ j := by rw [hs]; exact HSL.out j
        have HSS := hid_ hs; clear hs
        have HCE2 := hid_ hce2; clear hce2
        have HBW2 := hid_ hbw2; clear hbw2
        clear hrow
        have hrow := HROW.out
        rw [HCE2.out] at hrow
        by_cases hlj : j < m
        · have hse := HSE.out j (by rw [HM.out]; exact hlj)
          rw [← HSS.out] at hse
          obtain ⟨b3, o3, rfl, hcj⟩ := HRj.out.int j hlj HM.out
          obtain ⟨y, hy⟩ : ∃ y, g[j]'(by rw [HM.out]; exact hlj) = y := ⟨_, rfl⟩
          rw [hy] at hcj hse
          clear hy
          have HSEJ := hid_ hse; clear hse
          have HCJ := hid_ hcj; clear hcj
          have hjz : (j : Int) < (m : Int) := by omega
          go_wp2
          go_loopw [10, 12] (fun vs vi wr => ∃ i : Nat, S ≤ i ∧ i ≤ S + m ∧ vi = .int .i64 (i : Int) ∧ vs = .int .i64 (s : Int) ∧ (∀ i' (h : i' < o.length), S ≤ i' → i' < i → o[i'] ≠ y) ∧ Below w4.heap.size w4 wr ∧ ∀ a, w4.cell? a = wr.cell? a) (fun _ vi _ => S + m - (intOf vi).toNat)
          case atStart => exact ⟨S, Nat.le_refl _, by omega, rfl, rfl, fun i' _ h1 h2 => absurd h2 (by omega), HBW2.out, HCE2.out⟩
          case round =>
            obtain ⟨i, hSi, hi, rfl, rfl, hno, hbw3, hce3⟩ := hrel
            have HNO := hid_ hno; clear hno
            have HCE3 := hid_ hce3; clear hce3
            have HBW3 := hid_ hbw3; clear hbw3
            clear hrow
            have hrow := HROW.out
            rw [HCE3.out] at hrow
            have hcj := HCJ.out
            rw [HCE3.out] at hcj
            by_cases hli : i < S + m
            · have hio : i < n0 := by omega
              have hioz : (i : Int) < (n0 : Int) := by omega
              have hiz : (i : Int) < (S : Int) + (m : Int) := by omega
              obtain ⟨bq, oq, rfl, hcx⟩ := HRq.out.int i hio HON.out
              obtain ⟨x, hx⟩ : ∃ x, o[i]'(by rw [HON.out]; exact hio) = x := ⟨_, rfl⟩
              rw [hx] at hcx
              have HX := hid_ hx; clear hx
              rw [HCE3.out] at hcx
              by_cases hxy : x = y
              · subst hxy
                have HH := hid_ (hitB_at (o := o) (S := S) (m := m) (x := x) hSi hli (by rw [HON.out]; exact hio) HX.out)
                go_wp2
                go_quiet (fail)
                go_wp2
                go_roundw
                case rel =>
                  refine ⟨j + 1, s + 1, by omega, by go_num, by go_num, ?_, bdN HBW3.out _, fun a => (HCE3.out a).trans rfl⟩
                  rw [HSEJ.out, HM.out, HH.out]; rfl
                case measure => exact meas_ hlj
              · have hne : (x == y) = false := by rw [beq_eq_false_iff_ne]; exact hxy
                have HXY := hid_ hxy; clear hxy
                go_wp2
                go_quiet (fail)
                go_wp2
                go_roundw
                case rel =>
                  refine ⟨i + 1, by omega, by omega, by go_num, rfl, fun i' h' h1 h2 => ?_, bdN HBW3.out _, fun a => (HCE3.out a).trans rfl⟩
                  by_cases e : i' = i
                  · subst e; rw [HX.out]; exact HXY.out
                  · exact HNO.out i' h' h1 (by omega)
                case measure => simp [intOf]; omega
            · have e : i = S + m := by omega
              have HE := hid_ e; clear e
              have hiz : ¬ (i : Int) < (S : Int) + (m : Int) := by omega
              have HH := hid_ (hitB_no (o := o) (S := S) (m := m) (x := y) (fun i' h' h1 h2 => HNO.out i' h' h1 (by have := HE.out; omega)))
              go_wp2
              go_roundw
              case rel =>
                refine ⟨j + 1, s, by omega, by go_num, rfl, ?_, HBW3.out, HCE3.out⟩
                rw [HSEJ.out, HM.out, HH.out]; rfl
              case measure => exact meas_ hlj
        · obtain rfl : j = m := by omega
          have hjz : ¬ (j : Int) < (j : Int) := by omega
          cases b
          · go_wp2
            go_roundw
            case rel => exact ⟨k + 1, S + j, false, by omega, by go_num, by go_num, rfl, HSn.out.symm, by rw [HIS.out]; rfl, HBW2.out, HCE2.out⟩
            case measure => exact meas_ hlt
          · by_cases hsm : s = j
            · subst hsm
              have HQ := hid_ (show insB o gs (k + 1) = true by rw [HIS.out, HGD.out, ← HSS.out]; simp)
              go_wp2
              go_roundw
              case rel => exact ⟨k + 1, S + s, true, by omega, by go_num, by go_num, rfl, HSn.out.symm, HQ.out.symm, HBW2.out, HCE2.out⟩
              case measure => exact meas_ hlt
            · have HQ := hid_ (show insB o gs (k + 1) = false by rw [HIS.out, HGD.out, ← HSS.out, decide_eq_false hsm]; rfl)
              have hne : ((s : Int) == (j : Int)) = false := by rw [beq_eq_false_iff_ne]; omega
              go_wp2
              go_roundw
              case rel => exact ⟨k + 1, S + j, false, by omega, by go_num, by go_num, rfl, HSn.out.symm, HQ.out.symm, HBW2.out, HCE2.out⟩
              case measure => exact meas_ hlt
    · have e : k = gs.length := by omega
      have hS : S = n0 := by rw [HS.out, e]; exact HAL.out
      have hb : b = B := by rw [HB.out, e]; exact HBI.out.symm
      have hkz : ¬ (k : Int) < ((gs.length : Nat) : Int) := by omega
      clear e
      subst hS
      subst hb
      replace BB := hid_ (BB.out.trans (HBW.out.mono BB.out.size))
      go_wp2
      go_returns
      exact ⟨rfl, BB.out⟩

set_option maxRecDepth 100000 in
theorem fnBarrierSafe_lifted (os : Os) (started : os.Started) (H : Type) (enc : TypeId × Value → H) :
    ReturnsInHanded {} Try.checked os 9 .any (Rows.fnBarrierSafeSpec.pre6 enc Try.prog Try.f9 Rows.fnBarrierSafeRow.domain false) (Rows.fnBarrierSafeSpec.post enc Try.prog Try.f9 false true false false) := by
  refine returnsInHanded_of_change (C := Try.checked) own_ started (by kernel_rfl) Try.func9
    (ChangeSpec.witness6 (enc := enc) (C := Try.checked) false ⟨#[], #[.slice none 0 0], []⟩ 8 (by kernel_rfl) (by kernel_rfl) (by kernel_rfl) (by kernel_rfl)) ?_
  intro W base args ds gs before hval0 hW hcnd _
  have hval : ∀ (j : Nat) t v, Try.f9.params[j]? = some t → args[j]? = some v → Value.okWide Try.prog W .any base t v := hval0
  have hW' := hW
  obtain ⟨p, q, hA0, hV, rfl, hfz, hnd⟩ := hW
  have hA : DataW.TrodAll enc Try.prog W 0 (fun _ => true) true Try.f9.params.toList args.toList ds p := hA0
  rw [Try.params9] at hA hval
  obtain ⟨v0, vs0, d0, ds0, p0, q0, hargs, rfl, rfl, h0, r0⟩ := trodAll_cons hA
  obtain ⟨rfl, rfl, rfl⟩ := trodAll_nil r0
  obtain rfl : args = #[v0] := by cases args; simp_all
  obtain ⟨rfl, rfl⟩ := trodVars_none hV
  obtain ⟨a0, len0, cap0, rfl⟩ := okWide_slice Try.underlying29 (hval 0 29 v0 rfl rfl)
  have k0 := h0
  have lt0 : ∀ x ∈ p0, x.block < W.heap.size := by obtain ⟨m, hm⟩ := k0; exact DataW.trod_lt m _ _ _ hm
  obtain ⟨z0, e0, lc0, cm0, w0, rd0⟩ := open_bytes h0
  clear hA0 hval0
  refine (lawSafe_walk z0 a0 len0 cap0 W e0 lc0 cm0 w0 rd0).mono fun e W' ⟨he, bel⟩ => ?_
  subst he
  exact ⟨_, rfl, _, _, _, [], _, [], hW', trodAll_mk1 (shut_bool Try.underlying4 _), (trodAll_cons_mk (Below.trod laidOut_ (by kernel_rfl) (of_decide_eq_true (by kernel_rfl)) k0 bel lt0) trodAll_mk0), rfl, bel.frame _, fun h => by cases h⟩

theorem fnBarrierSafe_holds : Rows.FnBarrierSafeSaid :=
  OpenClaim.holds_of_wide 9 Try.f9 rfl rfl rfl rfl rfl rfl rfl ⟨rfl, rfl, rfl, rfl, rfl⟩ rfl rfl rfl rfl rfl (by kernel_rfl) Try.func9 (by kernel_rfl)
    (of_decide_eq_true (by kernel_rfl)) (by unfold Func.isWrapper; first | (rw [if_pos (by decide +kernel)]; kernel_rfl) | (rw [if_neg (by decide +kernel)]; exact ⟨rfl, rfl⟩))
    (fun os started H enc _ => fnBarrierSafe_lifted os started H enc)

end Go.Proofs.Ytfmkjhkopocokaa
