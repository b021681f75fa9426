/-
  Requests: the walk of the law on dividing and merging.
-/
import Derived.Test.YtmcpkoogcglomaaRqL
import Derived.Test.YtmcpkoogcglomaaRqF
namespace Go.Proofs.Ytmcpkoogcglomaa
open Go.ChangeShapes Go.WideShapes Go.ChangeAt Go.RowKit Go.BigFrame Go.Deep

set_option maxHeartbeats 1600000 in
theorem lawSM_walk (z : List Int) (A : Option Addr) (n c : Nat) (w : World) (hl : z.length = n) (hc : n ≤ c) (hcm : c ≤ maxLen) (_ : True) (hB : Bys w w.heap.size A n) :
    Calls Try.prog 10 #[.slice A n c] w fun e w' => e = .returned (.bool true) ∧ Below w.heap.size w w' := by
  clear hl
  have HB := hid_ hB; clear hB
  have HC := hid_ hcm
  have hm : n ≤ 9223372036854775807 := by unfold maxLen at hcm; omega
  clear hcm
  by_cases hbig : (1048576 : Int) < (n : Int)
  · go_enter Try.func10, Try.ntmps10
    go_wp2
    go_returns
    exact ⟨rfl, Below.refl _ _⟩
  have hn20 : n ≤ 1048576 := by omega
  go_enter Try.func10, Try.ntmps10
  go_wp2_with fail
  refine (drawMR_any A n c _ hn20 hc HC.out HB.out).mono ?_
  clear HB HC
  rintro e w1 ⟨l, Al, cl, most, rfl, hl, hcl, hcml, hdr, hmo, hol, BB⟩
  replace BB := hid_ BB
  have HRl := hid_ (own_rd hol); clear hol
  have HCl := hid_ hcml; clear hcml
  have HSM := hid_ (fun h0 hm hl => splitMerge (l := l) (most := most) (fun x hx => (hdr x hx).2.1) h0 hm hl)
  have HN := hid_ (@totR_neg l)
  clear hdr
  obtain ⟨v, hv⟩ : ∃ v, totR l = v := ⟨_, rfl⟩
  have HV := hid_ hv; clear hv
  rw [HV.out] at HSM HN
  go_wp2_with fail
  refine (implTot_any l Al l.length cl _ rfl (by omega) hcl HCl.out HRl.out).mono ?_
  rw [HV.out]
  rintro e w2 ⟨rfl, hb2⟩
  have hs_hb2 := hb2.size
  replace BB := hid_ (BB.out.trans (hb2.mono BB.out.size))
  replace HRl := hid_ (HRl.out.below hb2)
  clear hb2
  go_wp2_with fail
  refine (specTot_any l Al l.length cl _ rfl (by omega) HRl.out).mono ?_
  rw [HV.out]
  rintro e w3 ⟨rfl, hb3⟩
  have hs_hb3 := hb3.size
  replace BB := hid_ (BB.out.trans (hb3.mono BB.out.size))
  replace HRl := hid_ (HRl.out.below hb3)
  clear hb3
  clear HV
  have hq : (v != v) = false := by simp
  go_wp2
  go_loopw [6, 7] (fun u i wr => ∃ k : Nat, k ≤ l.length ∧ i = .int .i64 k ∧ wr.ownsRow w3.heap.size 33 3 u (parts (l.take k)).length (rqC (parts (l.take k))) ∧ Below w3.heap.size w3 wr) (fun _ i _ => l.length - (intOf i).toNat)
  case atStart => exact ⟨0, Nat.zero_le _, rfl, own_empty w3 33 3, (Below.refl _ _).alloc (Nat.le_refl _) _⟩
  case round =>
    obtain ⟨k, hk, rfl, ho, hb⟩ := hrel
    have HO := hid_ ho; clear ho
    have hbs := hb.size
    have hpl := parts_length (l.take k)
    have hpl2 : (l.take k).length ≤ k := List.length_take_le _ _
    by_cases hlt : k < l.length
    · obtain ⟨b, o, rfl, h0, h1, h2⟩ := (HRl.out.below hb).rq k hlt rfl
      have hT := hid_ (parts_take l k hlt)
      have hsl := splR_length l[k] 50 40
      go_wp2_with fail
      refine (implSpl_any l[k] 50 40 _).mono ?_
      rintro e w4 ⟨A4, c4, rfl, hc4, hcm4, ho4, hb4⟩
      have HO4 := hid_ ho4; clear ho4
      have hs4 := hb4.size
      have HOk := hid_ (own_below HO.out hb4)
      have hbb := hb.trans (hb4.mono hb.size)
      clear hb4 hcm4
      go_wp2_with (at_builtin; refine wpList_append_rd _ rfl _ _ 25 rfl w3.heap.size 33 (.agg #[.int .i64 0, .int .i64 0, .bool false]) 3 24 Try.underlying25 rq_info rfl (by decide) (by decide) _ _ _ HOk.out rfl _ _ _ _ (own_rd HO4.out) rfl (rqC_one _) (by omega) (by omega) ?_; intro v' w' ho' hg')
      go_roundw
      case rel => exact ⟨k + 1, by omega, by go_num, own_eq ho' (by rw [hT.out]; simp) (by rw [hT.out, rqC_append]), below_push hbb HOk.out hg' (by omega)⟩
      case measure => exact meas_ hlt
    · have hk' : l.take k = l := List.take_of_length_le (by omega)
      rw [hk'] at HO hpl
      clear hk'
      obtain ⟨P, hP⟩ : ∃ P, parts l = P := ⟨_, rfl⟩
      rw [hP] at HO hpl HSM
      clear hP
      obtain ⟨Aq, cq, rfl, hcq, hcmq⟩ := own_shape HO.out
      have HCq := hid_ hcmq; clear hcmq
      have HRq := hid_ (own_rd HO.out); clear HO
      have hs_hb := hb.size
      replace BB := hid_ (BB.out.trans (hb.mono BB.out.size))
      clear hb
      by_cases hv0 : v < 0
      · have hd : decide (v < 0) = true := by simpa using hv0
        go_wp2_with fail
        go_wp2_with fail
        refine (alive_any _).mono ?_
        rintro e w5 ⟨rfl, hbal⟩
        replace BB := hid_ (BB.out.trans (hbal.mono BB.out.size))
        go_wp2
        go_returns
        exact ⟨rfl, BB.out⟩
      · have hd : decide (v < 0) = false := by simpa using hv0
        by_cases hm1 : most < 1
        · have hd1 : decide (most < 1) = true := by simpa using hm1
          go_wp2_with fail
          go_wp2_with fail
          refine (alive_any _).mono ?_
          rintro e w5 ⟨rfl, hbal⟩
          replace BB := hid_ (BB.out.trans (hbal.mono BB.out.size))
          go_wp2
          go_returns
          exact ⟨rfl, BB.out⟩
        · have hd1 : decide (most < 1) = false := by simpa using hm1
          by_cases hm2 : 200 < most
          · have hd2 : decide (200 < most) = true := by simpa using hm2
            go_wp2_with fail
            go_wp2_with fail
            refine (alive_any _).mono ?_
            rintro e w5 ⟨rfl, hbal⟩
            replace BB := hid_ (BB.out.trans (hbal.mono BB.out.size))
            go_wp2
            go_returns
            exact ⟨rfl, BB.out⟩
          · have hd2 : decide (200 < most) = false := by simpa using hm2
            by_cases hp : 30 < P.length
            · have hp' : (30 : Int) < (P.length : Int) := by omega
              go_wp2_with fail
              go_wp2_with fail
              refine (alive_any _).mono ?_
              rintro e w5 ⟨rfl, hbal⟩
              replace BB := hid_ (BB.out.trans (hbal.mono BB.out.size))
              go_wp2
              go_returns
              exact ⟨rfl, BB.out⟩
            · have hp' : ¬ ((30 : Int) < (P.length : Int)) := by omega
              have HE := hid_ (HSM.out (by omega) (by omega) (by omega))
              have hml := mrR_length P most
              clear HSM HN
              obtain ⟨Y, hY⟩ : ∃ Y, mrR P most = Y := ⟨_, rfl⟩
              rw [hY] at HE hml
              have HY := hid_ hY; clear hY
              go_wp2_with fail
              refine (implMrg_any P Aq P.length cq most _ rfl (by omega) hcq HCq.out HRq.out).mono ?_
              rw [HY.out]
              rintro e w5 ⟨Ay, cy, rfl, hcy, hcmy, hoy, hby⟩
              have HRy := hid_ (own_rd hoy); clear hoy
              have HCy := hid_ hcmy; clear hcmy
              have hs_hby := hby.size
              replace BB := hid_ (BB.out.trans (hby.mono BB.out.size))
              clear hby
              go_wp2_with fail
              refine (implTot_any Y Ay Y.length cy _ rfl (by omega) hcy HCy.out HRy.out).mono ?_
              rw [HE.out]
              rintro e w6 ⟨rfl, hb6⟩
              have hs_hb6 := hb6.size
              replace BB := hid_ (BB.out.trans (hb6.mono BB.out.size))
              clear hb6
              go_wp2
              go_returns
              exact ⟨ret_bool (by simp), BB.out⟩

set_option maxRecDepth 100000 in
theorem fnSplitMerge_lifted (os : Os) (started : os.Started) (H : Type) (enc : TypeId × Value → H) :
    ReturnsInHanded {} Try.checked os 10 .any (Rows.fnSplitMergeSpec.pre6 enc Try.prog Try.f10 Rows.fnSplitMergeRow.domain false) (Rows.fnSplitMergeSpec.post enc Try.prog Try.f10 false true false false) := by
  refine returnsInHanded_of_change (C := Try.checked) own_ started (by kernel_rfl) Try.func10
    (ChangeSpec.witness6 (enc := enc) (C := Try.checked) false ⟨#[], #[.slice none 0 0], []⟩ 8 (by kernel_rfl) (by kernel_rfl) (by kernel_rfl) (by kernel_rfl)) ?_
  intro W base args ds gs before hval0 hW hcnd _
  have hval : ∀ (j : Nat) t v, Try.f10.params[j]? = some t → args[j]? = some v → Value.okWide Try.prog W .any base t v := hval0
  have hW' := hW
  obtain ⟨p, q, hA0, hV, rfl, hfz, hnd⟩ := hW
  have hA : DataW.TrodAll enc Try.prog W 0 (fun _ => true) true Try.f10.params.toList args.toList ds p := hA0
  rw [Try.params10] at hA hval
  obtain ⟨v0, vs0, d0, ds0, p0, q0, hargs, rfl, rfl, h0, r0⟩ := trodAll_cons hA
  obtain ⟨rfl, rfl, rfl⟩ := trodAll_nil r0
  obtain rfl : args = #[v0] := by cases args; simp_all
  obtain ⟨rfl, rfl⟩ := trodVars_none hV
  obtain ⟨a0, len0, cap0, rfl⟩ := okWide_slice Try.underlying37 (hval 0 37 v0 rfl rfl)
  have k0 := h0
  have lt0 : ∀ x ∈ p0, x.block < W.heap.size := by obtain ⟨m, hm⟩ := k0; exact DataW.trod_lt m _ _ _ hm
  obtain ⟨z0, e0, lc0, cm0, w0, rd0⟩ := open_bytes h0
  clear hA0 hval0
  refine (lawSM_walk z0 a0 len0 cap0 W e0 lc0 cm0 w0 rd0).mono fun e W' ⟨he, bel⟩ => ?_
  subst he
  exact ⟨_, rfl, _, _, _, [], _, [], hW', trodAll_mk1 (shut_bool Try.underlying4 _), (trodAll_cons_mk (Below.trod laidOut_ (by kernel_rfl) (of_decide_eq_true (by kernel_rfl)) k0 bel lt0) trodAll_mk0), rfl, bel.frame _, fun h => by cases h⟩

theorem fnSplitMerge_holds : Rows.FnSplitMergeSaid :=
  OpenClaim.holds_of_wide 10 Try.f10 rfl rfl rfl rfl rfl rfl rfl ⟨rfl, rfl, rfl, rfl, rfl⟩ rfl rfl rfl rfl rfl (by kernel_rfl) Try.func10 (by kernel_rfl)
    (of_decide_eq_true (by kernel_rfl)) (by unfold Func.isWrapper; first | (rw [if_pos (by decide +kernel)]; kernel_rfl) | (rw [if_neg (by decide +kernel)]; exact ⟨rfl, rfl⟩))
    (fun os started H enc _ => fnSplitMerge_lifted os started H enc)

end Go.Proofs.Ytmcpkoogcglomaa
