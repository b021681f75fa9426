/-
  Requests: the walk of the law on sums of sectors.
-/
import Derived.Test.YtmcpkoogcglomaaRqL
namespace Go.Proofs.Ytmcpkoogcglomaa
open Go.ChangeShapes Go.WideShapes Go.ChangeAt Go.RowKit Go.BigFrame Go.Deep

set_option maxHeartbeats 1600000 in
theorem lawTot_walk (z : List Int) (A : Option Addr) (n c : Nat) (w : World) (hl : z.length = n) (hc : n ≤ c) (hcm : c ≤ maxLen) (_ : True) (hB : Bys w w.heap.size A n) :
    Calls Try.prog 7 #[.slice A n c] w fun e w' => e = .returned (.bool true) ∧ Below w.heap.size w w' := by
  clear hl
  have HB := hid_ hB; clear hB
  have HC := hid_ hcm
  have hm : n ≤ 9223372036854775807 := by unfold maxLen at hcm; omega
  clear hcm
  by_cases hbig : (1048576 : Int) < (n : Int)
  · go_enter Try.func7, Try.ntmps7
    go_wp2
    go_returns
    exact ⟨rfl, Below.refl _ _⟩
  have hn20 : n ≤ 1048576 := by omega
  go_enter Try.func7, Try.ntmps7
  go_wp2_with fail
  refine (drawTot_any A n c _ hn20 hc HC.out HB.out).mono ?_
  clear HB HC
  rintro e w1 ⟨l, Al, cl, rfl, hl, hcl, hcml, hdr, hol, BB⟩
  replace BB := hid_ BB
  have HRl := hid_ (own_rd hol); clear hol hdr
  have HCl := hid_ hcml; clear hcml
  have HP := hid_ (fun h => @totR_parts l h (l.length / 2))
  have HN := hid_ (@totR_neg l)
  obtain ⟨v, hv⟩ : ∃ v, totR l = v := ⟨_, rfl⟩
  rw [hv] at HP HN
  have HV := hid_ hv; clear hv
  go_wp2_with fail
  refine (implTot_any l Al l.length cl _ rfl (by omega) hcl HCl.out HRl.out).mono ?_
  rw [HV.out]
  rintro e w2 ⟨rfl, hb2⟩
  have hs_hb2 := hb2.size
  replace BB := hid_ (BB.out.trans (hb2.mono BB.out.size))
  replace HRl := hid_ (HRl.out.below hb2)
  clear hb2
  go_wp2_with fail
  refine (specTot_any l Al l.length cl _ rfl (by omega) HRl.out).mono ?_
  rw [HV.out]
  rintro e w3 ⟨rfl, hb3⟩
  have hs_hb3 := hb3.size
  replace BB := hid_ (BB.out.trans (hb3.mono BB.out.size))
  replace HRl := hid_ (HRl.out.below hb3)
  clear hb3
  clear HV
  by_cases h0 : v < 0
  · obtain rfl := HN.out h0
    go_wp2_with fail
    go_wp2_with fail
    refine (alive_any _).mono ?_
    rintro e w4 ⟨rfl, hbal⟩
    replace BB := hid_ (BB.out.trans (hbal.mono BB.out.size))
    go_wp2
    go_returns
    exact ⟨rfl, BB.out⟩
  · obtain ⟨f1, f2, f3, f4, f5, f6⟩ := HP.out (by omega)
    clear HP HN
    obtain ⟨a, ha⟩ : ∃ a, totR (l.take (l.length / 2)) = a := ⟨_, rfl⟩
    obtain ⟨b, hb⟩ : ∃ b, totR (l.drop (l.length / 2)) = b := ⟨_, rfl⟩
    rw [ha] at f1 f3 f4
    rw [hb] at f1 f5 f6
    have HA := hid_ ha; clear ha
    have HB := hid_ hb; clear hb
    have d1 : (v == a + b) = true := by rw [f1]; simp
    have d2 : decide ((l.length : Int) ≤ v) = true := by simpa using f2
    have wr1 : IntKind.i64.wrap (a + b) = a + b := IntWalk.i64_in _ (by omega)
    have i1 : (l.length : Int) / 2 ≤ (l.length : Int) := by omega
    have i2 : (0 : Int) ≤ (l.length : Int) / 2 := by omega
    have i3 : (l.length : Int) / 2 ≤ (cl : Int) := by omega
    have i4 : ((l.length : Int) / 2).toNat = l.length / 2 := by omega
    clear f1
    have T1 := hid_ (fun m : Later w3 => implTot_any (l.take (l.length / 2)) Al (l.length / 2) cl m.w (by rw [List.length_take]; omega) (by omega) (by omega) HCl.out (by have := (HRl.out.below m.property).take (show l.length / 2 ≤ l.length by omega); rwa [rqC_take] at this))
    rw [HA.out] at T1
    by_cases hcc : cl = l.length / 2
    · obtain rfl : l = [] := List.eq_nil_of_length_eq_zero (by omega)
      obtain rfl : cl = 0 := by simpa using hcc
      clear hcc i1 i2 i3 i4 T1
      have ha : totR [] = a := by simpa using HA.out
      have hb : totR [] = b := by simpa using HB.out
      have E1 := hid_ (fun m : Later w3 => implTot_any ([] : List Rq) Al 0 0 m.w rfl (by omega) (by omega) (by unfold maxLen; omega) (Rd.nil _ _ _))
      rw [ha] at hb E1
      subst hb
      clear HA HB ha HRl HCl
      go_wp2_with fail
      (refine wp_region_later (by kernel_rfl) (by kernel_rfl) ?_
       repeat (go_big_quiet_step ((go_at_call 18; (with_reducible exact later_below (E1.out _)))))
       refine wpQuiet_nil ?_
       rintro _ ⟨nq, rfl⟩
       have hbq := nq.property)
      go_wp2
      go_returns
      exact ⟨rfl, BB.out.trans (hbq.mono BB.out.size)⟩
    · have T2 := hid_ (fun m : Later w3 => implTot_any (l.drop (l.length / 2)) _ (l.length - l.length / 2) (cl - l.length / 2) m.w (by rw [List.length_drop]) (by omega) (by omega) (Nat.le_trans (Nat.sub_le _ _) HCl.out) (by have := (HRl.out.below m.property).drop (show l.length / 2 ≤ l.length by omega) hcl; rw [if_neg hcc] at this; rwa [rqC_drop] at this))
      rw [HB.out] at T2
      go_wp2_with fail
      (refine wp_region_later (by kernel_rfl) (by kernel_rfl) ?_
       repeat (go_big_quiet_step ((go_at_call 18; first | (with_reducible exact later_below (T1.out _)) | (with_reducible exact later_below (T2.out _)))))
       refine wpQuiet_nil ?_
       rintro _ ⟨nq, rfl⟩
       have hbq := nq.property)
      go_wp2
      go_returns
      exact ⟨rfl, BB.out.trans (hbq.mono BB.out.size)⟩

set_option maxRecDepth 100000 in
theorem fnTotalSectors_lifted (os : Os) (started : os.Started) (H : Type) (enc : TypeId × Value → H) :
    ReturnsInHanded {} Try.checked os 7 .any (Rows.fnTotalSectorsSpec.pre6 enc Try.prog Try.f7 Rows.fnTotalSectorsRow.domain false) (Rows.fnTotalSectorsSpec.post enc Try.prog Try.f7 false true false false) := by
  refine returnsInHanded_of_change (C := Try.checked) own_ started (by kernel_rfl) Try.func7
    (ChangeSpec.witness6 (enc := enc) (C := Try.checked) false ⟨#[], #[.slice none 0 0], []⟩ 8 (by kernel_rfl) (by kernel_rfl) (by kernel_rfl) (by kernel_rfl)) ?_
  intro W base args ds gs before hval0 hW hcnd _
  have hval : ∀ (j : Nat) t v, Try.f7.params[j]? = some t → args[j]? = some v → Value.okWide Try.prog W .any base t v := hval0
  have hW' := hW
  obtain ⟨p, q, hA0, hV, rfl, hfz, hnd⟩ := hW
  have hA : DataW.TrodAll enc Try.prog W 0 (fun _ => true) true Try.f7.params.toList args.toList ds p := hA0
  rw [Try.params7] at hA hval
  obtain ⟨v0, vs0, d0, ds0, p0, q0, hargs, rfl, rfl, h0, r0⟩ := trodAll_cons hA
  obtain ⟨rfl, rfl, rfl⟩ := trodAll_nil r0
  obtain rfl : args = #[v0] := by cases args; simp_all
  obtain ⟨rfl, rfl⟩ := trodVars_none hV
  obtain ⟨a0, len0, cap0, rfl⟩ := okWide_slice Try.underlying37 (hval 0 37 v0 rfl rfl)
  have k0 := h0
  have lt0 : ∀ x ∈ p0, x.block < W.heap.size := by obtain ⟨m, hm⟩ := k0; exact DataW.trod_lt m _ _ _ hm
  obtain ⟨z0, e0, lc0, cm0, w0, rd0⟩ := open_bytes h0
  clear hA0 hval0
  refine (lawTot_walk z0 a0 len0 cap0 W e0 lc0 cm0 w0 rd0).mono fun e W' ⟨he, bel⟩ => ?_
  subst he
  exact ⟨_, rfl, _, _, _, [], _, [], hW', trodAll_mk1 (shut_bool Try.underlying4 _), (trodAll_cons_mk (Below.trod laidOut_ (by kernel_rfl) (of_decide_eq_true (by kernel_rfl)) k0 bel lt0) trodAll_mk0), rfl, bel.frame _, fun h => by cases h⟩

theorem fnTotalSectors_holds : Rows.FnTotalSectorsSaid :=
  OpenClaim.holds_of_wide 7 Try.f7 rfl rfl rfl rfl rfl rfl rfl ⟨rfl, rfl, rfl, rfl, rfl⟩ rfl rfl rfl rfl rfl (by kernel_rfl) Try.func7 (by kernel_rfl)
    (of_decide_eq_true (by kernel_rfl)) (by unfold Func.isWrapper; first | (rw [if_pos (by decide +kernel)]; kernel_rfl) | (rw [if_neg (by decide +kernel)]; exact ⟨rfl, rfl⟩))
    (fun os started H enc _ => fnTotalSectors_lifted os started H enc)

end Go.Proofs.Ytmcpkoogcglomaa
