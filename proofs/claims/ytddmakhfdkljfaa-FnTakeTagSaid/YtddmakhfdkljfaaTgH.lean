/-
  Tags: tags are given once.
-/
import Derived.Test.YtddmakhfdkljfaaTgF
namespace Go.Proofs.Ytddmakhfdkljfaa
open Go.ChangeShapes Go.WideShapes Go.ChangeAt Go.RowKit Go.BigFrame Go.Deep

set_option maxHeartbeats 1600000 in
theorem lawTT_walk (z : List Int) (A : Option Addr) (n c : Nat) (w : World) (hl : z.length = n) (hc : n ≤ c) (hcm : c ≤ maxLen) (_ : True) (hB : Bys w w.heap.size A n) :
    Calls Try.prog 5 #[.slice A n c] w fun e w' => e = .returned (.bool true) ∧ Below w.heap.size w w' := by
  clear hl
  have HB := hid_ hB; clear hB
  have HC := hid_ hcm
  have hm : n ≤ 9223372036854775807 := by unfold maxLen at hcm; omega
  clear hcm
  by_cases hbig : (1048576 : Int) < (n : Int)
  · go_enter Try.func5, Try.ntmps5
    go_wp2
    go_returns
    exact ⟨rfl, Below.refl _ _⟩
  have hn20 : n ≤ 1048576 := by omega
  go_enter Try.func5, Try.ntmps5
  go_wp2_with fail
  refine (drawTake_any A n c _ hn20 hc HC.out HB.out).mono ?_
  clear HB HC
  rintro e w1 ⟨l, Al, cl, rfl, hl, hcl, hcml, HRl, BB⟩
  replace BB := hid_ BB
  replace HRl := hid_ HRl
  clear hcml
  have hXl := tak_length l hl
  obtain ⟨X, hX⟩ : ∃ X, takL l = X := ⟨_, rfl⟩
  obtain ⟨T, hT⟩ : ∃ T, takT l = T := ⟨_, rfl⟩
  obtain ⟨b, hb⟩ : ∃ b, takB l = b := ⟨_, rfl⟩
  rw [hX] at hXl
  have HY := hid_ (fun h => tak_yes (l := l) (X := X) (T := T) h hX hT)
  have HZ := hid_ (fun h => tak_no (l := l) (X := X) (T := T) h hT)
  rw [hb] at HY HZ
  have HX := hid_ hX; have HT := hid_ hT; have HB := hid_ hb
  clear hX hT hb
  replace HRl := hid_ (HRl.out.alloc (.cells #[.slice Al l.length cl] 25))
  have c3 : (w1.alloc (.cells #[.slice Al l.length cl] 25)).cell? ⟨w1.heap.size, 0, none⟩ = some (.slice Al l.length cl) := by simp [go_sem]
  replace BB := hid_ (BB.out.alloc BB.out.size (.cells #[.slice Al l.length cl] 25))
  go_wp2_with fail
  refine (implTake_any l Al l.length cl _ rfl (by omega) HRl.out).mono ?_
  rw [HX.out, HT.out, HB.out]
  rintro e w2 ⟨Ax, cx, rfl, hcx, hcmx, hox, hbx⟩
  have HRx := hid_ (own_rd hox); clear hox hcmx
  have hs_hbx := hbx.size
  replace BB := hid_ (BB.out.trans (hbx.mono BB.out.size))
  replace HRl := hid_ (HRl.out.below hbx)
  replace c3 := (hbx.cell (cell_lt c3)).trans c3
  clear hbx
  replace HRl := hid_ (HRl.out.alloc (.cells #[.slice Ax X.length cx] 25))
  replace HRx := hid_ (HRx.out.alloc (.cells #[.slice Ax X.length cx] 25))
  replace c3 := (show (w2.alloc (.cells #[.slice Ax X.length cx] 25)).cell? _ = _ from (World.cell?_alloc_past _ _ _ (cell_lt c3)).trans c3)
  have c4 : (w2.alloc (.cells #[.slice Ax X.length cx] 25)).cell? ⟨w2.heap.size, 0, none⟩ = some (.slice Ax X.length cx) := by simp [go_sem]
  replace BB := hid_ (BB.out.alloc BB.out.size (.cells #[.slice Ax X.length cx] 25))
  go_wp2_with fail
  refine (specTake_any l Al l.length cl _ rfl (by omega) HRl.out).mono ?_
  rw [HX.out, HT.out, HB.out]
  rintro e w3 ⟨Ap, cp, rfl, hcp, hcmp, hop, hbp⟩
  have HRp := hid_ (own_rd hop); clear hop hcmp
  have hs_hbp := hbp.size
  replace BB := hid_ (BB.out.trans (hbp.mono BB.out.size))
  replace HRl := hid_ (HRl.out.below hbp)
  replace HRx := hid_ (HRx.out.below hbp)
  replace c3 := (hbp.cell (cell_lt c3)).trans c3
  replace c4 := (hbp.cell (cell_lt c4)).trans c4
  clear hbp
  replace HRl := hid_ (HRl.out.alloc (.cells #[.slice Ap X.length cp] 25))
  replace HRx := hid_ (HRx.out.alloc (.cells #[.slice Ap X.length cp] 25))
  replace HRp := hid_ (HRp.out.alloc (.cells #[.slice Ap X.length cp] 25))
  replace c3 := (show (w3.alloc (.cells #[.slice Ap X.length cp] 25)).cell? _ = _ from (World.cell?_alloc_past _ _ _ (cell_lt c3)).trans c3)
  replace c4 := (show (w3.alloc (.cells #[.slice Ap X.length cp] 25)).cell? _ = _ from (World.cell?_alloc_past _ _ _ (cell_lt c4)).trans c4)
  have c7 : (w3.alloc (.cells #[.slice Ap X.length cp] 25)).cell? ⟨w3.heap.size, 0, none⟩ = some (.slice Ap X.length cp) := by simp [go_sem]
  replace BB := hid_ (BB.out.alloc BB.out.size (.cells #[.slice Ap X.length cp] 25))
  go_wp2_with fail
  refine (sameTags_self X Ax Ap X.length X.length cx cp _ rfl rfl (by omega) HRx.out HRp.out).mono ?_
  rintro e w4 ⟨rfl, hb4⟩
  have hs_hb4 := hb4.size
  replace BB := hid_ (BB.out.trans (hb4.mono BB.out.size))
  replace HRl := hid_ (HRl.out.below hb4)
  replace HRx := hid_ (HRx.out.below hb4)
  replace c3 := (hb4.cell (cell_lt c3)).trans c3
  replace c4 := (hb4.cell (cell_lt c4)).trans c4
  clear hb4
  clear HRp c7
  have hTT : (T != T) = false := by simp
  cases b
  · obtain ⟨rfl, hh⟩ := HZ.out rfl
    clear hTT
    have ALV := hid_ (fun m : Later w4 => alive_any m.w)
    have z3 := fun m : Later w4 => m.cell c3
    by_cases h16 : 16 < l.length
    · have h16' : (16 : Int) < (l.length : Int) := by omega
      have h16d : decide ((16 : Int) < (l.length : Int)) = true := by simpa using h16'
      clear c3 c4 hh
      go_wp2_with fail
      (refine wp_region_later (by kernel_rfl) (by kernel_rfl) ?_
       repeat (go_big_quiet_step ((first | (go_at_call 11; fail) | (go_at_call 10; (with_reducible exact later_below (ALV.out _))))))
       refine wpQuiet_nil ?_
       rintro _ ⟨nq, rfl⟩
       have hbq := nq.property)
      go_wp2
      go_returns
      exact ⟨rfl, BB.out.trans (hbq.mono BB.out.size)⟩
    · have hU := hh.resolve_left h16
      have h16' : ¬ ((16 : Int) < (l.length : Int)) := by omega
      have h16d : decide ((16 : Int) < (l.length : Int)) = false := by simpa using h16'
      have T2 := hid_ (fun m : Later w4 => used_any l Al l.length cl m.w rfl (by omega) (HRl.out.below m.property))
      rw [hU] at T2
      clear c3 c4 hh hU
      go_wp2_with fail
      (refine wp_region_later (by kernel_rfl) (by kernel_rfl) ?_
       repeat (go_big_quiet_step ((first | (go_at_call 11; (with_reducible exact later_below (T2.out _))) | (go_at_call 10; (with_reducible exact later_below (ALV.out _))))))
       refine wpQuiet_nil ?_
       rintro _ ⟨nq, rfl⟩
       have hbq := nq.property)
      go_wp2
      go_returns
      exact ⟨rfl, BB.out.trans (hbq.mono BB.out.size)⟩
  · obtain ⟨k, hk, hx, rfl, h16, hxl, -, q1, q2, hall, e1, e2, e3⟩ := HY.out rfl
    have E1 := hid_ e1; have E2 := hid_ e2; have E3 := hid_ e3; clear e1 e2 e3 HY HZ hTT; have HXL := hid_ hxl; clear hxl
    have Q1 := hid_ q1; have Q2 := hid_ q2; have HALL := hid_ hall; clear q1 q2 hall
    go_wp2
    go_loop [10] (fun v => ∃ j : Nat, j ≤ k ∧ v = .int .i64 j) (fun v => k - (intOf v).toNat)
    case atStart => exact ⟨0, Nat.zero_le _, rfl⟩
    case round =>
      obtain ⟨j, hj, rfl⟩ := hrel
      by_cases hlt : j < k
      · have hjl : j < l.length := by omega
        obtain ⟨bl, ol, eAl, hc0⟩ := HRl.out.bo j hjl rfl
        rw [HALL.out j hjl hlt] at hc0
        subst eAl
        have hjz : (j : Int) < (k : Int) := by omega
        have hjl2 : (j : Int) < (l.length : Int) := by omega
        have hj0 : (0 : Int) ≤ (j : Int) := by omega
        go_wp2
        go_round
        case rel => exact ⟨j + 1, by omega, by go_num⟩
        case measure => exact meas_ hlt
      · have hjk : ¬ ((j : Int) < (k : Int)) := by omega
        go_wp2_with fail
        refine (implRet_any X Ax X.length cx k _ rfl (by omega) HRx.out).mono ?_
        rw [E1.out, E2.out]
        rintro e w5 ⟨Ay, cy, rfl, hcy, hcmy, hoy, hby⟩
        have HRy := hid_ (own_rd hoy); clear hoy hcmy
        have hs_hby := hby.size
        replace BB := hid_ (BB.out.trans (hby.mono BB.out.size))
        replace HRl := hid_ (HRl.out.below hby)
        replace HRx := hid_ (HRx.out.below hby)
        replace c3 := (hby.cell (cell_lt c3)).trans c3
        replace c4 := (hby.cell (cell_lt c4)).trans c4
        clear hby
        replace HRl := hid_ (HRl.out.alloc (.cells #[.slice Ay l.length cy] 25))
        replace HRx := hid_ (HRx.out.alloc (.cells #[.slice Ay l.length cy] 25))
        replace HRy := hid_ (HRy.out.alloc (.cells #[.slice Ay l.length cy] 25))
        replace c3 := (show (w5.alloc (.cells #[.slice Ay l.length cy] 25)).cell? _ = _ from (World.cell?_alloc_past _ _ _ (cell_lt c3)).trans c3)
        replace c4 := (show (w5.alloc (.cells #[.slice Ay l.length cy] 25)).cell? _ = _ from (World.cell?_alloc_past _ _ _ (cell_lt c4)).trans c4)
        have c11 : (w5.alloc (.cells #[.slice Ay l.length cy] 25)).cell? ⟨w5.heap.size, 0, none⟩ = some (.slice Ay l.length cy) := by simp [go_sem]
        replace BB := hid_ (BB.out.alloc BB.out.size (.cells #[.slice Ay l.length cy] 25))
        obtain ⟨W, hW⟩ : ∃ W, w5.alloc (.cells #[.slice Ay l.length cy] 25) = W := ⟨_, rfl⟩
        rw [hW] at HRl HRx HRy c3 c4 c11 BB
        obtain ⟨bl, ol, eAl, hcl0⟩ := HRl.out.bo k hk rfl
        obtain ⟨bx, ox, eAx, hcx0⟩ := HRx.out.bo k hx rfl
        rw [Q1.out] at hcl0
        rw [Q2.out] at hcx0
        have T1 := hid_ (fun m : Later W => used_any X Ax X.length cx m.w rfl (by omega) (HRx.out.below m.property))
        have T2 := hid_ (fun m : Later W => used_any l Al l.length cl m.w rfl (by omega) (HRl.out.below m.property))
        have T3 := hid_ (fun m : Later W => sameTags_self l Ay Al l.length l.length cy cl m.w rfl rfl (by omega) (HRy.out.below m.property) (HRl.out.below m.property))
        rw [E3.out] at T1
        have hub := useN_bd l
        obtain ⟨U, hU⟩ : ∃ U, useN l = U := ⟨_, rfl⟩
        rw [hU] at T1 T2 hub
        clear hU E3
        have wr1 : IntKind.i64.wrap (U + 1) = U + 1 := by rw [IntKind.wrap_i64]; omega
        subst eAl
        subst eAx
        have z0 := fun m : Later W => m.cell hcl0
        have z1 := fun m : Later W => m.cell hcx0
        have z2 := fun m : Later W => m.cell c3
        have z3 := fun m : Later W => m.cell c4
        have z4 := fun m : Later W => m.cell c11
        have hkl : (k : Int) < (l.length : Int) := by omega
        have hkx : (k : Int) < (X.length : Int) := by omega
        have hk0 : (0 : Int) ≤ (k : Int) := by omega
        clear hcl0 hcx0 c3 c4 c11
        go_wp2_with fail
        try rw [hW]
        clear hW
        (refine wp_region_later (by kernel_rfl) (by kernel_rfl) ?_
         repeat (go_big_quiet_step ((first | (go_at_call 11; first | (with_reducible exact later_below (T1.out _)) | (with_reducible exact later_below (T2.out _))) | (go_at_call 9; (with_reducible exact later_below (T3.out _))))))
         refine wpQuiet_nil ?_
         rintro _ ⟨nq, rfl⟩
         have hbq := nq.property)
        go_wp2
        go_returns
        exact ⟨rfl, BB.out.trans (hbq.mono BB.out.size)⟩

set_option maxRecDepth 100000 in
theorem fnTakeTag_lifted (os : Os) (started : os.Started) (H : Type) (enc : TypeId × Value → H) :
    ReturnsInHanded {} Try.checked os 5 .any (Rows.fnTakeTagSpec.pre6 enc Try.prog Try.f5 Rows.fnTakeTagRow.domain false) (Rows.fnTakeTagSpec.post enc Try.prog Try.f5 false true false false) := by
  refine returnsInHanded_of_change (C := Try.checked) own_ started (by kernel_rfl) Try.func5
    (ChangeSpec.witness6 (enc := enc) (C := Try.checked) false ⟨#[], #[.slice none 0 0], []⟩ 8 (by kernel_rfl) (by kernel_rfl) (by kernel_rfl) (by kernel_rfl)) ?_
  intro W base args ds gs before hval0 hW hcnd _
  have hval : ∀ (j : Nat) t v, Try.f5.params[j]? = some t → args[j]? = some v → Value.okWide Try.prog W .any base t v := hval0
  have hW' := hW
  obtain ⟨p, q, hA0, hV, rfl, hfz, hnd⟩ := hW
  have hA : DataW.TrodAll enc Try.prog W 0 (fun _ => true) true Try.f5.params.toList args.toList ds p := hA0
  rw [Try.params5] at hA hval
  obtain ⟨v0, vs0, d0, ds0, p0, q0, hargs, rfl, rfl, h0, r0⟩ := trodAll_cons hA
  obtain ⟨rfl, rfl, rfl⟩ := trodAll_nil r0
  obtain rfl : args = #[v0] := by cases args; simp_all
  obtain ⟨rfl, rfl⟩ := trodVars_none hV
  obtain ⟨a0, len0, cap0, rfl⟩ := okWide_slice Try.underlying22 (hval 0 22 v0 rfl rfl)
  have k0 := h0
  have lt0 : ∀ x ∈ p0, x.block < W.heap.size := by obtain ⟨m, hm⟩ := k0; exact DataW.trod_lt m _ _ _ hm
  obtain ⟨z0, e0, lc0, cm0, w0, rd0⟩ := open_bytes h0
  clear hA0 hval0
  refine (lawTT_walk z0 a0 len0 cap0 W e0 lc0 cm0 w0 rd0).mono fun e W' ⟨he, bel⟩ => ?_
  subst he
  exact ⟨_, rfl, _, _, _, [], _, [], hW', trodAll_mk1 (shut_bool Try.underlying4 _), (trodAll_cons_mk (Below.trod laidOut_ (by kernel_rfl) (of_decide_eq_true (by kernel_rfl)) k0 bel lt0) trodAll_mk0), rfl, bel.frame _, fun h => by cases h⟩

theorem fnTakeTag_holds : Rows.FnTakeTagSaid :=
  OpenClaim.holds_of_wide 5 Try.f5 rfl rfl rfl rfl rfl rfl rfl ⟨rfl, rfl, rfl, rfl, rfl⟩ rfl rfl rfl rfl rfl (by kernel_rfl) Try.func5 (by kernel_rfl)
    (of_decide_eq_true (by kernel_rfl)) (by unfold Func.isWrapper; first | (rw [if_pos (by decide +kernel)]; kernel_rfl) | (rw [if_neg (by decide +kernel)]; exact ⟨rfl, rfl⟩))
    (fun os started H enc _ => fnTakeTag_lifted os started H enc)

end Go.Proofs.Ytddmakhfdkljfaa
