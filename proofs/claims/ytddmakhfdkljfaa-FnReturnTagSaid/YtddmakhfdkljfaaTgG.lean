/-
  Tags: only used tags are returned.
-/
import Derived.Test.YtddmakhfdkljfaaTgF
namespace Go.Proofs.Ytddmakhfdkljfaa
open Go.ChangeShapes Go.WideShapes Go.ChangeAt Go.RowKit Go.BigFrame Go.Deep

set_option maxHeartbeats 1600000 in
theorem lawRT_walk (z : List Int) (A : Option Addr) (n c : Nat) (w : World) (hl : z.length = n) (hc : n ≤ c) (hcm : c ≤ maxLen) (_ : True) (hB : Bys w w.heap.size A n) :
    Calls Try.prog 3 #[.slice A n c] w fun e w' => e = .returned (.bool true) ∧ Below w.heap.size w w' := by
  clear hl
  have HB := hid_ hB; clear hB
  have HC := hid_ hcm
  have hm : n ≤ 9223372036854775807 := by unfold maxLen at hcm; omega
  clear hcm
  by_cases hbig : (1048576 : Int) < (n : Int)
  · go_enter Try.func3, Try.ntmps3
    go_wp2
    go_returns
    exact ⟨rfl, Below.refl _ _⟩
  have hn20 : n ≤ 1048576 := by omega
  go_enter Try.func3, Try.ntmps3
  go_wp2_with fail
  refine (drawRet_any A n c _ hn20 hc HC.out HB.out).mono ?_
  clear HB HC
  rintro e w1 ⟨l, Al, cl, t, rfl, hl, hcl, hcml, ht, HRl, BB⟩
  replace BB := hid_ BB
  replace HRl := hid_ HRl
  clear hcml
  have hXl := ret_length l t hl
  obtain ⟨X, hX⟩ : ∃ X, retL l t = X := ⟨_, rfl⟩
  obtain ⟨b, hb⟩ : ∃ b, retB l t = b := ⟨_, rfl⟩
  rw [hX] at hXl
  have HY := hid_ (fun h => ret_yes (l := l) (X := X) (t := t) h hX)
  have HZ := hid_ (fun h => ret_no (l := l) (X := X) (t := t) h hX)
  rw [hb] at HY HZ
  have HX := hid_ hX; have HB := hid_ hb
  clear hX hb
  replace HRl := hid_ (HRl.out.alloc (.cells #[.slice Al l.length cl] 25))
  have c3 : (w1.alloc (.cells #[.slice Al l.length cl] 25)).cell? ⟨w1.heap.size, 0, none⟩ = some (.slice Al l.length cl) := by simp [go_sem]
  replace BB := hid_ (BB.out.alloc BB.out.size (.cells #[.slice Al l.length cl] 25))
  go_wp2_with fail
  refine (implRet_any l Al l.length cl t _ rfl (by omega) HRl.out).mono ?_
  rw [HX.out, HB.out]
  rintro e w2 ⟨Ax, cx, rfl, hcx, hcmx, hox, hbx⟩
  have HRx := hid_ (own_rd hox); clear hox hcmx
  have hs_hbx := hbx.size
  replace BB := hid_ (BB.out.trans (hbx.mono BB.out.size))
  replace HRl := hid_ (HRl.out.below hbx)
  replace c3 := (hbx.cell (cell_lt c3)).trans c3
  clear hbx
  replace HRl := hid_ (HRl.out.alloc (.cells #[.slice Ax X.length cx] 25))
  replace HRx := hid_ (HRx.out.alloc (.cells #[.slice Ax X.length cx] 25))
  replace c3 := (show (w2.alloc (.cells #[.slice Ax X.length cx] 25)).cell? _ = _ from (World.cell?_alloc_past _ _ _ (cell_lt c3)).trans c3)
  have c5 : (w2.alloc (.cells #[.slice Ax X.length cx] 25)).cell? ⟨w2.heap.size, 0, none⟩ = some (.slice Ax X.length cx) := by simp [go_sem]
  replace BB := hid_ (BB.out.alloc BB.out.size (.cells #[.slice Ax X.length cx] 25))
  go_wp2_with fail
  refine (specRet_any l Al l.length cl t _ rfl (by omega) HRl.out).mono ?_
  rw [HX.out, HB.out]
  rintro e w3 ⟨Ap, cp, rfl, hcp, hcmp, hop, hbp⟩
  have HRp := hid_ (own_rd hop); clear hop hcmp
  have hs_hbp := hbp.size
  replace BB := hid_ (BB.out.trans (hbp.mono BB.out.size))
  replace HRl := hid_ (HRl.out.below hbp)
  replace HRx := hid_ (HRx.out.below hbp)
  replace c3 := (hbp.cell (cell_lt c3)).trans c3
  replace c5 := (hbp.cell (cell_lt c5)).trans c5
  clear hbp
  replace HRl := hid_ (HRl.out.alloc (.cells #[.slice Ap X.length cp] 25))
  replace HRx := hid_ (HRx.out.alloc (.cells #[.slice Ap X.length cp] 25))
  replace HRp := hid_ (HRp.out.alloc (.cells #[.slice Ap X.length cp] 25))
  replace c3 := (show (w3.alloc (.cells #[.slice Ap X.length cp] 25)).cell? _ = _ from (World.cell?_alloc_past _ _ _ (cell_lt c3)).trans c3)
  replace c5 := (show (w3.alloc (.cells #[.slice Ap X.length cp] 25)).cell? _ = _ from (World.cell?_alloc_past _ _ _ (cell_lt c5)).trans c5)
  have c7 : (w3.alloc (.cells #[.slice Ap X.length cp] 25)).cell? ⟨w3.heap.size, 0, none⟩ = some (.slice Ap X.length cp) := by simp [go_sem]
  replace BB := hid_ (BB.out.alloc BB.out.size (.cells #[.slice Ap X.length cp] 25))
  go_wp2_with fail
  refine (sameTags_self X Ax Ap X.length X.length cx cp _ rfl rfl (by omega) HRx.out HRp.out).mono ?_
  rintro e w4 ⟨rfl, hb4⟩
  have hs_hb4 := hb4.size
  replace BB := hid_ (BB.out.trans (hb4.mono BB.out.size))
  replace HRl := hid_ (HRl.out.below hb4)
  replace HRx := hid_ (HRx.out.below hb4)
  replace c3 := (hb4.cell (cell_lt c3)).trans c3
  replace c5 := (hb4.cell (cell_lt c5)).trans c5
  clear hb4
  clear HRp c7
  cases b
  · rcases HZ.out rfl with h16 | hxl
    · have h16' : (16 : Int) < (l.length : Int) := by omega
      have h16d : decide ((16 : Int) < (l.length : Int)) = true := by simpa using h16'
      go_wp2_with fail
      refine (alive_any _).mono ?_
      rintro e w5 ⟨rfl, hbal⟩
      replace BB := hid_ (BB.out.trans (hbal.mono BB.out.size))
      go_wp2
      go_returns
      exact ⟨rfl, BB.out⟩
    · subst hxl
      by_cases h16 : 16 < X.length
      · have h16' : (16 : Int) < (X.length : Int) := by omega
        have h16d : decide ((16 : Int) < (X.length : Int)) = true := by simpa using h16'
        go_wp2_with fail
        refine (alive_any _).mono ?_
        rintro e w5 ⟨rfl, hbal⟩
        replace BB := hid_ (BB.out.trans (hbal.mono BB.out.size))
        go_wp2
        go_returns
        exact ⟨rfl, BB.out⟩
      · have h16' : ¬ ((16 : Int) < (X.length : Int)) := by omega
        have h16d : decide ((16 : Int) < (X.length : Int)) = false := by simpa using h16'
        go_wp2_with fail
        refine (sameTags_self X Ax Al X.length X.length cx cl _ rfl rfl (by omega) HRx.out HRl.out).mono ?_
        rintro e w5 ⟨rfl, hb5⟩
        replace BB := hid_ (BB.out.trans (hb5.mono BB.out.size))
        clear hb5
        go_wp2_with fail
        refine (alive_any _).mono ?_
        rintro e w6 ⟨rfl, hbal⟩
        replace BB := hid_ (BB.out.trans (hbal.mono BB.out.size))
        go_wp2
        go_returns
        exact ⟨rfl, BB.out⟩
  · obtain ⟨k, hk, hx, rfl, h16, hxl, q1, q2, e1, e2⟩ := HY.out rfl
    have E1 := hid_ e1; have E2 := hid_ e2; clear e1 e2 HY HZ; have HXL := hid_ hxl; clear hxl
    have Q1 := hid_ q1; have Q2 := hid_ q2; clear q1 q2
    go_wp2_with fail
    refine (implRet_any X Ax X.length cx k _ rfl (by omega) HRx.out).mono ?_
    rw [E1.out]
    rintro e w5 ⟨Ay, cy, rfl, hcy, hcmy, hoy, hby⟩
    clear hoy hcmy
    have hs_hby := hby.size
    replace BB := hid_ (BB.out.trans (hby.mono BB.out.size))
    replace HRl := hid_ (HRl.out.below hby)
    replace HRx := hid_ (HRx.out.below hby)
    replace c3 := (hby.cell (cell_lt c3)).trans c3
    replace c5 := (hby.cell (cell_lt c5)).trans c5
    clear hby
    replace HRl := hid_ (HRl.out.alloc (.cells #[.slice Ay (retL X k).length cy] 25))
    replace HRx := hid_ (HRx.out.alloc (.cells #[.slice Ay (retL X k).length cy] 25))
    replace c3 := (show (w5.alloc (.cells #[.slice Ay (retL X k).length cy] 25)).cell? _ = _ from (World.cell?_alloc_past _ _ _ (cell_lt c3)).trans c3)
    replace c5 := (show (w5.alloc (.cells #[.slice Ay (retL X k).length cy] 25)).cell? _ = _ from (World.cell?_alloc_past _ _ _ (cell_lt c5)).trans c5)
    have c9 : (w5.alloc (.cells #[.slice Ay (retL X k).length cy] 25)).cell? ⟨w5.heap.size, 0, none⟩ = some (.slice Ay (retL X k).length cy) := by simp [go_sem]
    replace BB := hid_ (BB.out.alloc BB.out.size (.cells #[.slice Ay (retL X k).length cy] 25))
    obtain ⟨W, hW⟩ : ∃ W, w5.alloc (.cells #[.slice Ay (retL X k).length cy] 25) = W := ⟨_, rfl⟩
    rw [hW] at HRl HRx c3 c5 BB
    obtain ⟨bl, ol, eAl, hcl0⟩ := HRl.out.bo k hk rfl
    obtain ⟨bx, ox, eAx, hcx0⟩ := HRx.out.bo k hx rfl
    rw [Q1.out] at hcl0
    rw [Q2.out] at hcx0
    have T1 := hid_ (fun m : Later W => used_any X Ax X.length cx m.w rfl (by omega) (HRx.out.below m.property))
    have T2 := hid_ (fun m : Later W => used_any l Al l.length cl m.w rfl (by omega) (HRl.out.below m.property))
    rw [E2.out] at T1
    have hub := useN_bd l
    obtain ⟨U, hU⟩ : ∃ U, useN l = U := ⟨_, rfl⟩
    rw [hU] at T1 T2 hub
    clear hU E2
    have wr1 : IntKind.i64.wrap (U - 1) = U - 1 := by rw [IntKind.wrap_i64]; omega
    subst eAl
    subst eAx
    have z0 := fun m : Later W => m.cell hcl0
    have z1 := fun m : Later W => m.cell hcx0
    have z2 := fun m : Later W => m.cell c3
    have z3 := fun m : Later W => m.cell c5
    have hkl : (k : Int) < (l.length : Int) := by omega
    have hkx : (k : Int) < (X.length : Int) := by omega
    have hk0 : (0 : Int) ≤ (k : Int) := by omega
    clear hcl0 hcx0 c3 c5 c9
    go_wp2_with fail
    try rw [hW]
    clear hW
    (refine wp_region_later (by kernel_rfl) (by kernel_rfl) ?_
     repeat (go_big_quiet_step ((go_at_call 11; first | (with_reducible exact later_below (T1.out _)) | (with_reducible exact later_below (T2.out _)))))
     refine wpQuiet_nil ?_
     rintro _ ⟨nq, rfl⟩
     have hbq := nq.property)
    go_wp2
    go_returns
    exact ⟨rfl, BB.out.trans (hbq.mono BB.out.size)⟩

set_option maxRecDepth 100000 in
theorem fnReturnTag_lifted (os : Os) (started : os.Started) (H : Type) (enc : TypeId × Value → H) :
    ReturnsInHanded {} Try.checked os 3 .any (Rows.fnReturnTagSpec.pre6 enc Try.prog Try.f3 Rows.fnReturnTagRow.domain false) (Rows.fnReturnTagSpec.post enc Try.prog Try.f3 false true false false) := by
  refine returnsInHanded_of_change (C := Try.checked) own_ started (by kernel_rfl) Try.func3
    (ChangeSpec.witness6 (enc := enc) (C := Try.checked) false ⟨#[], #[.slice none 0 0], []⟩ 8 (by kernel_rfl) (by kernel_rfl) (by kernel_rfl) (by kernel_rfl)) ?_
  intro W base args ds gs before hval0 hW hcnd _
  have hval : ∀ (j : Nat) t v, Try.f3.params[j]? = some t → args[j]? = some v → Value.okWide Try.prog W .any base t v := hval0
  have hW' := hW
  obtain ⟨p, q, hA0, hV, rfl, hfz, hnd⟩ := hW
  have hA : DataW.TrodAll enc Try.prog W 0 (fun _ => true) true Try.f3.params.toList args.toList ds p := hA0
  rw [Try.params3] at hA hval
  obtain ⟨v0, vs0, d0, ds0, p0, q0, hargs, rfl, rfl, h0, r0⟩ := trodAll_cons hA
  obtain ⟨rfl, rfl, rfl⟩ := trodAll_nil r0
  obtain rfl : args = #[v0] := by cases args; simp_all
  obtain ⟨rfl, rfl⟩ := trodVars_none hV
  obtain ⟨a0, len0, cap0, rfl⟩ := okWide_slice Try.underlying22 (hval 0 22 v0 rfl rfl)
  have k0 := h0
  have lt0 : ∀ x ∈ p0, x.block < W.heap.size := by obtain ⟨m, hm⟩ := k0; exact DataW.trod_lt m _ _ _ hm
  obtain ⟨z0, e0, lc0, cm0, w0, rd0⟩ := open_bytes h0
  clear hA0 hval0
  refine (lawRT_walk z0 a0 len0 cap0 W e0 lc0 cm0 w0 rd0).mono fun e W' ⟨he, bel⟩ => ?_
  subst he
  exact ⟨_, rfl, _, _, _, [], _, [], hW', trodAll_mk1 (shut_bool Try.underlying4 _), (trodAll_cons_mk (Below.trod laidOut_ (by kernel_rfl) (of_decide_eq_true (by kernel_rfl)) k0 bel lt0) trodAll_mk0), rfl, bel.frame _, fun h => by cases h⟩

theorem fnReturnTag_holds : Rows.FnReturnTagSaid :=
  OpenClaim.holds_of_wide 3 Try.f3 rfl rfl rfl rfl rfl rfl rfl ⟨rfl, rfl, rfl, rfl, rfl⟩ rfl rfl rfl rfl rfl (by kernel_rfl) Try.func3 (by kernel_rfl)
    (of_decide_eq_true (by kernel_rfl)) (by unfold Func.isWrapper; first | (rw [if_pos (by decide +kernel)]; kernel_rfl) | (rw [if_neg (by decide +kernel)]; exact ⟨rfl, rfl⟩))
    (fun os started H enc _ => fnReturnTag_lifted os started H enc)

end Go.Proofs.Ytddmakhfdkljfaa
