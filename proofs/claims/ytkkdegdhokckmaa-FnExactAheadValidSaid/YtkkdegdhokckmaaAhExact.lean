/-
  ahead: the exact laws, and the argument opened.
-/
import Derived.Test.YtkkdegdhokckmaaAh
import Derived.Test.YtkkdegdhokckmaaOpen
namespace Go.Proofs.Ytkkdegdhokckmaa
open Go.ChangeShapes Go.WideShapes Go.ChangeAt Go.RowKit Go.BigFrame Go.Deep

section
variable {H : Type} {enc : TypeId × Value → H} {w : World} {base : Nat} {spare : Nat → Bool} {held : Bool}
theorem ah_elem (n' : Nat) (cs : List Value) (x : DataW H × List MemPlace) (h : DataW.trod enc Try.prog w base spare held n' 23 cs = some x) :
    ∃ z : Int × Int, cs = [.int .i64 z.1, .int .i64 z.2] ∧ (I64 z.1 ∧ I64 z.2) := by
  obtain ⟨xs, n, _, _, hlen, hxl, hf⟩ := DataW.trod_struct Try.underlying23 h
  have hc : Try.prog.cellsOf 23 = 2 := by kernel_rfl
  rw [hc] at hlen
  obtain ⟨a, b, rfl⟩ := two_ hlen
  have hx : xs.length = 2 := hxl
  have g0 : DataW.trod enc Try.prog w base spare held n 3 (List.take (Try.prog.cellsOf 3) (List.drop 0 [a, b])) = xs[0]? := hf 0 _ rfl
  have g1 : DataW.trod enc Try.prog w base spare held n 3 (List.take (Try.prog.cellsOf 3) (List.drop 1 [a, b])) = xs[1]? := hf 1 _ rfl
  rw [List.getElem?_eq_getElem (by omega)] at g0 g1
  simp only [cells_int, List.drop_zero, List.drop_succ_cons, List.take_succ_cons, List.take_zero] at g0 g1
  obtain ⟨a', ha, _, wa⟩ := DataW.trod_int Try.underlying3 g0
  obtain ⟨b', hb, _, wb⟩ := DataW.trod_int Try.underlying3 g1
  simp only [List.cons.injEq, and_true] at ha hb
  subst ha; subst hb
  exact ⟨(a', b'), rfl, wf_i64 wa, wf_i64 wb⟩
theorem open_ahead1 {r : Reach} {b0 : Nat} {v : Value} {d : DataW H} {p : List MemPlace} (hval : Value.okWide Try.prog w r b0 23 v)
    (h : DataW.Trod enc Try.prog w base spare held 23 v d p) : ∃ z : Int × Int, v = .agg #[.int .i64 z.1, .int .i64 z.2] ∧ (I64 z.1 ∧ I64 z.2) := by
  obtain ⟨cs, rfl, _⟩ := okWide_struct Try.underlying23 hval
  obtain ⟨fuel, hf⟩ := h
  obtain ⟨z, hz, q⟩ := ah_elem _ _ _ hf
  refine ⟨z, ?_, q⟩
  have : cs = #[.int .i64 z.1, .int .i64 z.2] := by
    apply Array.toList_inj.1
    simpa [Value.cells] using hz
  rw [this]
end

set_option maxHeartbeats 1000000 in
theorem exactAV_walk (z : Int × Int) (w : World) (q : I64 z.1 ∧ I64 z.2) :
    Calls Try.prog 3 #[.agg #[.int .i64 z.1, .int .i64 z.2]] w fun e w' => e = .returned (.bool true) ∧ Below w.heap.size w w' := by
  obtain ⟨x, y⟩ := z
  clear q
  go_enter Try.func3, Try.ntmps3
  go_wp2_with fail
  refine (toAhead_any x y _).mono ?_
  rintro e w1 ⟨rfl, hb1⟩
  have B1 := ((Below.refl w.heap.size w).alloc (Nat.le_refl _) _).trans (hb1.mono (by simp))
  obtain ⟨hc1, _⟩ := bcell hb1
  have hs1 := hb1.size
  simp only [World.size_alloc] at hc1 hs1
  have c0 : w1.cell? ⟨w.heap.size, 0, none⟩ = some (.int .i64 x) := by rw [hc1 _ _ (by omega)]; simp [go_sem]
  have c1 : w1.cell? ⟨w.heap.size, 1, none⟩ = some (.int .i64 y) := by rw [hc1 _ _ (by omega)]; simp [go_sem]
  clear hc1
  go_wp2_with fail
  refine (specAV_any x y _).mono ?_
  rintro e w2 ⟨rfl, hb2⟩
  have B2 := B1.trans (hb2.mono (by omega))
  have hs2 := hb2.size
  replace c0 := hb2.cell (cell_lt c0) |>.trans c0
  replace c1 := hb2.cell (cell_lt c1) |>.trans c1
  go_wp2_with fail
  refine (toAhead_any x y _).mono ?_
  rintro e w3 ⟨rfl, hb3⟩
  have B3 := B2.trans (hb3.mono (by omega))
  have hs3 := hb3.size
  go_wp2_with fail
  refine (implAV_any x y _).mono ?_
  rintro e w4 ⟨rfl, hb4⟩
  have B4 := B3.trans (hb4.mono (by omega))
  go_wp2_with fail
  go_returns
  exact ⟨by simp, B4⟩

set_option maxHeartbeats 2000000 in
theorem exactRN_walk (z : Int × Int) (at_ count : Int) (w : World) (q : I64 z.1 ∧ I64 z.2) (q1 : I64 at_) (q2 : I64 count) :
    Calls Try.prog 4 #[.agg #[.int .i64 z.1, .int .i64 z.2], .int .i64 at_, .int .i64 count] w fun e w' => e = .returned (.bool true) ∧ Below w.heap.size w w' := by
  obtain ⟨x, y⟩ := z
  clear q q1 q2
  go_enter Try.func4, Try.ntmps4
  go_wp2_with fail
  refine (toAhead_any x y _).mono ?_
  rintro e w1 ⟨rfl, hb1⟩
  have B1 := ((Below.refl w.heap.size w).alloc (Nat.le_refl _) _).trans (hb1.mono (by simp))
  obtain ⟨hc1, _⟩ := bcell hb1
  have hs1 := hb1.size
  simp only [World.size_alloc] at hc1 hs1
  have c0 : w1.cell? ⟨w.heap.size, 0, none⟩ = some (.int .i64 x) := by rw [hc1 _ _ (by omega)]; simp [go_sem]
  have c1 : w1.cell? ⟨w.heap.size, 1, none⟩ = some (.int .i64 y) := by rw [hc1 _ _ (by omega)]; simp [go_sem]
  clear hc1
  go_wp2_with fail
  refine (specRN_any x y at_ count _).mono ?_
  obtain ⟨X, hX⟩ : ∃ X, X = rnN x y at_ count := ⟨_, rfl⟩
  obtain ⟨Y, hY⟩ : ∃ Y, Y = rnW x y at_ count := ⟨_, rfl⟩
  rw [← hX, ← hY]
  have HX := hid_ hX; clear hX
  have HY := hid_ hY; clear hY
  rintro e w2 ⟨rfl, hb2⟩
  have B2 := B1.trans (hb2.mono (by omega))
  have hs2 := hb2.size
  replace c0 := hb2.cell (cell_lt c0) |>.trans c0
  replace c1 := hb2.cell (cell_lt c1) |>.trans c1
  have hl2 : w.heap.size < w2.heap.size := by omega
  have d0 : (w2.alloc (.cells #[.int .i64 X, .int .i64 Y] 25)).cell? ⟨w2.heap.size, 0, none⟩ = some (.int .i64 X) := by simp [go_sem]
  have d1 : (w2.alloc (.cells #[.int .i64 X, .int .i64 Y] 25)).cell? ⟨w2.heap.size, 1, none⟩ = some (.int .i64 Y) := by simp [go_sem]
  go_wp2_with fail
  refine (toAhead_any x y _).mono ?_
  rintro e w3 ⟨rfl, hb3⟩
  have B3 := (B2.alloc (by omega) (.cells #[.int .i64 X, .int .i64 Y] 25)).trans (hb3.mono (by simp; omega))
  have hs3 := hb3.size; simp only [World.size_alloc] at hs3
  replace d0 := (hb3.cell (cell_lt d0)).trans d0
  replace d1 := (hb3.cell (cell_lt d1)).trans d1
  go_wp2_with fail
  refine (implRN_any x y at_ count _).mono ?_
  rw [← HX.out, ← HY.out]
  rintro e w4 ⟨rfl, hb4⟩
  have B4 := B3.trans (hb4.mono (by omega))
  have hs4 := hb4.size
  replace d0 := (hb4.cell (cell_lt d0)).trans d0
  replace d1 := (hb4.cell (cell_lt d1)).trans d1
  have hl4 : w2.heap.size < w4.heap.size := by omega
  go_wp2_with fail
  refine (eqAhead_any X Y X Y _).mono ?_
  rintro e w5 ⟨rfl, hb5⟩
  have B5 := (B4.alloc (by omega) (.cells #[.int .i64 X, .int .i64 Y] 25)).trans (hb5.mono (by simp; omega))
  have hd : (decide (X = X ∧ Y = Y)) = true := by simp
  rw [hd]
  go_wp2_with fail
  go_returns
  exact ⟨by simp, B5⟩

set_option maxRecDepth 100000 in
theorem fnExactAheadValid_lifted (os : Os) (started : os.Started) (H : Type) (enc : TypeId × Value → H) :
    ReturnsInHanded {} Try.checked os 3 .any (Rows.fnExactAheadValidSpec.pre6 enc Try.prog Try.f3 Rows.fnExactAheadValidRow.domain false) (Rows.fnExactAheadValidSpec.post enc Try.prog Try.f3 false true false false) := by
  refine returnsInHanded_of_change (C := Try.checked) own_ started (by kernel_rfl) Try.func3
    (ChangeSpec.witness6 (enc := enc) (C := Try.checked) false ⟨#[], #[.agg #[.int .i64 0, .int .i64 0]], []⟩ 8 (by kernel_rfl) (by kernel_rfl) (by kernel_rfl) (by kernel_rfl)) ?_
  intro W base args ds gs before hval0 hW hcnd _
  have hval : ∀ (j : Nat) t v, Try.f3.params[j]? = some t → args[j]? = some v → Value.okWide Try.prog W .any base t v := hval0
  have hW' := hW
  obtain ⟨p, q, hA0, hV, rfl, hfz, hnd⟩ := hW
  have hA : DataW.TrodAll enc Try.prog W 0 (fun _ => true) true Try.f3.params.toList args.toList ds p := hA0
  rw [Try.params3] at hA hval
  obtain ⟨v0, vs0, d0, ds0, p0, q0, hargs, rfl, rfl, h0, r0⟩ := trodAll_cons hA
  obtain ⟨rfl, rfl, rfl⟩ := trodAll_nil r0
  obtain rfl : args = #[v0] := by cases args; simp_all
  obtain ⟨rfl, rfl⟩ := trodVars_none hV
  have k0 := h0
  have lt0 : ∀ x ∈ p0, x.block < W.heap.size := by obtain ⟨m, hm⟩ := k0; exact DataW.trod_lt m _ _ _ hm
  obtain ⟨z0, rfl, w0⟩ := open_ahead1 (hval 0 23 v0 rfl rfl) h0
  clear hA0 hval0
  refine (exactAV_walk z0 W w0).mono fun e W' ⟨he, bel⟩ => ?_
  subst he
  exact ⟨_, rfl, _, _, _, [], _, [], hW', trodAll_mk1 (shut_bool Try.underlying4 _), (trodAll_cons_mk (Below.trod laidOut_ (by kernel_rfl) (of_decide_eq_true (by kernel_rfl)) k0 bel lt0) trodAll_mk0), rfl, bel.frame _, fun h => by cases h⟩

theorem fnExactAheadValid_holds : Rows.FnExactAheadValidSaid :=
  OpenClaim.holds_of_wide 3 Try.f3 rfl rfl rfl rfl rfl rfl rfl ⟨rfl, rfl, rfl, rfl, rfl⟩ rfl rfl rfl rfl rfl (by kernel_rfl) Try.func3 (by kernel_rfl)
    (of_decide_eq_true (by kernel_rfl)) (by unfold Func.isWrapper; first | (rw [if_pos (by decide +kernel)]; kernel_rfl) | (rw [if_neg (by decide +kernel)]; exact ⟨rfl, rfl⟩))
    (fun os started H enc _ => fnExactAheadValid_lifted os started H enc)


set_option maxRecDepth 100000 in
theorem fnExactReadNext_lifted (os : Os) (started : os.Started) (H : Type) (enc : TypeId × Value → H) :
    ReturnsInHanded {} Try.checked os 4 .any (Rows.fnExactReadNextSpec.pre6 enc Try.prog Try.f4 Rows.fnExactReadNextRow.domain false) (Rows.fnExactReadNextSpec.post enc Try.prog Try.f4 false true false false) := by
  refine returnsInHanded_of_change (C := Try.checked) own_ started (by kernel_rfl) Try.func4
    (ChangeSpec.witness6 (enc := enc) (C := Try.checked) false ⟨#[], #[.agg #[.int .i64 0, .int .i64 0], .int .i64 0, .int .i64 0], []⟩ 8 (by kernel_rfl) (by kernel_rfl) (by kernel_rfl) (by kernel_rfl)) ?_
  intro W base args ds gs before hval0 hW hcnd _
  have hval : ∀ (j : Nat) t v, Try.f4.params[j]? = some t → args[j]? = some v → Value.okWide Try.prog W .any base t v := hval0
  have hW' := hW
  obtain ⟨p, q, hA0, hV, rfl, hfz, hnd⟩ := hW
  have hA : DataW.TrodAll enc Try.prog W 0 (fun _ => true) true Try.f4.params.toList args.toList ds p := hA0
  rw [Try.params4] at hA hval
  obtain ⟨v0, vs0, d0, ds0, p0, q0, hargs, rfl, rfl, h0, r0⟩ := trodAll_cons hA
  obtain ⟨v1, vs1, d1, ds1, p1, q1, rfl, rfl, rfl, h1, r1⟩ := trodAll_cons r0
  obtain ⟨v2, vs2, d2, ds2, p2, q2, rfl, rfl, rfl, h2, r2⟩ := trodAll_cons r1
  obtain ⟨rfl, rfl, rfl⟩ := trodAll_nil r2
  obtain rfl : args = #[v0, v1, v2] := by cases args; simp_all
  obtain ⟨rfl, rfl⟩ := trodVars_none hV
  have k0 := h0
  have lt0 : ∀ x ∈ p0, x.block < W.heap.size := by obtain ⟨m, hm⟩ := k0; exact DataW.trod_lt m _ _ _ hm
  obtain ⟨z0, rfl, w0⟩ := open_ahead1 (hval 0 23 v0 rfl rfl) h0
  obtain ⟨a1, rfl, rfl, rfl, wf1⟩ := open_int Try.underlying3 (hval 1 3 v1 rfl rfl) h1
  obtain ⟨a2, rfl, rfl, rfl, wf2⟩ := open_int Try.underlying3 (hval 2 3 v2 rfl rfl) h2
  clear hA0 hval0
  refine (exactRN_walk z0 a1 a2 W w0 (wf_i64 wf1) (wf_i64 wf2)).mono fun e W' ⟨he, bel⟩ => ?_
  subst he
  exact ⟨_, rfl, _, _, _, [], _, [], hW', trodAll_mk1 (shut_bool Try.underlying4 _), (trodAll_cons_mk (Below.trod laidOut_ (by kernel_rfl) (of_decide_eq_true (by kernel_rfl)) k0 bel lt0) (trodAll_cons_mk (shut_int Try.underlying3 wf1) (trodAll_cons_mk (shut_int Try.underlying3 wf2) trodAll_mk0))), rfl, bel.frame _, fun h => by cases h⟩

theorem fnExactReadNext_holds : Rows.FnExactReadNextSaid :=
  OpenClaim.holds_of_wide 4 Try.f4 rfl rfl rfl rfl rfl rfl rfl ⟨rfl, rfl, rfl, rfl, rfl⟩ rfl rfl rfl rfl rfl (by kernel_rfl) Try.func4 (by kernel_rfl)
    (of_decide_eq_true (by kernel_rfl)) (by unfold Func.isWrapper; first | (rw [if_pos (by decide +kernel)]; kernel_rfl) | (rw [if_neg (by decide +kernel)]; exact ⟨rfl, rfl⟩))
    (fun os started H enc _ => fnExactReadNext_lifted os started H enc)

end Go.Proofs.Ytkkdegdhokckmaa
