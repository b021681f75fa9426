/-
  Tags: what the laws need; tags are given again.
-/
import Derived.Test.YtddmakhfdkljfaaTgE
import Derived.Test.YtddmakhfdkljfaaAlive
import Derived.Test.YtddmakhfdkljfaaOpenB
namespace Go.Proofs.Ytddmakhfdkljfaa
open Go.ChangeShapes Go.WideShapes Go.ChangeAt Go.RowKit Go.BigFrame Go.Deep

theorem count_set (l : List Bool) (k : Nat) (hk : k < l.length) (b : Bool) : useN (l.set k b) = useN l - (if l[k] = true then 1 else 0) + (if b = true then 1 else 0) := by
  unfold useN
  induction l generalizing k with
  | nil => simp at hk
  | cons x r ih =>
    cases k with
    | zero =>
      simp only [List.set_cons_zero, List.count_cons, List.getElem_cons_zero]
      cases x <;> cases b <;> simp <;> omega
    | succ k =>
      have := ih k (by simpa using hk)
      simp only [List.set_cons_succ, List.count_cons, List.getElem_cons_succ]
      rw [Int.natCast_add, Int.natCast_add, this]
      omega
theorem tak_yes {l X : List Bool} {T : Int} (h : takB l = true) (eX : takL l = X) (eT : takT l = T) : ∃ k : Nat, ∃ hk : k < l.length, ∃ hx : k < X.length, T = (k : Int) ∧ l.length ≤ 16 ∧ X.length = l.length ∧ X = l.set k true ∧ l[k] = false ∧ X[k] = true ∧ (∀ j (hj : j < l.length), j < k → l[j] = true) ∧ retL X T = l ∧ retB X T = true ∧ useN X = useN l + 1 := by
  rcases tak_cases l with ⟨_, _, _, e⟩ | ⟨_, _, _, _, e, _⟩ | ⟨h16, k, hk, _, e1, e2, _, hf, hb⟩
  · rw [e] at h; cases h
  · rw [e] at h; cases h
  · rw [e1] at eX; rw [e2] at eT; subst eX; subst eT
    have hxl : k < (l.set k true).length := by simpa using hk
    refine ⟨k, hk, hxl, rfl, by omega, by simp, rfl, hf, by simp, hb, ?_, ?_, ?_⟩
    · rcases ret_cases (l.set k true) (k : Int) with ⟨h, _⟩ | ⟨_, q, _⟩ | ⟨_, k', hk', e, q, hh⟩
      · simp at h; omega
      · rw [inB_not] at q; simp at q; omega
      · obtain rfl : k = k' := by omega
        rcases hh with ⟨h1, _⟩ | ⟨_, h2, _⟩
        · simp at h1
        · have hself := List.set_getElem_self hk
          rw [hf] at hself
          rw [h2, List.set_set]
          exact hself
    · rcases ret_cases (l.set k true) (k : Int) with ⟨h, _⟩ | ⟨_, q, _⟩ | ⟨_, k', hk', e, q, hh⟩
      · simp at h; omega
      · rw [inB_not] at q; simp at q; omega
      · obtain rfl : k = k' := by omega
        rcases hh with ⟨h1, _⟩ | ⟨_, _, h3⟩
        · simp at h1
        · exact h3
    · rw [count_set l k hk, hf]; simp
theorem useN_all {l : List Bool} (h : ∀ j (hj : j < l.length), l[j] = true) : useN l = l.length := by
  unfold useN
  have : l.count true = l.length := List.count_eq_length.2 (fun b hb => by obtain ⟨i, hi, rfl⟩ := List.getElem_of_mem hb; exact (h i hi).symm)
  rw [this]
theorem tak_no {l X : List Bool} {T : Int} (h : takB l = false) (eT : takT l = T) : T = -1 ∧ (16 < l.length ∨ useN l = l.length) := by
  subst eT
  rcases tak_cases l with ⟨h0, _, e, _⟩ | ⟨_, _, _, e, _, hall⟩ | ⟨h16, k, hk, _, e1, e2, e3, hf, hb⟩
  · exact ⟨e, .inl h0⟩
  · exact ⟨e, .inr (useN_all hall)⟩
  · rw [e3] at h; cases h
theorem ret_yes {l X : List Bool} {t : Int} (h : retB l t = true) (eX : retL l t = X) : ∃ k : Nat, ∃ hk : k < l.length, ∃ hx : k < X.length, t = (k : Int) ∧ l.length ≤ 16 ∧ X.length = l.length ∧ l[k] = true ∧ X[k] = false ∧ retB X t = false ∧ useN X = useN l - 1 := by
  rcases ret_cases l t with ⟨_, _, e⟩ | ⟨_, _, _, e⟩ | ⟨h16, k, hk, rfl, q, hh⟩
  · rw [e] at h; cases h
  · rw [e] at h; cases h
  · rcases hh with ⟨_, _, e⟩ | ⟨h1, h2, _⟩
    · rw [e] at h; cases h
    · rw [h2] at eX; subst eX
      have hxl : k < (l.set k false).length := by simpa using hk
      refine ⟨k, hk, hxl, rfl, by omega, by simp, h1, by simp, ?_, ?_⟩
      · rcases ret_cases (l.set k false) (k : Int) with ⟨_, _, e⟩ | ⟨_, _, _, e⟩ | ⟨_, k', hk', e, _, hh⟩
        · exact e
        · exact e
        · obtain rfl : k = k' := by omega
          rcases hh with ⟨_, _, e⟩ | ⟨h1, _, _⟩
          · exact e
          · simp at h1
      · rw [count_set l k hk, h1]; simp
theorem ret_no {l X : List Bool} {t : Int} (h : retB l t = false) (eX : retL l t = X) : 16 < l.length ∨ X = l := by
  subst eX
  rcases ret_cases l t with ⟨h0, _, _⟩ | ⟨_, _, e, _⟩ | ⟨h16, k, hk, rfl, q, hh⟩
  · exact .inl h0
  · exact .inr e
  · rcases hh with ⟨_, e, _⟩ | ⟨_, _, e⟩
    · exact .inr e
    · rw [e] at h; cases h

theorem sameTags_self (l : List Bool) (A A' : Option Addr) (n n' c c' : Nat) (w : World) (hn : l.length = n) (hn' : l.length = n') (hm : n ≤ 1048576) (hR : Rd w 1 A n (boC l)) (hR' : Rd w 1 A' n' (boC l)) :
    Calls Try.prog 9 #[.agg #[.slice A n c], .agg #[.slice A' n' c']] w fun e w' => e = .returned (.bool true) ∧ Below w.heap.size w w' := by
  have hm' : n' ≤ 1048576 := by omega
  simpa using sameTags_any l l A A' n n' c c' w hn hn' hm hm' hR hR'
theorem tak_length (l : List Bool) (h : l.length ≤ 20) : (takL l).length ≤ 20 := by
  unfold takL; split
  · simp
  · split
    · exact h
    · rw [List.length_set]; exact h
theorem ret_length (l : List Bool) (t : Int) (h : l.length ≤ 20) : (retL l t).length ≤ 20 := by
  unfold retL; split
  · simp
  · split
    · rw [List.length_set]; exact h
    · exact h

set_option maxHeartbeats 1600000 in
theorem lawTA_walk (z : List Int) (A : Option Addr) (n c : Nat) (w : World) (hl : z.length = n) (hc : n ≤ c) (hcm : c ≤ maxLen) (_ : True) (hB : Bys w w.heap.size A n) :
    Calls Try.prog 4 #[.slice A n c] w fun e w' => e = .returned (.bool true) ∧ Below w.heap.size w w' := by
  clear hl
  have HB := hid_ hB; clear hB
  have HC := hid_ hcm
  have hm : n ≤ 9223372036854775807 := by unfold maxLen at hcm; omega
  clear hcm
  by_cases hbig : (1048576 : Int) < (n : Int)
  · go_enter Try.func4, Try.ntmps4
    go_wp2
    go_returns
    exact ⟨rfl, Below.refl _ _⟩
  have hn20 : n ≤ 1048576 := by omega
  go_enter Try.func4, Try.ntmps4
  go_wp2_with fail
  refine (drawTake_any A n c _ hn20 hc HC.out HB.out).mono ?_
  clear HB HC
  rintro e w1 ⟨l, Al, cl, rfl, hl, hcl, hcml, HRl, BB⟩
  replace BB := hid_ BB
  replace HRl := hid_ HRl
  clear hcml
  have hXl := tak_length l hl
  obtain ⟨X, hX⟩ : ∃ X, takL l = X := ⟨_, rfl⟩
  obtain ⟨T, hT⟩ : ∃ T, takT l = T := ⟨_, rfl⟩
  obtain ⟨b, hb⟩ : ∃ b, takB l = b := ⟨_, rfl⟩
  rw [hX] at hXl
  have HY := hid_ (fun h => tak_yes (l := l) (X := X) (T := T) h hX hT)
  rw [hb] at HY
  have HX := hid_ hX; have HT := hid_ hT; have HB := hid_ hb
  clear hX hT hb
  replace HRl := hid_ (HRl.out.alloc (.cells #[.slice Al l.length cl] 25))
  have c3 : (w1.alloc (.cells #[.slice Al l.length cl] 25)).cell? ⟨w1.heap.size, 0, none⟩ = some (.slice Al l.length cl) := by simp [go_sem]
  replace BB := hid_ (BB.out.alloc BB.out.size (.cells #[.slice Al l.length cl] 25))
  go_wp2_with fail
  refine (implTake_any l Al l.length cl _ rfl (by omega) HRl.out).mono ?_
  rw [HX.out, HT.out, HB.out]
  rintro e w2 ⟨Ax, cx, rfl, hcx, hcmx, hox, hbx⟩
  have HRx := hid_ (own_rd hox); clear hox hcmx
  have hs_hbx := hbx.size
  replace BB := hid_ (BB.out.trans (hbx.mono BB.out.size))
  replace HRl := hid_ (HRl.out.below hbx)
  replace c3 := (hbx.cell (cell_lt c3)).trans c3
  clear hbx
  replace HRl := hid_ (HRl.out.alloc (.cells #[.slice Ax X.length cx] 25))
  replace HRx := hid_ (HRx.out.alloc (.cells #[.slice Ax X.length cx] 25))
  replace c3 := (show (w2.alloc (.cells #[.slice Ax X.length cx] 25)).cell? _ = _ from (World.cell?_alloc_past _ _ _ (cell_lt c3)).trans c3)
  have c4 : (w2.alloc (.cells #[.slice Ax X.length cx] 25)).cell? ⟨w2.heap.size, 0, none⟩ = some (.slice Ax X.length cx) := by simp [go_sem]
  replace BB := hid_ (BB.out.alloc BB.out.size (.cells #[.slice Ax X.length cx] 25))
  go_wp2_with fail
  refine (specTake_any l Al l.length cl _ rfl (by omega) HRl.out).mono ?_
  rw [HX.out, HT.out, HB.out]
  rintro e w3 ⟨Ap, cp, rfl, hcp, hcmp, hop, hbp⟩
  clear hop hcmp
  have hs_hbp := hbp.size
  replace BB := hid_ (BB.out.trans (hbp.mono BB.out.size))
  replace HRl := hid_ (HRl.out.below hbp)
  replace HRx := hid_ (HRx.out.below hbp)
  replace c3 := (hbp.cell (cell_lt c3)).trans c3
  replace c4 := (hbp.cell (cell_lt c4)).trans c4
  clear hbp
  replace HRl := hid_ (HRl.out.alloc (.cells #[.slice Ap X.length cp] 25))
  replace HRx := hid_ (HRx.out.alloc (.cells #[.slice Ap X.length cp] 25))
  replace c3 := (show (w3.alloc (.cells #[.slice Ap X.length cp] 25)).cell? _ = _ from (World.cell?_alloc_past _ _ _ (cell_lt c3)).trans c3)
  replace c4 := (show (w3.alloc (.cells #[.slice Ap X.length cp] 25)).cell? _ = _ from (World.cell?_alloc_past _ _ _ (cell_lt c4)).trans c4)
  have c7 : (w3.alloc (.cells #[.slice Ap X.length cp] 25)).cell? ⟨w3.heap.size, 0, none⟩ = some (.slice Ap X.length cp) := by simp [go_sem]
  replace BB := hid_ (BB.out.alloc BB.out.size (.cells #[.slice Ap X.length cp] 25))
  cases b
  · go_wp2_with fail
    refine (alive_any _).mono ?_
    rintro e w4 ⟨rfl, hbal⟩
    replace BB := hid_ (BB.out.trans (hbal.mono BB.out.size))
    go_wp2
    go_returns
    exact ⟨rfl, BB.out⟩
  · obtain ⟨k, hk, hx, rfl, h16, hxl, -, -, -, -, e1, e2, -⟩ := HY.out rfl
    have E1 := hid_ e1; have E2 := hid_ e2; clear e1 e2 HY; have HXL := hid_ hxl; clear hxl
    go_wp2_with fail
    refine (implRet_any X Ax X.length cx k _ rfl (by omega) HRx.out).mono ?_
    rw [E1.out, E2.out]
    rintro e w4 ⟨Ay, cy, rfl, hcy, hcmy, hoy, hby⟩
    have HRy := hid_ (own_rd hoy); clear hoy hcmy
    have hs_hby := hby.size
    replace BB := hid_ (BB.out.trans (hby.mono BB.out.size))
    replace HRx := hid_ (HRx.out.below hby)
    replace c4 := (hby.cell (cell_lt c4)).trans c4
    clear hby
    replace HRx := hid_ (HRx.out.alloc (.cells #[.slice Ay l.length cy] 25))
    replace HRy := hid_ (HRy.out.alloc (.cells #[.slice Ay l.length cy] 25))
    replace c4 := (show (w4.alloc (.cells #[.slice Ay l.length cy] 25)).cell? _ = _ from (World.cell?_alloc_past _ _ _ (cell_lt c4)).trans c4)
    have c10 : (w4.alloc (.cells #[.slice Ay l.length cy] 25)).cell? ⟨w4.heap.size, 0, none⟩ = some (.slice Ay l.length cy) := by simp [go_sem]
    replace BB := hid_ (BB.out.alloc BB.out.size (.cells #[.slice Ay l.length cy] 25))
    go_wp2_with fail
    refine (implTake_any l Ay l.length cy _ rfl (by omega) HRy.out).mono ?_
    rw [HX.out, HT.out, HB.out]
    rintro e w5 ⟨Az, cz, rfl, hcz, hcmz, hoz, hbz⟩
    have HRz := hid_ (own_rd hoz); clear hoz hcmz
    have hs_hbz := hbz.size
    replace BB := hid_ (BB.out.trans (hbz.mono BB.out.size))
    replace HRx := hid_ (HRx.out.below hbz)
    replace c4 := (hbz.cell (cell_lt c4)).trans c4
    clear hbz
    replace HRx := hid_ (HRx.out.alloc (.cells #[.slice Az X.length cz] 25))
    replace HRz := hid_ (HRz.out.alloc (.cells #[.slice Az X.length cz] 25))
    replace c4 := (show (w5.alloc (.cells #[.slice Az X.length cz] 25)).cell? _ = _ from (World.cell?_alloc_past _ _ _ (cell_lt c4)).trans c4)
    have c12 : (w5.alloc (.cells #[.slice Az X.length cz] 25)).cell? ⟨w5.heap.size, 0, none⟩ = some (.slice Az X.length cz) := by simp [go_sem]
    replace BB := hid_ (BB.out.alloc BB.out.size (.cells #[.slice Az X.length cz] 25))
    go_wp2_with fail
    refine (sameTags_self X Az Ax X.length X.length cz cx _ rfl rfl (by omega) HRz.out HRx.out).mono ?_
    rintro e w6 ⟨rfl, hb6⟩
    replace BB := hid_ (BB.out.trans (hb6.mono BB.out.size))
    go_wp2
    go_returns
    exact ⟨rfl, BB.out⟩

set_option maxRecDepth 100000 in
theorem fnTagAgain_lifted (os : Os) (started : os.Started) (H : Type) (enc : TypeId × Value → H) :
    ReturnsInHanded {} Try.checked os 4 .any (Rows.fnTagAgainSpec.pre6 enc Try.prog Try.f4 Rows.fnTagAgainRow.domain false) (Rows.fnTagAgainSpec.post enc Try.prog Try.f4 false true false false) := by
  refine returnsInHanded_of_change (C := Try.checked) own_ started (by kernel_rfl) Try.func4
    (ChangeSpec.witness6 (enc := enc) (C := Try.checked) false ⟨#[], #[.slice none 0 0], []⟩ 8 (by kernel_rfl) (by kernel_rfl) (by kernel_rfl) (by kernel_rfl)) ?_
  intro W base args ds gs before hval0 hW hcnd _
  have hval : ∀ (j : Nat) t v, Try.f4.params[j]? = some t → args[j]? = some v → Value.okWide Try.prog W .any base t v := hval0
  have hW' := hW
  obtain ⟨p, q, hA0, hV, rfl, hfz, hnd⟩ := hW
  have hA : DataW.TrodAll enc Try.prog W 0 (fun _ => true) true Try.f4.params.toList args.toList ds p := hA0
  rw [Try.params4] at hA hval
  obtain ⟨v0, vs0, d0, ds0, p0, q0, hargs, rfl, rfl, h0, r0⟩ := trodAll_cons hA
  obtain ⟨rfl, rfl, rfl⟩ := trodAll_nil r0
  obtain rfl : args = #[v0] := by cases args; simp_all
  obtain ⟨rfl, rfl⟩ := trodVars_none hV
  obtain ⟨a0, len0, cap0, rfl⟩ := okWide_slice Try.underlying22 (hval 0 22 v0 rfl rfl)
  have k0 := h0
  have lt0 : ∀ x ∈ p0, x.block < W.heap.size := by obtain ⟨m, hm⟩ := k0; exact DataW.trod_lt m _ _ _ hm
  obtain ⟨z0, e0, lc0, cm0, w0, rd0⟩ := open_bytes h0
  clear hA0 hval0
  refine (lawTA_walk z0 a0 len0 cap0 W e0 lc0 cm0 w0 rd0).mono fun e W' ⟨he, bel⟩ => ?_
  subst he
  exact ⟨_, rfl, _, _, _, [], _, [], hW', trodAll_mk1 (shut_bool Try.underlying4 _), (trodAll_cons_mk (Below.trod laidOut_ (by kernel_rfl) (of_decide_eq_true (by kernel_rfl)) k0 bel lt0) trodAll_mk0), rfl, bel.frame _, fun h => by cases h⟩

theorem fnTagAgain_holds : Rows.FnTagAgainSaid :=
  OpenClaim.holds_of_wide 4 Try.f4 rfl rfl rfl rfl rfl rfl rfl ⟨rfl, rfl, rfl, rfl, rfl⟩ rfl rfl rfl rfl rfl (by kernel_rfl) Try.func4 (by kernel_rfl)
    (of_decide_eq_true (by kernel_rfl)) (by unfold Func.isWrapper; first | (rw [if_pos (by decide +kernel)]; kernel_rfl) | (rw [if_neg (by decide +kernel)]; exact ⟨rfl, rfl⟩))
    (fun os started H enc _ => fnTagAgain_lifted os started H enc)

end Go.Proofs.Ytddmakhfdkljfaa
