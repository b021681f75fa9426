/-
  ahead: windows are powers of 2.
-/
import Derived.Test.YtkkdegdhokckmaaAhExact
import Derived.Test.YtkkdegdhokckmaaAhD
import Derived.Test.YtkkdegdhokckmaaOpenB
import Derived.Test.YtkkdegdhokckmaaAlive
namespace Go.Proofs.Ytkkdegdhokckmaa
open Go.ChangeShapes Go.WideShapes Go.ChangeAt Go.RowKit Go.BigFrame Go.Deep

theorem ahV_three (x : Int) : ahV x 3 = false := by
  unfold ahV
  have : (bits .and .i64 3 (3 - 1) == (0 : Int)) = false := by decide +kernel
  rw [this]; simp

theorem pow2_cases (y : Int) (h0 : 0 ≤ y) (h1 : y ≤ 32) (h : (bits .and .i64 y (y - 1) == (0 : Int)) = true) : y = 0 ∨ y = 1 ∨ y = 2 ∨ y = 4 ∨ y = 8 ∨ y = 16 ∨ y = 32 := by
  obtain ⟨n, rfl⟩ := Int.eq_ofNat_of_zero_le h0
  have hn : n < 33 := by omega
  have key : ∀ n : Fin 33, (bits .and .i64 ((n.val : Nat) : Int) (((n.val : Nat) : Int) - 1) == (0 : Int)) = true → (n.val = 0 ∨ n.val = 1 ∨ n.val = 2 ∨ n.val = 4 ∨ n.val = 8 ∨ n.val = 16 ∨ n.val = 32) := by decide +kernel
  have := key ⟨n, hn⟩ h
  simp only at this
  omega

theorem ahV_cases (x y : Int) (h : ahV x y = true) : y = 0 ∨ y = 1 ∨ y = 2 ∨ y = 4 ∨ y = 8 ∨ y = 16 ∨ y = 32 := by
  have b := ahV_bounds x y h
  refine pow2_cases y b.2.1 b.2.2 ?_
  unfold ahV at h
  simp only [Bool.and_eq_true] at h
  exact h.2

set_option maxHeartbeats 2000000 in
theorem aheadLaw_walk (z : List Int) (A : Option Addr) (n c : Nat) (w : World) (hl : z.length = n) (hc : n ≤ c) (hcm : c ≤ maxLen) (_ : True) (hB : Bys w w.heap.size A n) :
    Calls Try.prog 5 #[.slice A n c] w fun e w' => e = .returned (.bool true) ∧ Below w.heap.size w w' := by
  clear hl
  have HB := hid_ hB; clear hB
  have HC := hid_ hcm
  have hm : n ≤ 9223372036854775807 := by unfold maxLen at hcm; omega
  clear hcm
  by_cases hbig : (1048576 : Int) < (n : Int)
  · go_enter Try.func5, Try.ntmps5
    go_wp2
    go_returns
    exact ⟨rfl, Below.refl _ _⟩
  · go_enter Try.func5, Try.ntmps5
    go_wp2_with fail
    refine (drawAV_any A n c _ (by omega) hc HC.out HB.out).mono ?_
    rintro e w1 ⟨x, y, rfl, hb1⟩
    have hs1 := hb1.size
    have c0 : (w1.alloc (.cells #[.int .i64 x, .int .i64 y] 25)).cell? ⟨w1.heap.size, 0, none⟩ = some (.int .i64 x) := by simp [go_sem]
    have c1 : (w1.alloc (.cells #[.int .i64 x, .int .i64 y] 25)).cell? ⟨w1.heap.size, 1, none⟩ = some (.int .i64 y) := by simp [go_sem]
    go_wp2_with fail
    refine (implAV_any x y _).mono ?_
    rintro e w2 ⟨rfl, hb2⟩
    have B2 := (hb1.alloc hb1.size (.cells #[.int .i64 x, .int .i64 y] 25)).trans (hb2.mono (by simp; omega))
    have hs2 := hb2.size
    simp only [World.size_alloc] at hs2
    replace c0 := (hb2.cell (cell_lt c0)).trans c0
    replace c1 := (hb2.cell (cell_lt c1)).trans c1
    cases q : ahV x y
    all_goals
      go_wp2_with fail
      refine (specAV_any x y _).mono ?_
      rw [q]
      rintro e w3 ⟨rfl, hb3⟩
      have B3 := B2.trans (hb3.mono (by omega))
      have hs3 := hb3.size
      replace c0 := (hb3.cell (cell_lt c0)).trans c0
      replace c1 := (hb3.cell (cell_lt c1)).trans c1
    · go_wp2_with fail
      all_goals
        refine (implAV_any x 3 _).mono ?_
        rw [ahV_three]
        rintro e w4 ⟨rfl, hb4⟩
        have B4 := B3.trans (hb4.mono (by omega))
        go_wp2_with fail
        refine (alive_any _).mono ?_
        rintro e w5 ⟨rfl, hb5⟩
        have B5 := B4.trans (hb5.mono (by have := hb4.size; omega))
        go_wp2_with fail
        go_returns
        exact ⟨rfl, B5⟩
    · rcases ahV_cases x y q with rfl | rfl | rfl | rfl | rfl | rfl | rfl
      all_goals
        go_wp2_with fail
        refine (implAV_any x 3 _).mono ?_
        rw [ahV_three]
        rintro e w4 ⟨rfl, hb4⟩
        have B4 := B3.trans (hb4.mono (by omega))
        go_wp2_with fail
        refine (alive_any _).mono ?_
        rintro e w5 ⟨rfl, hb5⟩
        have B5 := B4.trans (hb5.mono (by have := hb4.size; omega))
        go_wp2_with fail
        go_returns
        exact ⟨rfl, B5⟩

set_option maxRecDepth 100000 in
theorem fnAheadValid_lifted (os : Os) (started : os.Started) (H : Type) (enc : TypeId × Value → H) :
    ReturnsInHanded {} Try.checked os 5 .any (Rows.fnAheadValidSpec.pre6 enc Try.prog Try.f5 Rows.fnAheadValidRow.domain false) (Rows.fnAheadValidSpec.post enc Try.prog Try.f5 false true false false) := by
  refine returnsInHanded_of_change (C := Try.checked) own_ started (by kernel_rfl) Try.func5
    (ChangeSpec.witness6 (enc := enc) (C := Try.checked) false ⟨#[], #[.slice none 0 0], []⟩ 8 (by kernel_rfl) (by kernel_rfl) (by kernel_rfl) (by kernel_rfl)) ?_
  intro W base args ds gs before hval0 hW hcnd _
  have hval : ∀ (j : Nat) t v, Try.f5.params[j]? = some t → args[j]? = some v → Value.okWide Try.prog W .any base t v := hval0
  have hW' := hW
  obtain ⟨p, q, hA0, hV, rfl, hfz, hnd⟩ := hW
  have hA : DataW.TrodAll enc Try.prog W 0 (fun _ => true) true Try.f5.params.toList args.toList ds p := hA0
  rw [Try.params5] at hA hval
  obtain ⟨v0, vs0, d0, ds0, p0, q0, hargs, rfl, rfl, h0, r0⟩ := trodAll_cons hA
  obtain ⟨rfl, rfl, rfl⟩ := trodAll_nil r0
  obtain rfl : args = #[v0] := by cases args; simp_all
  obtain ⟨rfl, rfl⟩ := trodVars_none hV
  obtain ⟨a0, len0, cap0, rfl⟩ := okWide_slice Try.underlying32 (hval 0 32 v0 rfl rfl)
  have k0 := h0
  have lt0 : ∀ x ∈ p0, x.block < W.heap.size := by obtain ⟨m, hm⟩ := k0; exact DataW.trod_lt m _ _ _ hm
  obtain ⟨z0, e0, lc0, cm0, w0, rd0⟩ := open_bytes h0
  clear hA0 hval0
  refine (aheadLaw_walk z0 a0 len0 cap0 W e0 lc0 cm0 w0 rd0).mono fun e W' ⟨he, bel⟩ => ?_
  subst he
  exact ⟨_, rfl, _, _, _, [], _, [], hW', trodAll_mk1 (shut_bool Try.underlying4 _), (trodAll_cons_mk (Below.trod laidOut_ (by kernel_rfl) (of_decide_eq_true (by kernel_rfl)) k0 bel lt0) trodAll_mk0), rfl, bel.frame _, fun h => by cases h⟩

theorem fnAheadValid_holds : Rows.FnAheadValidSaid :=
  OpenClaim.holds_of_wide 5 Try.f5 rfl rfl rfl rfl rfl rfl rfl ⟨rfl, rfl, rfl, rfl, rfl⟩ rfl rfl rfl rfl rfl (by kernel_rfl) Try.func5 (by kernel_rfl)
    (of_decide_eq_true (by kernel_rfl)) (by unfold Func.isWrapper; first | (rw [if_pos (by decide +kernel)]; kernel_rfl) | (rw [if_neg (by decide +kernel)]; exact ⟨rfl, rfl⟩))
    (fun os started H enc _ => fnAheadValid_lifted os started H enc)

end Go.Proofs.Ytkkdegdhokckmaa
