/-
  Readers that read ahead: the functions.
-/
import Derived.Test.YtkkdegdhokckmaaDraw
import Derived.Test.YtkkdegdhokckmaaAlive
namespace Go.Proofs.Ytkkdegdhokckmaa
open Go.ChangeShapes Go.WideShapes Go.ChangeAt Go.RowKit Go.BigFrame

def ahV (x y : Int) : Bool := inB x 0 100000 && inB y 0 32 && (bits .and .i64 y (y - 1) == 0)

theorem l1In_any (n lo hi : Int) (w : World) :
    Calls Try.prog 14 #[.int .i64 n, .int .i64 lo, .int .i64 hi] w fun e w' => e = .returned (.bool (inB n lo hi)) ∧ w = w' := by
  go_enter Try.func14, Try.ntmps14
  go_wp2
  all_goals (go_returns; refine ⟨ret_bool ?_, rfl⟩; rw [Bool.eq_iff_iff, inB_iff]; simp; omega)

theorem specAV_any (x y : Int) (w : World) : Calls Try.prog 6 #[.agg #[.int .i64 x, .int .i64 y]] w fun e w' => e = .returned (.bool (ahV x y)) ∧ Below w.heap.size w w' := by
  cases q1 : inB x 0 100000
  · have hV := hid_ (show ahV x y = false by unfold ahV; rw [q1]; rfl)
    go_enter Try.func6, Try.ntmps6
    go_wp2_with (go_at_call 14; refine (l1In_any _ _ _ _).mono ?_; rintro e w1 ⟨rfl, rfl⟩)
    go_returns
    exact ⟨ret_bool hV.out.symm, (Below.refl _ _).alloc (Nat.le_refl _) _⟩
  · cases q2 : inB y 0 32
    · have hV := hid_ (show ahV x y = false by unfold ahV; rw [q1, q2]; rfl)
      go_enter Try.func6, Try.ntmps6
      go_wp2_with (go_at_call 14; refine (l1In_any _ _ _ _).mono ?_; rintro e w1 ⟨rfl, rfl⟩)
      go_returns
      exact ⟨ret_bool hV.out.symm, (Below.refl _ _).alloc (Nat.le_refl _) _⟩
    · have hV := hid_ (show ahV x y = (bits .and .i64 y (y - 1) == 0) by unfold ahV; rw [q1, q2]; rfl)
      have hb := inB_iff.1 q2
      go_enter Try.func6, Try.ntmps6
      go_wp2_with (go_at_call 14; refine (l1In_any _ _ _ _).mono ?_; rintro e w1 ⟨rfl, rfl⟩)
      go_returns
      exact ⟨ret_bool hV.out.symm, (Below.refl _ _).alloc (Nat.le_refl _) _⟩

theorem implAV_any (x y : Int) (w : World) : Calls Try.prog 8 #[.agg #[.int .i64 x, .int .i64 y]] w fun e w' => e = .returned (.bool (ahV x y)) ∧ Below w.heap.size w w' := by
  cases q1 : inB x 0 100000
  · have hV := hid_ (show ahV x y = false by unfold ahV; rw [q1]; rfl)
    go_enter Try.func8, Try.ntmps8
    go_wp2_with (go_at_call 15; refine (iwithin_any _ _ _ _).mono ?_; rintro e w1 ⟨rfl, rfl⟩)
    go_returns
    exact ⟨ret_bool hV.out.symm, (Below.refl _ _).alloc (Nat.le_refl _) _⟩
  · cases q2 : inB y 0 32
    · have hV := hid_ (show ahV x y = false by unfold ahV; rw [q1, q2]; rfl)
      go_enter Try.func8, Try.ntmps8
      go_wp2_with (go_at_call 15; refine (iwithin_any _ _ _ _).mono ?_; rintro e w1 ⟨rfl, rfl⟩)
      go_returns
      exact ⟨ret_bool hV.out.symm, (Below.refl _ _).alloc (Nat.le_refl _) _⟩
    · have hV := hid_ (show ahV x y = (bits .and .i64 y (y - 1) == 0) by unfold ahV; rw [q1, q2]; rfl)
      have hb := inB_iff.1 q2
      go_enter Try.func8, Try.ntmps8
      go_wp2_with (go_at_call 15; refine (iwithin_any _ _ _ _).mono ?_; rintro e w1 ⟨rfl, rfl⟩)
      go_returns
      exact ⟨ret_bool hV.out.symm, (Below.refl _ _).alloc (Nat.le_refl _) _⟩

theorem toAhead_any (x y : Int) (w : World) : Calls Try.prog 7 #[.agg #[.int .i64 x, .int .i64 y]] w fun e w' => e = .returned (.agg #[.int .i64 x, .int .i64 y]) ∧ Below w.heap.size w w' := by
  go_enter Try.func7, Try.ntmps7
  go_wp2
  go_returns
  exact ⟨rfl, by go_grown⟩

theorem eqAhead_any (x y x' y' : Int) (w : World) : Calls Try.prog 11 #[.agg #[.int .i64 x, .int .i64 y], .agg #[.int .i64 x', .int .i64 y']] w fun e w' => e = .returned (.bool (decide (x = x' ∧ y = y'))) ∧ Below w.heap.size w w' := by
  go_enter Try.func11, Try.ntmps11
  go_wp2
  all_goals (go_returns; refine ⟨ret_bool ?_, by go_grown⟩; rw [Bool.eq_iff_iff]; simp_all)

/-- what ReadNext answers: next, window -/
def rnN (x y at_ count : Int) : Int := if (ahV x y && inB at_ 0 100000 && inB count 1 200) = true then min 100000 (at_ + count) else 0
def rnW (x y at_ count : Int) : Int := if (ahV x y && inB at_ 0 100000 && inB count 1 200) = true then (if at_ = x then max 1 (min 32 (2 * y)) else 0) else 0

theorem clip_any (n lo hi : Int) (w : World) : Calls Try.prog 16 #[.int .i64 n, .int .i64 lo, .int .i64 hi] w fun e w' => e = .returned (.int .i64 (max lo (min hi n))) ∧ w = w' := by
  go_enter Try.func16, Try.ntmps16
  go_wp2
  all_goals (go_returns; refine ⟨ret_int ?_, rfl⟩; omega)

theorem ahV_bounds (x y : Int) (h : ahV x y = true) : (0 ≤ x ∧ x ≤ 100000) ∧ 0 ≤ y ∧ y ≤ 32 := by
  unfold ahV at h
  simp only [Bool.and_eq_true, inB_iff] at h
  exact h.1

theorem rn_cases (x y at_ count : Int) (hok : ¬ (ahV x y && inB at_ 0 100000 && inB count 1 200) = true) : ahV x y = false ∨ (ahV x y = true ∧ inB at_ 0 100000 = false) ∨ (ahV x y = true ∧ inB at_ 0 100000 = true ∧ inB count 1 200 = false) := by
  cases q0 : ahV x y <;> cases q1 : inB at_ 0 100000 <;> cases q2 : inB count 1 200 <;> simp_all

def RetAh (w : World) (a b c : Int) (e : Ending) (w' : World) : Prop := e = .returned (.tuple #[.agg #[.int .i64 a, .int .i64 b], .int .i64 c]) ∧ Below w.heap.size w w'

theorem RetAh.mk_ {w w' : World} {a b c a' b' c' : Int} (ha : a = a') (hb : b = b') (hc : c = c') (h : Below w.heap.size w w') : RetAh w a' b' c' (.returned (.tuple #[.agg #[.int .i64 a, .int .i64 b], .int .i64 c])) w' := by
  subst ha; subst hb; subst hc; exact ⟨rfl, h⟩

set_option maxHeartbeats 1000000 in
theorem specRN_any (x y at_ count : Int) (w : World) : Calls Try.prog 9 #[.agg #[.int .i64 x, .int .i64 y], .int .i64 at_, .int .i64 count] w (RetAh w (rnN x y at_ count) (rnW x y at_ count) (rnW x y at_ count)) := by
  by_cases hok : (ahV x y && inB at_ 0 100000 && inB count 1 200) = true
  · have hN := hid_ (show rnN x y at_ count = min 100000 (at_ + count) from if_pos hok)
    have hW := hid_ (show rnW x y at_ count = (if at_ = x then max 1 (min 32 (2 * y)) else 0) from if_pos hok)
    simp only [Bool.and_eq_true] at hok
    obtain ⟨⟨q0, q1⟩, q2⟩ := hok
    have b0 := ahV_bounds x y q0
    have b1 := inB_iff.1 q1
    have b2 := inB_iff.1 q2
    cases hx : (at_ == x)
    · have hW2 := hid_ (show rnW x y at_ count = 0 by rw [hW.out, if_neg (by simpa using hx)])
      clear hW
      by_cases hmin : at_ + count < 100000
      · go_enter Try.func9, Try.ntmps9
        go_wp2_with (first | (go_at_call 6; refine (specAV_any x y _).mono ?_; rintro e w1 ⟨rfl, hb1⟩; obtain ⟨hcw, hfw⟩ := bcell hb1; have hz := hb1.size; simp only [World.size_alloc] at hcw hfw hz) | (go_at_call 14; refine (l1In_any _ _ _ _).mono ?_; rintro e w1 ⟨rfl, rfl⟩) | (go_at_call 16; refine (clip_any _ _ _ _).mono ?_; rintro e w1 ⟨rfl, rfl⟩))
        exact bodyPost_ret (v := .tuple #[.agg #[.int .i64 (at_ + count), .int .i64 0], .int .i64 0]) (by simp [results, Try.results9, go_sem, hcw]) rfl (RetAh.mk_ (by rw [hN.out]; omega) hW2.out.symm hW2.out.symm ((((((Below.refl _ _).alloc (Nat.le_refl _) _).alloc (by simp) _).trans (hb1.mono (by simp; omega))).setCell (by simp) _).setCell (by simp) _))
      · go_enter Try.func9, Try.ntmps9
        go_wp2_with (first | (go_at_call 6; refine (specAV_any x y _).mono ?_; rintro e w1 ⟨rfl, hb1⟩; obtain ⟨hcw, hfw⟩ := bcell hb1; have hz := hb1.size; simp only [World.size_alloc] at hcw hfw hz) | (go_at_call 14; refine (l1In_any _ _ _ _).mono ?_; rintro e w1 ⟨rfl, rfl⟩) | (go_at_call 16; refine (clip_any _ _ _ _).mono ?_; rintro e w1 ⟨rfl, rfl⟩))
        exact bodyPost_ret (v := .tuple #[.agg #[.int .i64 100000, .int .i64 0], .int .i64 0]) (by simp [results, Try.results9, go_sem, hcw]) rfl (RetAh.mk_ (by rw [hN.out]; omega) hW2.out.symm hW2.out.symm ((((((Below.refl _ _).alloc (Nat.le_refl _) _).alloc (by simp) _).trans (hb1.mono (by simp; omega))).setCell (by simp) _).setCell (by simp) _))
    · have hW2 := hid_ (show rnW x y at_ count = max 1 (min 32 (2 * y)) by rw [hW.out, if_pos (by simpa using hx)])
      clear hW
      by_cases hmin : at_ + count < 100000
      · go_enter Try.func9, Try.ntmps9
        go_wp2_with (first | (go_at_call 6; refine (specAV_any x y _).mono ?_; rintro e w1 ⟨rfl, hb1⟩; obtain ⟨hcw, hfw⟩ := bcell hb1; have hz := hb1.size; simp only [World.size_alloc] at hcw hfw hz) | (go_at_call 14; refine (l1In_any _ _ _ _).mono ?_; rintro e w1 ⟨rfl, rfl⟩) | (go_at_call 16; refine (clip_any _ _ _ _).mono ?_; rintro e w1 ⟨rfl, rfl⟩))
        exact bodyPost_ret (v := .tuple #[.agg #[.int .i64 (at_ + count), .int .i64 (max 1 (min 32 (2 * y)))], .int .i64 (max 1 (min 32 (2 * y)))]) (by simp [results, Try.results9, go_sem, hcw]) rfl (RetAh.mk_ (by rw [hN.out]; omega) hW2.out.symm hW2.out.symm ((((((Below.refl _ _).alloc (Nat.le_refl _) _).alloc (by simp) _).trans (hb1.mono (by simp; omega))).setCell (by simp) _).setCell (by simp) _))
      · go_enter Try.func9, Try.ntmps9
        go_wp2_with (first | (go_at_call 6; refine (specAV_any x y _).mono ?_; rintro e w1 ⟨rfl, hb1⟩; obtain ⟨hcw, hfw⟩ := bcell hb1; have hz := hb1.size; simp only [World.size_alloc] at hcw hfw hz) | (go_at_call 14; refine (l1In_any _ _ _ _).mono ?_; rintro e w1 ⟨rfl, rfl⟩) | (go_at_call 16; refine (clip_any _ _ _ _).mono ?_; rintro e w1 ⟨rfl, rfl⟩))
        exact bodyPost_ret (v := .tuple #[.agg #[.int .i64 100000, .int .i64 (max 1 (min 32 (2 * y)))], .int .i64 (max 1 (min 32 (2 * y)))]) (by simp [results, Try.results9, go_sem, hcw]) rfl (RetAh.mk_ (by rw [hN.out]; omega) hW2.out.symm hW2.out.symm ((((((Below.refl _ _).alloc (Nat.le_refl _) _).alloc (by simp) _).trans (hb1.mono (by simp; omega))).setCell (by simp) _).setCell (by simp) _))
  · have hN := hid_ (show rnN x y at_ count = 0 from if_neg hok)
    have hW := hid_ (show rnW x y at_ count = 0 from if_neg hok)
    rcases rn_cases x y at_ count hok with q0 | ⟨q0, q1⟩ | ⟨q0, q1, q2⟩
    all_goals
      clear hok
      go_enter Try.func9, Try.ntmps9
      go_wp2_with (first | (go_at_call 6; refine (specAV_any x y _).mono ?_; rintro e w1 ⟨rfl, hb1⟩; obtain ⟨hcw, hfw⟩ := bcell hb1; have hz := hb1.size; simp only [World.size_alloc] at hcw hfw hz) | (go_at_call 14; refine (l1In_any _ _ _ _).mono ?_; rintro e w1 ⟨rfl, rfl⟩) | (go_at_call 16; refine (clip_any _ _ _ _).mono ?_; rintro e w1 ⟨rfl, rfl⟩))
      exact bodyPost_ret (v := .tuple #[.agg #[.int .i64 0, .int .i64 0], .int .i64 0]) (by simp [results, Try.results9, go_sem, hcw]) rfl (RetAh.mk_ hN.out.symm hW.out.symm hW.out.symm ((((((Below.refl _ _).alloc (Nat.le_refl _) _).alloc (by simp) _).trans (hb1.mono (by simp; omega))).setCell (by simp) _).setCell (by simp) _))

set_option maxHeartbeats 1000000 in
theorem readNext_any (x y at_ count X Y : Int) (w : World) (b0 : 0 ≤ y ∧ y ≤ 32) (b1 : 0 ≤ at_ ∧ at_ ≤ 100000) (b2 : 1 ≤ count ∧ count ≤ 200) (hX : X = min 100000 (at_ + count)) (hY : Y = (if at_ = x then max 1 (min 32 (2 * y)) else 0)) :
    Calls Try.prog 17 #[.agg #[.int .i64 x, .int .i64 y], .int .i64 at_, .int .i64 count] w fun e w' => e = .returned (.agg #[.int .i64 X, .int .i64 Y]) ∧ Below w.heap.size w w' := by
  have fin : ∀ (a b : Int) (w' : World), a = X → b = Y → Below w.heap.size w w' → (Ending.returned (.agg #[.int .i64 a, .int .i64 b]) = .returned (.agg #[.int .i64 X, .int .i64 Y]) ∧ Below w.heap.size w w') := by
    intro a b w' h1 h2 h3; rw [h1, h2]; exact ⟨rfl, h3⟩
  have FIN := hid_ fin; clear fin
  have HX := hid_ hX; clear hX
  have hsp : (at_ == x) = true ∨ (at_ == x) = false := by cases (at_ == x) <;> simp
  rcases hsp with hx | hx
  · have hY2 : Y = max 1 (min 32 (2 * y)) := by rw [hY, if_pos (by simpa using hx)]
    have HY := hid_ hY2; clear hY2 hY
    go_enter Try.func17, Try.ntmps17
    go_wp2
    all_goals
      go_returns
      refine FIN.out _ _ _ ?_ ?_ (by go_grown)
      · rw [HX.out]; omega
      · rw [HY.out]; omega
  · have hY2 : Y = 0 := by rw [hY, if_neg (by simpa using hx)]
    have HY := hid_ hY2; clear hY2 hY
    go_enter Try.func17, Try.ntmps17
    go_wp2
    all_goals
      go_returns
      refine FIN.out _ _ _ ?_ ?_ (by go_grown)
      · rw [HX.out]; omega
      · rw [HY.out]

set_option maxHeartbeats 1000000 in
theorem implRN_any (x y at_ count : Int) (w : World) : Calls Try.prog 10 #[.agg #[.int .i64 x, .int .i64 y], .int .i64 at_, .int .i64 count] w (RetAh w (rnN x y at_ count) (rnW x y at_ count) (rnW x y at_ count)) := by
  by_cases hok : (ahV x y && inB at_ 0 100000 && inB count 1 200) = true
  · have hN := hid_ (show rnN x y at_ count = min 100000 (at_ + count) from if_pos hok)
    have hW := hid_ (show rnW x y at_ count = (if at_ = x then max 1 (min 32 (2 * y)) else 0) from if_pos hok)
    simp only [Bool.and_eq_true] at hok
    obtain ⟨⟨q0, q1⟩, q2⟩ := hok
    have b0 := ahV_bounds x y q0
    have b1 := inB_iff.1 q1
    have b2 := inB_iff.1 q2
    have HX : Hid (rnN x y at_ count = min 100000 (at_ + count)) := hN
    have HY := hW
    obtain ⟨X, hX⟩ : ∃ X, X = rnN x y at_ count := ⟨_, rfl⟩
    obtain ⟨Y, hY⟩ : ∃ Y, Y = rnW x y at_ count := ⟨_, rfl⟩
    rw [← hX, ← hY]
    have HX := hid_ (hX.trans hN.out); clear hX hN
    have HY := hid_ (hY.trans hW.out); clear hY hW
    go_enter Try.func10, Try.ntmps10
    go_wp2_with (first | (go_at_call 8; refine (implAV_any x y _).mono ?_; rintro e w1 ⟨rfl, hb1⟩; obtain ⟨hcw, hfw⟩ := bcell hb1; have hz := hb1.size; simp only [World.size_alloc] at hcw hfw hz) | (go_at_call 15; refine (iwithin_any _ _ _ _).mono ?_; rintro e w1 ⟨rfl, rfl⟩) | (go_at_call 17; refine (readNext_any x y at_ count X Y _ b0.2 b1 b2 HX.out HY.out).mono ?_; rintro e w2 ⟨rfl, hb2⟩; obtain ⟨hcw2, hfw2⟩ := bcell hb2; have hz2 := hb2.size))
    have hlt : w.heap.size + 1 < w1.heap.size := by omega
    have hlt2 : w.heap.size + 1 < w2.heap.size := by omega
    have c0 : (w2.alloc (.cells #[.int .i64 X, .int .i64 Y] 25)).cell? ⟨w.heap.size + 1, 0, none⟩ = some (.int .i64 0) := by
      rw [World.cell?_alloc_past _ _ _ hlt2, hcw2 _ _ hlt, hcw _ _ (by omega)]; simp [go_sem]
    have c1 : (w2.alloc (.cells #[.int .i64 X, .int .i64 Y] 25)).cell? ⟨w.heap.size + 1, 1, none⟩ = some (.int .i64 0) := by
      rw [World.cell?_alloc_past _ _ _ hlt2, hcw2 _ _ hlt, hcw _ _ (by omega)]; simp [go_sem]
    have f0 : ∀ o, (w2.alloc (.cells #[.int .i64 X, .int .i64 Y] 25)).frozen? ⟨w.heap.size + 1, o, none⟩ = false := by
      intro o
      rw [World.frozen?_alloc_past _ _ _ hlt2, hfw2 _ _ hlt, hfw _ _ (by omega)]; simp [go_sem]
    have hBB : Below w.heap.size w (w2.alloc (.cells #[.int .i64 X, .int .i64 Y] 25)) := ((((((Below.refl _ _).alloc (Nat.le_refl _) _).alloc (by simp) _).trans (hb1.mono (by simp; omega))).trans (hb2.mono (by omega))).alloc (by omega) _)
    have d0 : w2.cell? ⟨w.heap.size + 1, 0, none⟩ = some (.int .i64 0) := by rw [← World.cell?_alloc_past _ _ _ hlt2]; exact c0
    have d1 : w2.cell? ⟨w.heap.size + 1, 1, none⟩ = some (.int .i64 0) := by rw [← World.cell?_alloc_past _ _ _ hlt2]; exact c1
    go_region
    all_goals
      go_wp2
      exact bodyPost_ret (v := .tuple #[.agg #[.int .i64 X, .int .i64 Y], .int .i64 Y]) (by simp [results, Try.results10, go_sem, d0, d1, hlt2, World.cell?_alloc_past]) rfl (RetAh.mk_ rfl rfl rfl (by go_grown; exact ((((Below.refl _ _).alloc (Nat.le_refl _) _).alloc (by simp) _).trans (hb1.mono (by simp; omega))).trans (hb2.mono (by omega))))
  · have hN := hid_ (show rnN x y at_ count = 0 from if_neg hok)
    have hW := hid_ (show rnW x y at_ count = 0 from if_neg hok)
    rcases rn_cases x y at_ count hok with q0 | ⟨q0, q1⟩ | ⟨q0, q1, q2⟩
    all_goals
      clear hok
      go_enter Try.func10, Try.ntmps10
      go_wp2_with (first | (go_at_call 8; refine (implAV_any x y _).mono ?_; rintro e w1 ⟨rfl, hb1⟩; obtain ⟨hcw, hfw⟩ := bcell hb1; have hz := hb1.size; simp only [World.size_alloc] at hcw hfw hz) | (go_at_call 15; refine (iwithin_any _ _ _ _).mono ?_; rintro e w1 ⟨rfl, rfl⟩))
      exact bodyPost_ret (v := .tuple #[.agg #[.int .i64 0, .int .i64 0], .int .i64 0]) (by simp [results, Try.results10, go_sem, hcw]) rfl (RetAh.mk_ hN.out.symm hW.out.symm hW.out.symm ((((((Below.refl _ _).alloc (Nat.le_refl _) _).alloc (by simp) _).trans (hb1.mono (by simp; omega))).setCell (by simp) _).setCell (by simp) _))
end Go.Proofs.Ytkkdegdhokckmaa
