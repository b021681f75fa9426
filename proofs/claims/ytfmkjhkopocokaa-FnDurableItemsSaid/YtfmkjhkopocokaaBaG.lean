/-
  Barriers: the groups, as the program makes them.
-/
import Derived.Test.YtfmkjhkopocokaaGrA
namespace Go.Proofs.Ytfmkjhkopocokaa
open Go.ChangeShapes Go.WideShapes Go.ChangeAt Go.RowKit Go.BigFrame

set_option maxHeartbeats 4000000 in
theorem implGrp_any (l : List It) (A : Option Addr) (n c : Nat) (w : World) (hn : l.length = n) (hm : n ≤ 12) (hR : Rd w 2 A n (itC l)) :
    Calls Try.prog 39 #[.slice A n c] w (RGl w (grpN l n)) := by
  have HR := hid_ hR; clear hR
  have HN := hid_ hn; clear hn
  go_enter Try.func39, Try.ntmps39
  go_wp2
  go_loopw [3, 9] (fun v i wr => ∃ (k : Nat) (vs : List Value), k ≤ n ∧ i = .int .i64 k ∧ OwnGs wr w.heap.size v (grpN l k) vs ∧ Below w.heap.size w wr) (fun _ i _ => n - (intOf i).toNat)
  case atStart => exact ⟨0, [], Nat.zero_le _, rfl, OwnGs.empty _ _, Below.refl _ _⟩
  case round =>
    obtain ⟨k, vs, hk, rfl, ho, hb⟩ := hrel
    have HO := hid_ ho; clear ho
    have HB := hid_ hb; clear hb
    have hbs := HB.out.size
    by_cases hlt : k < n
    · obtain ⟨b, o, rfl, h0, h1⟩ := (HR.out.below HB.out).it k hlt HN.out
      have hlz : (k : Int) < (n : Int) := by omega
      have hlen : k < l.length := by rw [HN.out]; exact hlt
      rw [← bar_get l k hlen] at h1
      obtain ⟨nu, hnu⟩ : ∃ nu, l[k].number = nu := ⟨_, rfl⟩
      rw [hnu] at h0
      clear hnu hlen
      have hgl := grpN_length l k
      cases hnew : isNew l k
      · obtain ⟨a, g, e1, e2, e3, e4, e5⟩ := grpN_old hnew
        simp only [isNew, Bool.or_eq_false_iff, beq_eq_false_iff_ne] at hnew
        obtain ⟨⟨q0, q1⟩, q2⟩ := hnew
        have hk0 : ((k : Int) == 0) = false := by rw [beq_eq_false_iff_ne]; omega
        have h2 := (HR.out.below HB.out).itb (k - 1) (by omega) HN.out
        rw [q1] at h1
        rw [q2] at h2
        replace h2 : (wr.alloc (.cells #[.int .i64 nu, .bool false] 33)).cell? ⟨b, o + (k - 1) * 2 + 1, none⟩ = some (.bool false) := (World.cell?_alloc_past _ _ _ (cell_lt h2)).trans h2
        have hk1 : 1 ≤ k := by omega
        rw [e1] at HO hgl
        have ha : a.length + 1 ≤ k := by simpa using hgl
        have E2 := hid_ e2
        clear q0 q1 q2 e1 e2 e3 e5 hgl
        obtain ⟨u, x, rfl⟩ := HO.out.snoc
        obtain ⟨hx, bo, co, rfl, hB, hgo, hco, f0⟩ := HO.out.last
        obtain ⟨Ax, cx, rfl, _, _⟩ := own_shape hx
        have HX := hid_ hx; clear hx
        go_wp2_with (at_builtin; (with_reducible change wpList _ _ _ (⟨some 42, _, _, _, _, _⟩ :: _) _ _); refine wpList_push_at _ rfl _ _ 38 rfl w.heap.size 3 (.int .i64 0) 1 8 Try.underlying38 int_info rfl (by decide) (by decide) _ _ rfl rfl _ _ _ (HX.out.alloc _) rfl _ rfl (by simp) (by omega) (by simp; omega) ?_; intro v42 w42 ho42 hg42 hf42; obtain ⟨Av, cv, rfl, _, _⟩ := own_shape ho42; have hr42 := own_eq (n' := a.length + 1) (own_other (HO.out.alloc _).row (HX.out.alloc _) (by decide) hg42) (by simp) rfl; obtain ⟨_, c42, f42⟩ := own_store hr42 a.length (by omega); have hs42 := (hr42.lt bo rfl).2; have H42 := hid_ (OwnGs.setLast (g' := g ++ [(k : Int)]) (HO.out.alloc _) (own_eq ho42 (by simp) (by rw [intC_append]; rfl)) hg42 hf42); have HBL := hid_ ((below_push (HB.out.alloc hbs _) (HX.out.alloc _) hg42 (by simp; omega)).setCell (p := ⟨bo, a.length, none⟩) hB (.slice Av (g.length + 1) cv)); clear ho42 hg42 hf42 hr42)
        go_roundw
        case rel => exact ⟨k + 1, _, by omega, by go_num, by rw [E2.out]; exact H42.out, HBL.out⟩
        case measure => simp [intOf]; omega
      · have hge := hid_ (grpN_new hnew)
        have key : ((k : Int) == 0) = true ∨ (((k : Int) == 0) = false ∧ bar l k = true) ∨ (((k : Int) == 0) = false ∧ bar l k = false ∧ 1 ≤ k ∧ bar l (k - 1) = true) := by
          simp only [isNew, Bool.or_eq_true, beq_iff_eq] at hnew
          by_cases e0 : k = 0
          · left; rw [beq_iff_eq]; omega
          · right
            have hk0 : ((k : Int) == 0) = false := by rw [beq_eq_false_iff_ne]; omega
            cases q : bar l k
            · rw [q] at hnew
              refine .inr ⟨hk0, rfl, by omega, ?_⟩
              rcases hnew with (h | h) | h
              · exact absurd h e0
              · cases h
              · exact h
            · exact .inl ⟨hk0, rfl⟩
        clear hnew
        have HKEY := hid_ key
        obtain ⟨B0, hB0⟩ : ∃ B0, bar l k = B0 := ⟨_, rfl⟩
        rw [hB0] at key h1
        rcases key with k0 | ⟨k0, rfl⟩ | ⟨k0, rfl, k2, k3⟩
        rotate_right
        · have h2 := (HR.out.below HB.out).itb (k - 1) (by omega) HN.out
          rw [k3] at h2
          replace h2 : (wr.alloc (.cells #[.int .i64 nu, .bool false] 33)).cell? ⟨b, o + (k - 1) * 2 + 1, none⟩ = some (.bool true) := (World.cell?_alloc_past _ _ _ (cell_lt h2)).trans h2
          clear k3
          clear hB0 HKEY
          go_wp2_with (first
            | (at_builtin; (with_reducible change wpList _ _ _ (⟨some 30, _, _, _, _, _⟩ :: _) _ _); refine wpList_push_at _ rfl _ _ 35 rfl w.heap.size 38 (.slice none 0 0) 1 24 Try.underlying35 sl_info rfl (by decide) (by decide) _ _ rfl rfl _ _ _ (HO.out.alloc _).row rfl _ rfl (by simp) (by omega) (by simp; omega) ?_; intro v30 w30 ho30 hg30 hf30; have HO30 := hid_ (OwnGs.push_nil (HO.out.alloc _) ho30 hg30); have HB30 := hid_ (below_push (HB.out.alloc hbs _) (HO.out.alloc _).row hg30 (by simp; omega)); clear ho30 hg30 hf30; obtain ⟨_, bo, co, rfl, hB, hgo, hco, f0⟩ := HO30.out.last; have hbs30 := HB30.out.size)
            | (at_builtin; (with_reducible change wpList _ _ _ (⟨some 42, _, _, _, _, _⟩ :: _) _ _); refine wpList_push_at _ rfl _ _ 38 rfl w.heap.size 3 (.int .i64 0) 1 8 Try.underlying38 int_info rfl (by decide) (by decide) _ _ rfl rfl _ _ _ (World.ownsRow_nil _ _ _ _) rfl _ rfl (by simp) (by omega) hbs30 ?_; intro v42 w42 ho42 hg42 hf42; obtain ⟨Av, cv, rfl, _, _⟩ := own_shape ho42; have hr42 := own_eq (n' := (grpN l k).length + 1) (own_other HO30.out.row (World.ownsRow_nil _ w.heap.size 3 1) (by decide) hg42) (by simp) rfl; obtain ⟨_, c42, f42⟩ := own_store hr42 (grpN l k).length (by omega); have hs42 := (hr42.lt bo rfl).2; have H42 := hid_ (OwnGs.setLast (g' := [(k : Int)]) HO30.out (own_eq ho42 (by simp) rfl) hg42 hf42); have HBL := hid_ ((below_push HB30.out (World.ownsRow_nil _ w.heap.size 3 1) hg42 hbs30).setCell (p := ⟨bo, (grpN l k).length, none⟩) hB (.slice Av (0 + 1) cv)); clear ho42 hg42 hf42 hr42))
          go_roundw
          case rel => exact ⟨k + 1, _, by omega, by go_num, by rw [hge.out]; exact H42.out, HBL.out⟩
          case measure => simp [intOf]; omega
        all_goals
          clear hB0 HKEY
          go_wp2_with (first
            | (at_builtin; (with_reducible change wpList _ _ _ (⟨some 30, _, _, _, _, _⟩ :: _) _ _); refine wpList_push_at _ rfl _ _ 35 rfl w.heap.size 38 (.slice none 0 0) 1 24 Try.underlying35 sl_info rfl (by decide) (by decide) _ _ rfl rfl _ _ _ (HO.out.alloc _).row rfl _ rfl (by simp) (by omega) (by simp; omega) ?_; intro v30 w30 ho30 hg30 hf30; have HO30 := hid_ (OwnGs.push_nil (HO.out.alloc _) ho30 hg30); have HB30 := hid_ (below_push (HB.out.alloc hbs _) (HO.out.alloc _).row hg30 (by simp; omega)); clear ho30 hg30 hf30; obtain ⟨_, bo, co, rfl, hB, hgo, hco, f0⟩ := HO30.out.last; have hbs30 := HB30.out.size)
            | (at_builtin; (with_reducible change wpList _ _ _ (⟨some 42, _, _, _, _, _⟩ :: _) _ _); refine wpList_push_at _ rfl _ _ 38 rfl w.heap.size 3 (.int .i64 0) 1 8 Try.underlying38 int_info rfl (by decide) (by decide) _ _ rfl rfl _ _ _ (World.ownsRow_nil _ _ _ _) rfl _ rfl (by simp) (by omega) hbs30 ?_; intro v42 w42 ho42 hg42 hf42; obtain ⟨Av, cv, rfl, _, _⟩ := own_shape ho42; have hr42 := own_eq (n' := (grpN l k).length + 1) (own_other HO30.out.row (World.ownsRow_nil _ w.heap.size 3 1) (by decide) hg42) (by simp) rfl; obtain ⟨_, c42, f42⟩ := own_store hr42 (grpN l k).length (by omega); have hs42 := (hr42.lt bo rfl).2; have H42 := hid_ (OwnGs.setLast (g' := [(k : Int)]) HO30.out (own_eq ho42 (by simp) rfl) hg42 hf42); have HBL := hid_ ((below_push HB30.out (World.ownsRow_nil _ w.heap.size 3 1) hg42 hbs30).setCell (p := ⟨bo, (grpN l k).length, none⟩) hB (.slice Av (0 + 1) cv)); clear ho42 hg42 hf42 hr42))
          go_roundw
          case rel => exact ⟨k + 1, _, by omega, by go_num, by rw [hge.out]; exact H42.out, HBL.out⟩
          case measure => simp [intOf]; omega
    · obtain rfl : k = n := by omega
      obtain ⟨A', c', rfl, hc1, hc2⟩ := own_shape HO.out.row
      have HC2 := hid_ hc2; clear hc2
      go_wp2
      go_returns
      exact RGl.of_own HO.out HB.out rfl
end Go.Proofs.Ytfmkjhkopocokaa
