/-
  Barriers: the groups, as the reference makes them; the number of orders.
-/
import Derived.Test.YtfmkjhkopocokaaBaG
namespace Go.Proofs.Ytfmkjhkopocokaa
open Go.ChangeShapes Go.WideShapes Go.ChangeAt Go.RowKit Go.BigFrame

def grpR (l : List It) : List (List Int) := if l.length ≤ 12 then grpN l l.length else []
theorem grpR_ok {l : List It} (h : l.length ≤ 12) : grpR l = grpN l l.length := if_pos h
theorem grpR_no {l : List It} (h : 12 < l.length) : grpR l = [] := if_neg (by omega)
theorem grpR_length (l : List It) : (grpR l).length ≤ 12 := by
  unfold grpR
  split
  · rename_i h; exact Nat.le_trans (grpN_length l _) h
  · simp
theorem grpR_mem (l : List It) : ∀ g ∈ grpR l, g.length ≤ 12 := by
  intro g hg
  unfold grpR at hg
  split at hg
  · rename_i h; exact Nat.le_trans (grpN_mem l _ g hg) h
  · simp at hg
theorem OwnGs.made (w : World) : OwnGs (w.alloc (.cells #[] 38)) w.heap.size (.slice (some ⟨w.heap.size, 0, none⟩) 0 0) [] [] :=
  ⟨rfl, own_empty w 38 1, fun j h => absurd h (by simp), fun i j h => absurd h (by simp)⟩
theorem own_one (w : World) (B : Nat) (k : Int) (hB : B ≤ w.heap.size) : (w.alloc (.cells #[.int .i64 k] 3)).ownsRow B 3 1 (.slice (some ⟨w.heap.size, 0, none⟩) 1 1) 1 (intC [k]) :=
  ⟨rfl, .inr ⟨w.heap.size, 1, #[.int .i64 k], rfl, hB, heap_alloc_new w _, Nat.le_refl _, by simp [maxLen], rfl, rfl⟩⟩

set_option maxHeartbeats 4000000 in
theorem specGrp_any (l : List It) (A : Option Addr) (n c : Nat) (w : World) (hn : l.length = n) (hm : n ≤ 4194304) (hR : Rd w 2 A n (itC l)) :
    Calls Try.prog 22 #[.slice A n c] w (RGl w (grpR l)) := by
  have HR := hid_ hR; clear hR
  have HN := hid_ hn; clear hn
  by_cases hbig : (12 : Int) < (n : Int)
  · have HG := hid_ (grpR_no (l := l) (by rw [HN.out]; omega))
    go_enter Try.func22, Try.ntmps22
    go_wp2
    go_returns
    exact RGl.of_own (OwnGs.made w) ((Below.refl _ _).alloc (Nat.le_refl _) _) HG.out.symm
  have HG := hid_ (show grpR l = grpN l n by rw [grpR_ok (by rw [HN.out]; omega), HN.out])
  have hm12 : n ≤ 12 := by omega
  go_enter Try.func22, Try.ntmps22
  go_wp2
  go_loopw [3, 4] (fun v i wr => ∃ (k : Nat) (vs : List Value), k ≤ n ∧ i = .int .i64 k ∧ OwnGs wr w.heap.size v (grpN l k) vs ∧ Below w.heap.size w wr) (fun _ i _ => n - (intOf i).toNat)
  case atStart => exact ⟨0, [], Nat.zero_le _, rfl, OwnGs.made w, (Below.refl _ _).alloc (Nat.le_refl _) _⟩
  case round =>
    obtain ⟨k, vs, hk, rfl, ho, hb⟩ := hrel
    have HO := hid_ ho; clear ho
    have HB := hid_ hb; clear hb
    have hbs := HB.out.size
    obtain ⟨A3, c3, rfl, hc3, hcm3⟩ := own_shape HO.out.row
    have HC3 := hid_ hcm3; clear hcm3
    by_cases hlt : k < n
    · obtain ⟨b, o, rfl, h0, h1⟩ := (HR.out.below HB.out).it k hlt HN.out
      have hlz : (k : Int) < (n : Int) := by omega
      have hlen : k < l.length := by rw [HN.out]; exact hlt
      rw [← bar_get l k hlen] at h1
      clear hlen h0
      have hgl := grpN_length l k
      cases hnew : isNew l k
      · obtain ⟨a, g, e1, e2, e3, e4, e5⟩ := grpN_old hnew
        simp only [isNew, Bool.or_eq_false_iff, beq_eq_false_iff_ne] at hnew
        obtain ⟨⟨q0, q1⟩, q2⟩ := hnew
        have hk0 : ((k : Int) == 0) = false := by rw [beq_eq_false_iff_ne]; omega
        have h2 := (HR.out.below HB.out).itb (k - 1) (by omega) HN.out
        rw [q1] at h1
        rw [q2] at h2
        have hk1 : 1 ≤ k := by omega
        rw [e1] at HO hgl hc3 ⊢
        have ha : a.length + 1 ≤ k := by simpa using hgl
        have E2 := hid_ e2
        clear q0 q1 q2 e2 e3 e5 hgl hc3
        rw [show (a ++ [g]).length = a.length + 1 by simp] at HO ⊢
        clear e1
        obtain ⟨u, x, rfl⟩ := HO.out.snoc
        obtain ⟨hx, bo, co, e, hB, hgo, hco, f0⟩ := HO.out.last
        injection e with e1 _ e2
        subst e1; subst e2
        obtain ⟨Ax, cx, rfl, _, _⟩ := own_shape hx
        have HX := hid_ hx; clear hx
        go_wp2_with (at_builtin; (with_reducible change wpList _ _ _ (⟨some 51, _, _, _, _, _⟩ :: _) _ _); refine wpList_push_at _ rfl _ _ 38 rfl w.heap.size 3 (.int .i64 0) 1 8 Try.underlying38 int_info rfl (by decide) (by decide) _ _ rfl rfl _ _ _ HX.out rfl _ rfl (by simp) (by omega) hbs ?_; intro v51 w51 ho51 hg51 hf51; obtain ⟨Av, cv, rfl, _, _⟩ := own_shape ho51; have hr51 := own_eq (n' := a.length + 1) (own_other HO.out.row HX.out (by decide) hg51) (by simp) rfl; obtain ⟨_, c51, f51⟩ := own_store hr51 a.length (by omega); have hs51 := (hr51.lt bo rfl).2; have H51 := hid_ (OwnGs.setLast (g' := g ++ [(k : Int)]) HO.out (own_eq ho51 (by simp) (by rw [intC_append]; rfl)) hg51 hf51); have HBL := hid_ ((below_push HB.out HX.out hg51 hbs).setCell (p := ⟨bo, a.length, none⟩) hB (.slice Av (g.length + 1) cv)); clear ho51 hg51 hf51 hr51)
        go_roundw
        case rel => exact ⟨k + 1, _, by omega, by go_num, by rw [E2.out]; exact H51.out, HBL.out⟩
        case measure => simp [intOf]; omega
      · have hge := hid_ (grpN_new hnew)
        have key : bar l k = true ∨ (bar l k = false ∧ ((k : Int) == 0) = true) ∨ (bar l k = false ∧ ((k : Int) == 0) = false ∧ 1 ≤ k ∧ bar l (k - 1) = true) := by
          simp only [isNew, Bool.or_eq_true, beq_iff_eq] at hnew
          cases q : bar l k
          · right
            rw [q] at hnew
            by_cases e0 : k = 0
            · left; exact ⟨rfl, by rw [beq_iff_eq]; omega⟩
            · right
              refine ⟨rfl, by rw [beq_eq_false_iff_ne]; omega, by omega, ?_⟩
              rcases hnew with (h | h) | h
              · exact absurd h e0
              · cases h
              · exact h
          · exact .inl rfl
        clear hnew
        obtain ⟨B0, hB0⟩ : ∃ B0, bar l k = B0 := ⟨_, rfl⟩
        rw [hB0] at key h1
        clear hB0
        have h2 : 1 ≤ k → wr.cell? ⟨b, o + (k - 1) * 2 + 1, none⟩ = some (.bool (bar l (k - 1))) := fun _ => (HR.out.below HB.out).itb (k - 1) (by omega) HN.out
        obtain ⟨B1, hB1⟩ : ∃ B1, bar l (k - 1) = B1 := ⟨_, rfl⟩
        rw [hB1] at key h2
        clear hB1
        have hap := hid_ (show ∀ b', (Value.slice (some ⟨wr.heap.size, 0, none⟩) 1 1).ownBlock = some b' → ∀ j (hj : j < vs.length), vs[j].ownBlock ≠ some b' from fun b' hb' j hj he => by
          have h1 : wr.heap.size = b' := by simpa [Value.ownBlock] using hb'
          have h2 := ((HO.out.inner j (by rw [← HO.out.len]; exact hj) hj).lt b' he).2
          omega)
        rcases key with rfl | ⟨rfl, k1⟩ | ⟨rfl, k1, k2, rfl⟩
        rotate_right
        · replace h2 := h2 k2
          go_wp2_with (at_builtin; (with_reducible change wpList _ _ _ (⟨some 40, _, _, _, _, _⟩ :: _) _ _); refine wpList_push_at _ rfl _ _ 35 rfl w.heap.size 38 (.slice none 0 0) 1 24 Try.underlying35 sl_info rfl (by decide) (by decide) _ _ rfl rfl _ _ _ (HO.out.alloc _).row rfl _ rfl (by simp) (by omega) (by simp; omega) ?_; intro v40 w40 ho40 hg40 hf40; have HX40 := own_other (own_one wr w.heap.size k hbs) (HO.out.alloc _).row (by decide) hg40; have H40 := hid_ (OwnGs.push (g := [(k : Int)]) (HO.out.alloc _) ho40 hg40 HX40 hap.out); have HBL := hid_ (below_push (HB.out.alloc hbs _) (HO.out.alloc _).row hg40 (by simp; omega)); clear ho40 hg40 hf40 HX40)
          go_roundw
          case rel => exact ⟨k + 1, _, by omega, by go_num, by rw [hge.out]; exact H40.out, HBL.out⟩
          case measure => simp [intOf]; omega
        all_goals
          clear h2
          go_wp2_with (at_builtin; (with_reducible change wpList _ _ _ (⟨some 40, _, _, _, _, _⟩ :: _) _ _); refine wpList_push_at _ rfl _ _ 35 rfl w.heap.size 38 (.slice none 0 0) 1 24 Try.underlying35 sl_info rfl (by decide) (by decide) _ _ rfl rfl _ _ _ (HO.out.alloc _).row rfl _ rfl (by simp) (by omega) (by simp; omega) ?_; intro v40 w40 ho40 hg40 hf40; have HX40 := own_other (own_one wr w.heap.size k hbs) (HO.out.alloc _).row (by decide) hg40; have H40 := hid_ (OwnGs.push (g := [(k : Int)]) (HO.out.alloc _) ho40 hg40 HX40 hap.out); have HBL := hid_ (below_push (HB.out.alloc hbs _) (HO.out.alloc _).row hg40 (by simp; omega)); clear ho40 hg40 hf40 HX40)
          go_roundw
          case rel => exact ⟨k + 1, _, by omega, by go_num, by rw [hge.out]; exact H40.out, HBL.out⟩
          case measure => simp [intOf]; omega
    · obtain rfl : k = n := by omega
      go_wp2
      go_returns
      exact RGl.of_own HO.out HB.out HG.out.symm

theorem implGR_any (l : List It) (A : Option Addr) (n c : Nat) (w : World) (hn : l.length = n) (hm : n ≤ 4194304) (hR : Rd w 2 A n (itC l)) :
    Calls Try.prog 20 #[.slice A n c] w (RGl w (grpR l)) := by
  have HR := hid_ hR; clear hR
  have HN := hid_ hn; clear hn
  by_cases hbig : (12 : Int) < (n : Int)
  · have HG := hid_ (grpR_no (l := l) (by rw [HN.out]; omega))
    go_enter Try.func20, Try.ntmps20
    go_wp2
    go_returns
    exact RGl.of_own (OwnGs.empty _ _) (Below.refl _ _) HG.out.symm
  have HG := hid_ (show grpR l = grpN l n by rw [grpR_ok (by rw [HN.out]; omega), HN.out])
  have hm12 : n ≤ 12 := by omega
  go_enter Try.func20, Try.ntmps20
  go_wp2_with fail
  refine (implGrp_any l A n c _ HN.out hm12 HR.out).mono ?_
  rw [← HG.out]
  rintro e w1 ⟨A1, c1, vs, rfl, h1, h2, ho, hb⟩
  have HH := hid_ (And.intro h1 (And.intro h2 (And.intro ho hb))); clear h1 h2 ho hb
  go_wp2
  go_returns
  exact ⟨A1, c1, vs, rfl, HH.out⟩
end Go.Proofs.Ytfmkjhkopocokaa
