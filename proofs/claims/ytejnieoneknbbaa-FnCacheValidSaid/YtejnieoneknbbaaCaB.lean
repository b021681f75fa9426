/-
  Caches: marks, copies of lists, validity.
-/
import Derived.Test.YtejnieoneknbbaaCaA
import Derived.Test.YtejnieoneknbbaaApp
namespace Go.Proofs.Ytejnieoneknbbaa
open Go.ChangeShapes Go.WideShapes Go.ChangeAt Go.RowKit Go.BigFrame

theorem markCache_any (A : Option Addr) (n c B : Nat) (m K : Int) (xs : List Value) (w : World) (hm : n ≤ 4194304) (h0 : 0 ≤ K) (hk : K ≤ 1099511627776) (hR : w.ownsRow B 38 3 (.slice A n c) n xs) :
    Calls Try.prog 28 #[.agg #[.slice A n c, .int .i64 m], .int .i64 K] w fun e w' => e = .returned (.int .i64 (K + n * 3)) ∧ w'.ownsRow B 38 3 (.slice A n c) n (lnC (marksLn K n)) ∧ w.grownBy w' (Value.ownBlock (.slice A n c)) := by
  have HR := hid_ hR; clear hR
  go_enter Try.func28, Try.ntmps28
  go_wp2_with fail
  refine (markLineS_any A n c B K xs _ hm h0 hk (HR.out.alloc _)).mono ?_
  rintro e w1 ⟨rfl, ho, hg⟩
  have HO := hid_ ho; clear ho
  have HG := hid_ hg; clear hg
  go_wp2
  go_returns
  exact ⟨rfl, HO.out, gb_trans (World.grownBy_alloc w _ _) HG.out⟩
theorem heldCache_any (A : Option Addr) (n c : Nat) (m K : Int) (w : World) (hm : n ≤ 4194304) (h0 : 0 ≤ K) (hk : K ≤ 1099511627776) (hR : Rd w 3 A n (lnC (marksLn K n))) :
    Calls Try.prog 41 #[.agg #[.slice A n c, .int .i64 m], .int .i64 K] w fun e w' => e = .returned (.int .i64 (K + n * 3)) ∧ Below w.heap.size w w' := by
  have HR := hid_ hR; clear hR
  go_enter Try.func41, Try.ntmps41
  go_wp2_with fail
  refine (heldLineS_any A n c K _ hm h0 hk (HR.out.alloc _)).mono ?_
  rintro e w1 ⟨rfl, rfl⟩
  have hnn : ¬ (K + (n : Int) * 3 < 0) := by omega
  go_wp2
  go_returns
  exact ⟨rfl, (Below.refl _ _).alloc (Nat.le_refl _) _⟩

theorem run_eql_nil_in (w : World) (A : Option Addr) (n c : Nat) : (binOp .eql 40 (.slice A n c) (.slice none 0 0)).run Try.prog w = .ok (.bool A.isNone) w := by
  cases A <;> kernel_rfl
theorem cloneI_any (l : List Int) (A : Option Addr) (n c : Nat) (w : World) (hn : l.length = n) (hm : n ≤ 1048576) (hR : Rd w 1 A n (intC l)) :
    Calls Try.prog 55 #[.slice A n c] w (RSl w 3 1 n (intC l)) := by
  have HR := hid_ hR; clear hR
  have HN := hid_ hn; clear hn
  have hq := fun w => run_eql_nil_in w A n c
  cases A with
  | none =>
    have hz : n = 0 := by
      rcases Nat.eq_zero_or_pos n with h | h
      · exact h
      · obtain ⟨b, o, e, _⟩ := HR.out.2 h; cases e
    subst hz
    have hl : l = [] := List.eq_nil_of_length_eq_zero HN.out
    have HL := hid_ hl; clear hl
    go_enter Try.func55, Try.ntmps55
    go_wp2
    go_returns
    exact RSl.of_own' (World.ownsRow_nil _ _ _ _) (Below.refl _ _) rfl (by rw [HL.out]; rfl)
  | some ad =>
    go_enter Try.func55, Try.ntmps55
    go_wp2_with (at_builtin; refine wpList_append_rd _ rfl _ _ 40 rfl w.heap.size 3 (.int .i64 0) 1 8 Try.underlying40 int_info rfl (by decide) (by decide) _ _ _ (own_empty w 3 1) rfl _ _ _ _ (HR.out.alloc _) rfl (intC_one l) (by omega) (by simp) ?_; intro v' w' ho' hg')
    go_returns
    exact RSl.of_own' ho' (below_push ((Below.refl w.heap.size w).alloc (Nat.le_refl _) _) (own_empty w 3 1) hg' (by simp)) (by simp) (by simp)
theorem run_eql_nil_ln (w : World) (A : Option Addr) (n c : Nat) : (binOp .eql 27 (.slice A n c) (.slice none 0 0)).run Try.prog w = .ok (.bool A.isNone) w := by
  cases A <;> kernel_rfl
theorem cloneLn_any (l : List Ln) (A : Option Addr) (n c : Nat) (w : World) (hn : l.length = n) (hm : n ≤ 1048576) (hR : Rd w 3 A n (lnC l)) :
    Calls Try.prog 73 #[.slice A n c] w (RSl w 38 3 n (lnC l)) := by
  have HR := hid_ hR; clear hR
  have HN := hid_ hn; clear hn
  have hq := fun w => run_eql_nil_ln w A n c
  cases A with
  | none =>
    have hz : n = 0 := by
      rcases Nat.eq_zero_or_pos n with h | h
      · exact h
      · obtain ⟨b, o, e, _⟩ := HR.out.2 h; cases e
    subst hz
    have hl : l = [] := List.eq_nil_of_length_eq_zero HN.out
    have HL := hid_ hl; clear hl
    go_enter Try.func73, Try.ntmps73
    go_wp2
    go_returns
    exact RSl.of_own' (World.ownsRow_nil _ _ _ _) (Below.refl _ _) rfl (by rw [HL.out]; rfl)
  | some ad =>
    go_enter Try.func73, Try.ntmps73
    go_wp2_with (at_builtin; refine wpList_append_rd _ rfl _ _ 27 rfl w.heap.size 38 (.agg #[.int .i64 0, .int .i64 0, .bool false]) 3 24 Try.underlying27 ln_info rfl (by decide) (by decide) _ _ _ (own_empty w 38 3) rfl _ _ _ _ (HR.out.alloc _) rfl (lnC_one l) (by omega) (by simp) ?_; intro v' w' ho' hg')
    go_returns
    exact RSl.of_own' ho' (below_push ((Below.refl w.heap.size w).alloc (Nat.le_refl _) _) (own_empty w 38 3) hg' (by simp)) (by simp) (by simp)
end Go.Proofs.Ytejnieoneknbbaa
