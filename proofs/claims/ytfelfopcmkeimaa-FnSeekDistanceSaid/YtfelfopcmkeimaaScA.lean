/-
  The library's stable sort, walked: the comparison, exchanges, the insertion sort.
-/
import Derived.Test.YtfelfopcmkeimaaScS
import Derived.Test.YtfelfopcmkeimaaInts
import Derived.BigRegion
import Derived.RegionTactic
namespace Go.Proofs.Ytfelfopcmkeimaa
open Go.ChangeShapes Go.WideShapes Go.ChangeAt Go.RowKit Go.BigFrame

def cmpI (a b : Int) : Int := if a < b then -1 else if b < a then 1 else 0
theorem cmpI_neg (a b : Int) : decide (cmpI a b < 0) = decide (a < b) := by
  unfold cmpI
  by_cases h : a < b
  · simp [h]
  · rw [if_neg h]
    by_cases h2 : b < a <;> simp [h, h2]

theorem isNaN_any (a : Int) (w : World) : Calls Try.prog 66 #[.int .i64 a] w fun e w' => e = .returned (.bool false) ∧ w = w' := by
  go_enter Try.func66, Try.ntmps66
  go_wp2
  go_returns
  exact ⟨ret_bool (by simp), rfl⟩

theorem compare_any (a b : Int) (w : World) : Calls Try.prog 60 #[.int .i64 a, .int .i64 b] w fun e w' => e = .returned (.int .i64 (cmpI a b)) ∧ w = w' := by
  go_enter Try.func60, Try.ntmps60
  go_wp2_with fail
  refine (isNaN_any a _).mono ?_
  rintro e w1 ⟨rfl, rfl⟩
  go_wp2_with fail
  refine (isNaN_any b _).mono ?_
  rintro e w1 ⟨rfl, rfl⟩
  have hc := hid_ (show cmpI a b = if a < b then -1 else if b < a then 1 else 0 from rfl)
  by_cases h1 : a < b
  · have e := hid_ (hc.out.trans (if_pos h1))
    go_wp2
    go_returns
    exact ⟨ret_int e.out.symm, rfl⟩
  · by_cases h2 : b < a
    · have e := hid_ (hc.out.trans ((if_neg h1).trans (if_pos h2)))
      go_wp2
      go_returns
      exact ⟨ret_int e.out.symm, rfl⟩
    · have e := hid_ (hc.out.trans ((if_neg h1).trans (if_neg h2)))
      go_wp2
      go_returns
      exact ⟨ret_int e.out.symm, rfl⟩

/-- the comparison of two numbers of requests -/
def CmpAns (l : List Rq) (x y : Int) (w : World) (e : Ending) (w' : World) : Prop := e = .returned (.int .i64 (cmpI (atK l x) (atK l y))) ∧ ∃ q, w' = w.drewN q

set_option maxHeartbeats 1000000 in
theorem cmp1_any (l : List Rq) (A : Option Addr) (n c lb : Nat) (x y : Int) (w : World) (hn : l.length = n) (hx : 0 ≤ x ∧ x < n) (hy : 0 ≤ y ∧ y < n) (hcl : w.cell? ⟨lb, 0, none⟩ = some (.slice A n c)) (hR : Rd w 3 A n (rqC l)) :
    Calls Try.prog 59 #[.int .i64 x, .int .i64 y, .pointer (some ⟨lb, 0, none⟩)] w (CmpAns l x y w) := by
  obtain ⟨x, rfl⟩ := Int.eq_ofNat_of_zero_le hx.1
  obtain ⟨y, rfl⟩ := Int.eq_ofNat_of_zero_le hy.1
  have hx' : x < n := by omega
  have hy' : y < n := by omega
  obtain ⟨b, o, rfl, x0, x1, x2⟩ := hR.rq x hx' hn
  obtain ⟨b', o', e', y0, y1, y2⟩ := hR.rq y hy' hn
  injection e' with e'
  injection e' with e1 e2
  subst e1; subst e2
  rw [← atK_nat l x (by omega)] at x0
  rw [← atK_nat l y (by omega)] at y0
  clear hR x1 x2 y1 y2 hx hy
  obtain ⟨kx, hkx⟩ : ∃ kx, atK l (x : Int) = kx := ⟨_, rfl⟩
  obtain ⟨ky, hky⟩ : ∃ ky, atK l (y : Int) = ky := ⟨_, rfl⟩
  unfold CmpAns
  rw [hkx] at x0 ⊢
  rw [hky] at y0 ⊢
  clear hkx hky hn
  have hxz : (x : Int) < (n : Int) := by omega
  have hyz : (y : Int) < (n : Int) := by omega
  go_enter Try.func59, Try.ntmps59
  go_wp2
  go_quiet ((go_at_call 60; exact Calls.quiet_of_same ((compare_any kx ky _).mono fun _ _ ⟨h1, h2⟩ => ⟨h1, h2.symm⟩)))
  go_wp2
  go_returns
  exact ⟨rfl, _, rfl⟩
end Go.Proofs.Ytfelfopcmkeimaa
