/-
  The library's stable sort, walked: blocks exchanged, rotation.
-/
import Derived.Test.YtfelfopcmkeimaaScB
namespace Go.Proofs.Ytfelfopcmkeimaa
open Go.ChangeShapes Go.WideShapes Go.ChangeAt Go.RowKit Go.BigFrame

theorem Row.len {w : World} {B g n c : Nat} {X : List Int} (h : Row w B g n c X) : X.length = n := by have := h.1; simpa [intC] using this
def SwAns (B g n c a b k : Nat) (X : List Int) (w0 : World) (e : Ending) (w' : World) : Prop :=
  e = .returned (.tuple #[]) ∧ ∃ Y, Row w' B g n c Y ∧ w0.grownBy w' (some g) ∧ SwR X Y a b k

set_option maxHeartbeats 4000000 in
set_option maxRecDepth 100000 in
theorem swapRange_any (B g n c a b k : Nat) (X : List Int) (f : Value) (w0 w : World) (h0 : w0.grownBy w (some g)) (ho : Row w B g n c X) (hab : a + k ≤ b) (hb : b + k ≤ n) (hn : n ≤ 1000) :
    Calls Try.prog 72 #[.slice (some ⟨g, 0, none⟩) n c, .int .i64 a, .int .i64 b, .int .i64 k, f] w (SwAns B g n c a b k X w0) := by
  have HL := hid_ ho.len
  have H0 := hid_ h0; clear h0
  have HO0 := hid_ ho; clear ho
  go_enter Try.func72, Try.ntmps72
  go_wp2
  go_loopw [10] (fun vi wr => ∃ (i : Nat) (Y : List Int), vi = .int .i64 i ∧ i ≤ k ∧ Row wr B g n c Y ∧ w0.grownBy wr (some g) ∧ SwR X Y a b i) (fun vi _ => k - (intOf vi).toNat)
  case atStart => exact ⟨0, X, rfl, Nat.zero_le _, HO0.out, H0.out, SwR.zero _ _ _⟩
  case round =>
    clear HO0 H0
    obtain ⟨i, Y, rfl, hi, ho, hg, hs⟩ := hrel
    have HO := hid_ ho; clear ho
    have HG := hid_ hg; clear hg
    have HS := hid_ hs; clear hs
    by_cases hlt : i < k
    · obtain ⟨cp, fp⟩ := HO.out.cell (a + i) (by omega)
      obtain ⟨cq, fq⟩ := HO.out.cell (b + i) (by omega)
      have HS2 := hid_ (HS.out.step hlt hab (by rw [HL.out]; omega))
      obtain ⟨p, hp⟩ : ∃ p, a + i = p := ⟨_, rfl⟩
      obtain ⟨q, hq⟩ : ∃ q, b + i = q := ⟨_, rfl⟩
      have hpz : (a : Int) + (i : Int) = (p : Int) := by omega
      have hqz : (b : Int) + (i : Int) = (q : Int) := by omega
      have hpn : (p : Int) < (n : Int) := by omega
      have hqn : (q : Int) < (n : Int) := by omega
      have hpq : p < q := by omega
      rw [hp] at cp fp HS2
      rw [hq] at cq fq HS2
      obtain ⟨xp, hxp⟩ : ∃ x, gd Y p = x := ⟨_, rfl⟩
      obtain ⟨xq, hxq⟩ : ∃ x, gd Y q = x := ⟨_, rfl⟩
      rw [hxp] at cp
      rw [hxq] at cq
      have HXP := hid_ hxp; clear hxp
      have HXQ := hid_ hxq; clear hxq
      clear hp hq HS
      go_wp2_with fail
      go_big_region
      all_goals go_wp2
      all_goals
        go_roundw
        case rel =>
          refine ⟨i + 1, sw Y p q, by go_num, by omega, ?_, gb_set (gb_set (gb_drew HG.out)), HS2.out⟩
          first
            | exact HO.out.drew.ex1 p q _ _ HXQ.out.symm HXP.out.symm
            | exact HO.out.drew.ex2 p q (by omega) _ _ HXQ.out.symm HXP.out.symm
        case measure => exact meas_ hlt
    · obtain rfl : i = k := by omega
      go_wp2
      go_returns
      exact ⟨rfl, Y, HO.out, HG.out, HS.out⟩

def RotAns (B g n c a m b : Nat) (X : List Int) (w0 : World) (e : Ending) (w' : World) : Prop :=
  e = .returned (.tuple #[]) ∧ ∃ Y, Row w' B g n c Y ∧ w0.grownBy w' (some g) ∧ Rot X Y a m b

set_option maxHeartbeats 4000000 in
theorem rotate_any (B g n c a m b : Nat) (X : List Int) (f : Value) (w0 w : World) (h0 : w0.grownBy w (some g)) (ho : Row w B g n c X) (ham : a < m) (hmb : m < b) (hb : b ≤ n) (hn : n ≤ 1000) :
    Calls Try.prog 71 #[.slice (some ⟨g, 0, none⟩) n c, .int .i64 a, .int .i64 m, .int .i64 b, f] w (RotAns B g n c a m b X w0) := by
  have HL := hid_ ho.len
  have H0 := hid_ h0; clear h0
  have HO0 := hid_ ho; clear ho
  have z1 : (m : Int) - (a : Int) = ((m - a : Nat) : Int) := by omega
  have z2 : (b : Int) - (m : Int) = ((b - m : Nat) : Int) := by omega
  go_enter Try.func71, Try.ntmps71
  go_wp2
  go_loopw [10, 11] (fun vi vj wr => ∃ (i j : Nat) (Y : List Int), vi = .int .i64 i ∧ vj = .int .i64 j ∧ 0 < i ∧ 0 < j ∧ i ≤ m ∧ m + j ≤ n ∧ Row wr B g n c Y ∧ w0.grownBy wr (some g) ∧ RotI (rotT X a m b) (gd Y) m i j ∧ Y.Perm X) (fun vi vj _ => (intOf vi).toNat + (intOf vj).toNat)
  case atStart => exact ⟨m - a, b - m, X, rfl, rfl, by omega, by omega, by omega, by omega, HO0.out, H0.out, rot_start X a m b (by omega) (by omega), List.Perm.refl _⟩
  case round =>
    clear HO0 H0 z1 z2
    obtain ⟨i, j, Y, rfl, rfl, hi0, hj0, him, hjn, ho, hg, hr, hp⟩ := hrel
    have HO := hid_ ho; clear ho
    have HG := hid_ hg; clear hg
    have HR := hid_ hr; clear hr
    have HP := hid_ hp; clear hp
    have y1 : (m : Int) - (i : Int) = ((m - i : Nat) : Int) := by omega
    by_cases hij : i = j
    · obtain rfl := hij
      go_wp2_with fail
      refine (swapRange_any B g n c (m - i) m i Y _ w0 _ HG.out HO.out (by omega) (by omega) hn).mono ?_
      rintro e w1 ⟨rfl, Z, ho1, hg1, hs1⟩
      have HO1 := hid_ ho1; clear ho1
      have HG1 := hid_ hg1; clear hg1
      have HS1 := hid_ hs1; clear hs1
      go_wp2
      go_returns
      exact ⟨rfl, Z, HO1.out, HG1.out, ⟨HO1.out.len.trans HL.out.symm, fun p => (HR.out.eq him HS1.out p).symm, HS1.out.perm.trans HP.out⟩⟩
    · have hne : ((i : Int) != (j : Int)) = true := by simp; omega
      have HNE := hid_ hij; clear hij
      by_cases hgt : j < i
      · have hgz : (j : Int) < (i : Int) := by omega
        have y2 : (i : Int) - (j : Int) = ((i - j : Nat) : Int) := by omega
        go_wp2_with fail
        refine (swapRange_any B g n c (m - i) m j Y _ w0 _ HG.out HO.out (by omega) (by omega) hn).mono ?_
        rintro e w1 ⟨rfl, Z, ho1, hg1, hs1⟩
        have HO1 := hid_ ho1; clear ho1
        have HG1 := hid_ hg1; clear hg1
        have HR2 := hid_ (HR.out.gt him hgt hs1)
        have HP2 := hid_ (hs1.perm.trans HP.out); clear hs1
        clear HO HG HR HP
        go_wp2
        go_roundw
        case rel => exact ⟨i - j, j, Z, rfl, rfl, by omega, hj0, by omega, hjn, HO1.out, HG1.out, HR2.out, HP2.out⟩
        case measure => simp only [intOf]; omega
      · have hgz : ¬ ((j : Int) < (i : Int)) := by omega
        have hlt : i < j := by have := HNE.out; omega
        have y2 : (j : Int) - (i : Int) = ((j - i : Nat) : Int) := by omega
        have y3 : (m : Int) + (j : Int) - (i : Int) = ((m + j - i : Nat) : Int) := by omega
        go_wp2_with fail
        refine (swapRange_any B g n c (m - i) (m + j - i) i Y _ w0 _ HG.out HO.out (by omega) (by omega) hn).mono ?_
        rintro e w1 ⟨rfl, Z, ho1, hg1, hs1⟩
        have HO1 := hid_ ho1; clear ho1
        have HG1 := hid_ hg1; clear hg1
        have HR2 := hid_ (HR.out.lt him hlt hs1)
        have HP2 := hid_ (hs1.perm.trans HP.out); clear hs1
        clear HO HG HR HP
        go_wp2
        go_roundw
        case rel => exact ⟨i, j - i, Z, rfl, rfl, hi0, by omega, him, by omega, HO1.out, HG1.out, HR2.out, HP2.out⟩
        case measure => simp only [intOf]; omega
end Go.Proofs.Ytfelfopcmkeimaa
