/-
  What is drawn: AheadValid's argument.
-/
import Derived.Test.YtkkdegdhokckmaaDraw
namespace Go.Proofs.Ytkkdegdhokckmaa
open Go.ChangeShapes Go.WideShapes Go.ChangeAt Go.RowKit Go.BigFrame

theorem gcell {w w1 : World} {g : Nat} (h : w.grownBy w1 (some g)) : (∀ b o, b < w.heap.size → b ≠ g → w1.cell? ⟨b, o, none⟩ = w.cell? ⟨b, o, none⟩) ∧ (∀ b o, b < w.heap.size → b ≠ g → w1.frozen? ⟨b, o, none⟩ = w.frozen? ⟨b, o, none⟩) :=
  ⟨fun b o hb hn => World.cell?_of_block (h.block b hb (by simp; omega)), fun b o hb hn => World.frozen?_of_block (h.block b hb (by simp; omega))⟩

theorem gb_set {w w' : World} {row : Option Nat} (h : w.grownBy w' row) (b o : Nat) (v : Value) (hb : w.heap.size ≤ b) : w.grownBy (w'.setCell ⟨b, o, none⟩ v) row :=
  ⟨h.os, h.tape, h.output, by simpa using h.size, fun k hk hn => (Below.heap_setCell _ _ _ _ (show k ≠ b by omega)).trans (h.block k hk hn)⟩
theorem gb_drew {w w' : World} {row : Option Nat} (h : w.grownBy w' row) : w.grownBy w'.drew row := ⟨h.os, h.tape, h.output, h.size, h.block⟩

/-- some struct with two numbers -/
def SomeAh (g : Nat) (w : World) (e : Ending) (w' : World) : Prop := ∃ x y : Int, e = .returned (.agg #[.int .i64 x, .int .i64 y]) ∧ w.grownBy w' (some g)

set_option maxHeartbeats 1000000 in
theorem l20Ahead_any (g : Nat) (n : Int) (w : World) (hn1 : -1000000 ≤ n) (hn : n ≤ 1000000) (hR : Rdr w g 0) :
    Calls Try.prog 18 #[.pointer (some ⟨g, 0, none⟩), .int .i64 n] w (SomeAh g w) := by
  have hlt := hR.lt
  have HR := hid_ hR; clear hR
  go_enter Try.func18, Try.ntmps18
  go_wp2_with fail
  refine (pick_any g 0 60 _ (by omega) (by omega) (by omega) (HR.out.alloc _)).mono ?_
  rintro e w1 ⟨k1, rfl, k10, k11, k12, hr1, hg1⟩
  obtain ⟨hc1, hf1⟩ := gcell hg1
  have hs1 := hg1.size
  simp only [World.size_alloc] at hc1 hf1 hs1
  go_wp2_with fail
  refine (pick_any g 1 7 _ (by omega) (by omega) (by omega) (hr1.alloc _)).mono ?_
  rintro e w2 ⟨k2, rfl, k20, k21, k22, hr2, hg2⟩
  obtain ⟨u, hu, cu⟩ := lit_cell [0, 1, 2, 4, 8, 16, 32] w1 w2 3 g hg2 (by omega) k2 k20 (by simpa using k21)
  obtain ⟨hc2, hf2⟩ := gcell hg2
  have hs2 := hg2.size
  simp only [World.size_alloc] at hc2 hf2 hs2
  have v0 : (w2.alloc (.cells #[.int .i64 k1, .int .i64 u] 25)).cell? ⟨w2.heap.size, 0, none⟩ = some (.int .i64 k1) := by simp [go_sem]
  have v1 : (w2.alloc (.cells #[.int .i64 k1, .int .i64 u] 25)).cell? ⟨w2.heap.size, 1, none⟩ = some (.int .i64 u) := by simp [go_sem]
  go_wp2_with fail
  refine (odd_any g 2 n _ (by omega) hn1 hn (hr2.alloc _)).mono ?_
  rintro e w3 ⟨b, rfl, hr3, hg3⟩
  obtain ⟨hc3, hf3⟩ := gcell hg3
  have hs3 := hg3.size
  simp only [World.size_alloc] at hc3 hf3 hs3
  have ng2 : w2.heap.size ≠ g := by omega
  have ng0 : w.heap.size ≠ g := by omega
  have e0 : w3.cell? ⟨w2.heap.size, 0, none⟩ = some (.int .i64 k1) := (hc3 _ _ (by omega) ng2).trans v0
  have e1 : w3.cell? ⟨w2.heap.size, 1, none⟩ = some (.int .i64 u) := (hc3 _ _ (by omega) ng2).trans v1
  have ef : ∀ o, w3.frozen? ⟨w2.heap.size, o, none⟩ = false := fun o => by rw [hf3 _ _ (by omega) ng2]; simp [go_sem]
  have rc : ∀ o, w3.cell? ⟨w.heap.size, o, none⟩ = (w.alloc (.cells #[.int .i64 0, .int .i64 0] 25)).cell? ⟨w.heap.size, o, none⟩ := fun o => by
    rw [hc3 _ _ (by omega) ng0, World.cell?_alloc_past _ _ _ (by omega), hc2 _ _ (by omega) ng0, World.cell?_alloc_past _ _ _ (by omega), hc1 _ _ (by omega) ng0]
  have rf : ∀ o, w3.frozen? ⟨w.heap.size, o, none⟩ = false := fun o => by
    rw [hf3 _ _ (by omega) ng0, World.frozen?_alloc_past _ _ _ (by omega), hf2 _ _ (by omega) ng0, World.frozen?_alloc_past _ _ _ (by omega), hf1 _ _ (by omega) ng0]; simp [go_sem]
  have z0 : w3.cell? ⟨w.heap.size, 0, none⟩ = some (.int .i64 0) := by rw [rc]; simp [go_sem]
  have z1 : w3.cell? ⟨w.heap.size, 1, none⟩ = some (.int .i64 0) := by rw [rc]; simp [go_sem]
  clear rc v0 v1 hc1 hc2 hf1 hf2
  have G := hid_ (gb_trans (gb_trans (gb_trans (World.grownBy_alloc w _ _) hg1) (gb_trans (World.grownBy_alloc w1 _ _) hg2)) (gb_trans (World.grownBy_alloc w2 _ _) hg3))
  have hrs := hr3.lt
  cases b
  · go_wp2_with fail
    exact bodyPost_ret (v := .agg #[.int .i64 k1, .int .i64 u]) (by simp [results, Try.results18, go_sem, z0, z1, rf]) rfl ⟨k1, u, rfl, by first | exact gb_set (gb_set G.out _ _ _ (Nat.le_refl _)) _ _ _ (Nat.le_refl _) | skip⟩
  · go_wp2_with fail
    refine (pick_any g 3 2 _ (by omega) (by omega) (by omega) hr3).mono ?_
    rintro e w4 ⟨k4, rfl, k40, k41, k42, hr4, hg4⟩
    obtain ⟨hc4, hf4⟩ := gcell hg4
    have hs4 := hg4.size
    have hq : k4 = 0 ∨ k4 ≠ 0 := by omega
    have G4 := hid_ (gb_trans G.out hg4); clear G
    have e40 : w4.cell? ⟨w2.heap.size, 0, none⟩ = some (.int .i64 k1) := (hc4 _ _ (by omega) ng2).trans e0
    have e41 : w4.cell? ⟨w2.heap.size, 1, none⟩ = some (.int .i64 u) := (hc4 _ _ (by omega) ng2).trans e1
    have ef4 : ∀ o, w4.frozen? ⟨w2.heap.size, o, none⟩ = false := fun o => (hf4 _ _ (by omega) ng2).trans (ef o)
    have z40 : w4.cell? ⟨w.heap.size, 0, none⟩ = some (.int .i64 0) := (hc4 _ _ (by omega) ng0).trans z0
    have z41 : w4.cell? ⟨w.heap.size, 1, none⟩ = some (.int .i64 0) := (hc4 _ _ (by omega) ng0).trans z1
    have rf4 : ∀ o, w4.frozen? ⟨w.heap.size, o, none⟩ = false := fun o => (hf4 _ _ (by omega) ng0).trans (rf o)
    clear hc4 hf4 hc3 hf3 e0 e1 ef z0 z1 rf
    rcases hq with hq | hq
    · go_wp2_with fail
      refine (pick_any g 4 4 _ (by omega) (by omega) (by omega) (hr4.alloc _)).mono ?_
      rintro e w5 ⟨k5, rfl, k50, k51, k52, hr5, hg5⟩
      obtain ⟨u5, hu5, cu5⟩ := lit_cell [-1, 3, 64, 33] w4 w5 3 g hg5 (by omega) k5 k50 (by simpa using k51)
      obtain ⟨hc5, hf5⟩ := gcell hg5
      simp only [World.size_alloc] at hc5 hf5
      have e50 : w5.cell? ⟨w2.heap.size, 0, none⟩ = some (.int .i64 k1) := by rw [hc5 _ _ (by omega) ng2, World.cell?_alloc_past _ _ _ (by omega)]; exact e40
      have e51 : w5.cell? ⟨w2.heap.size, 1, none⟩ = some (.int .i64 u) := by rw [hc5 _ _ (by omega) ng2, World.cell?_alloc_past _ _ _ (by omega)]; exact e41
      have ef5 : ∀ o, w5.frozen? ⟨w2.heap.size, o, none⟩ = false := fun o => by rw [hf5 _ _ (by omega) ng2, World.frozen?_alloc_past _ _ _ (by omega)]; exact ef4 o
      have z50 : w5.cell? ⟨w.heap.size, 0, none⟩ = some (.int .i64 0) := by rw [hc5 _ _ (by omega) ng0, World.cell?_alloc_past _ _ _ (by omega)]; exact z40
      have z51 : w5.cell? ⟨w.heap.size, 1, none⟩ = some (.int .i64 0) := by rw [hc5 _ _ (by omega) ng0, World.cell?_alloc_past _ _ _ (by omega)]; exact z41
      have rf5 : ∀ o, w5.frozen? ⟨w.heap.size, o, none⟩ = false := fun o => by rw [hf5 _ _ (by omega) ng0, World.frozen?_alloc_past _ _ _ (by omega)]; exact rf4 o
      have hs5 := hg5.size; simp only [World.size_alloc] at hs5
      have G5 := hid_ (gb_trans G4.out (gb_trans (World.grownBy_alloc w4 _ _) hg5)); clear G4
      clear hc5 hf5
      go_wp2_with fail
      exact bodyPost_ret (v := .agg #[.int .i64 k1, .int .i64 u5]) (by simp [results, Try.results18, go_sem, z50, z51, rf5]) rfl ⟨k1, u5, rfl, gb_set (gb_set (gb_set G5.out _ _ _ (by omega)) _ _ _ (Nat.le_refl _)) _ _ _ (Nat.le_refl _)⟩
    · go_wp2_with fail
      refine (pick_any g 4 2 _ (by omega) (by omega) (by omega) (hr4.alloc _)).mono ?_
      rintro e w5 ⟨k5, rfl, k50, k51, k52, hr5, hg5⟩
      obtain ⟨u5, hu5, cu5⟩ := lit_cell [-1, 100001] w4 w5 3 g hg5 (by omega) k5 k50 (by simpa using k51)
      obtain ⟨hc5, hf5⟩ := gcell hg5
      simp only [World.size_alloc] at hc5 hf5
      have e50 : w5.cell? ⟨w2.heap.size, 0, none⟩ = some (.int .i64 k1) := by rw [hc5 _ _ (by omega) ng2, World.cell?_alloc_past _ _ _ (by omega)]; exact e40
      have e51 : w5.cell? ⟨w2.heap.size, 1, none⟩ = some (.int .i64 u) := by rw [hc5 _ _ (by omega) ng2, World.cell?_alloc_past _ _ _ (by omega)]; exact e41
      have ef5 : ∀ o, w5.frozen? ⟨w2.heap.size, o, none⟩ = false := fun o => by rw [hf5 _ _ (by omega) ng2, World.frozen?_alloc_past _ _ _ (by omega)]; exact ef4 o
      have z50 : w5.cell? ⟨w.heap.size, 0, none⟩ = some (.int .i64 0) := by rw [hc5 _ _ (by omega) ng0, World.cell?_alloc_past _ _ _ (by omega)]; exact z40
      have z51 : w5.cell? ⟨w.heap.size, 1, none⟩ = some (.int .i64 0) := by rw [hc5 _ _ (by omega) ng0, World.cell?_alloc_past _ _ _ (by omega)]; exact z41
      have rf5 : ∀ o, w5.frozen? ⟨w.heap.size, o, none⟩ = false := fun o => by rw [hf5 _ _ (by omega) ng0, World.frozen?_alloc_past _ _ _ (by omega)]; exact rf4 o
      have hs5 := hg5.size; simp only [World.size_alloc] at hs5
      have G5 := hid_ (gb_trans G4.out (gb_trans (World.grownBy_alloc w4 _ _) hg5)); clear G4
      clear hc5 hf5
      go_wp2_with fail
      exact bodyPost_ret (v := .agg #[.int .i64 u5, .int .i64 u]) (by simp [results, Try.results18, go_sem, z50, z51, rf5]) rfl ⟨u5, u, rfl, gb_set (gb_set (gb_set G5.out _ _ _ (by omega)) _ _ _ (Nat.le_refl _)) _ _ _ (Nat.le_refl _)⟩

theorem below_of_gbs {B : Nat} {a b : World} {g : Nat} (h : a.grownBy b (some g)) (hB : B ≤ a.heap.size) (hg : B ≤ g) : Below B a b :=
  below_of_gb h hB (fun k e => by injection e with e; omega)

/-- what the draw answers -/
def DrawnAh (w : World) (e : Ending) (w' : World) : Prop := ∃ x y : Int, e = .returned (.agg #[.int .i64 x, .int .i64 y]) ∧ Below w.heap.size w w'

set_option maxHeartbeats 1000000 in
theorem drawAV_any (A : Option Addr) (n c : Nat) (w : World) (hn : n ≤ 1048576) (hc : n ≤ c) (hcm : c ≤ maxLen) (hB : Bys w w.heap.size A n) :
    Calls Try.prog 12 #[.slice A n c] w (DrawnAh w) := by
  have HB := hid_ hB; clear hB
  have HC := hid_ hcm; clear hcm
  go_enter Try.func12, Try.ntmps12
  go_wp2_with fail
  refine (open_any A n c _ hn hc HC.out ?_).mono ?_
  · exact fun h0 => by
      obtain ⟨b, o, e, hlt, hcell⟩ := HB.out h0
      refine ⟨b, o, e, by simp; omega, fun j hj => ?_⟩
      obtain ⟨v, v0, v1, hv⟩ := hcell j hj
      exact ⟨v, v0, v1, by rw [World.cell?_alloc_past _ _ _ hlt]; exact hv⟩
  rintro e w1 ⟨rfl, hr1, hb1⟩
  obtain ⟨hcw, hfw⟩ := bcell hb1
  have hz := hb1.size
  simp only [World.size_alloc] at hcw hfw hz hr1
  go_wp2_with fail
  refine (l20Ahead_any (w.heap.size + 1) 2 _ (by omega) (by omega) (by simpa using hr1)).mono ?_
  rintro e w2 ⟨x, y, rfl, hg2⟩
  obtain ⟨hc2, hf2⟩ := gcell hg2
  have hz2 := hg2.size
  have z0 : w2.cell? ⟨w.heap.size, 0, none⟩ = some (.int .i64 0) := by rw [hc2 _ _ (by omega) (by omega), hcw _ _ (by omega)]; simp [go_sem]
  have z1 : w2.cell? ⟨w.heap.size, 1, none⟩ = some (.int .i64 0) := by rw [hc2 _ _ (by omega) (by omega), hcw _ _ (by omega)]; simp [go_sem]
  have zf : ∀ o, w2.frozen? ⟨w.heap.size, o, none⟩ = false := fun o => by rw [hf2 _ _ (by omega) (by omega), hfw _ _ (by omega)]; simp [go_sem]
  have BB : Below w.heap.size w w2 := (((Below.refl _ _).alloc (Nat.le_refl _) _).trans (hb1.mono (by simp))).trans (below_of_gbs hg2 (by omega) (by omega))
  go_wp2_with fail
  exact bodyPost_ret (v := .agg #[.int .i64 x, .int .i64 y]) (by simp [results, Try.results12, go_sem, z0, z1, zf]) rfl ⟨x, y, rfl, (BB.setCell (Nat.le_refl _) _).setCell (Nat.le_refl _) _⟩
end Go.Proofs.Ytkkdegdhokckmaa
