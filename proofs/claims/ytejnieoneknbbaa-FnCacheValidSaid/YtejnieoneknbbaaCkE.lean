/-
  Caches: the draws of the laws (plain ones).
-/
import Derived.Test.YtejnieoneknbbaaCkD
import Derived.Test.YtejnieoneknbbaaOpen
namespace Go.Proofs.Ytejnieoneknbbaa
open Go.ChangeShapes Go.WideShapes Go.ChangeAt Go.RowKit Go.BigFrame Go.Deep

theorem below_of_gbs {B : Nat} {a b : World} {g : Nat} (h : a.grownBy b (some g)) (hB : B ≤ a.heap.size) (hg : B ≤ g) : Below B a b :=
  below_of_gb h hB (fun k e => by injection e with e; omega)
theorem bys_box {w : World} {A : Option Addr} {n : Nat} (h : Bys w w.heap.size A n) (o : Obj) : Bys (w.alloc o) (w.alloc o).heap.size A n := fun h0 => by
  obtain ⟨b, o', e, hlt, hcell⟩ := h h0
  refine ⟨b, o', e, by simp; omega, fun j hj => ?_⟩
  obtain ⟨v, v0, v1, hv⟩ := hcell j hj
  exact ⟨v, v0, v1, by rw [World.cell?_alloc_past _ _ _ hlt]; exact hv⟩
theorem BoxC.under {w w' : World} {b B : Nat} {v : Value} {m : Int} (h : BoxC w b v m) (hb : Below B w w') (hlt : b < B) : BoxC w' b v m := OutBox.block h (hb.block b hlt)

theorem l20Cache_int (g : Nat) (p0 z : Int) (n : Int) (w : World) (hz0 : 0 ≤ z) (hz : z ≤ 20) (h0 : 0 ≤ p0) (hp0 : p0 ≤ 10000) (hn1 : -1000000 ≤ n) (hn : n ≤ 1000000) (hR : Rdr w g p0) :
    Calls Try.prog 52 #[.pointer (some ⟨g, 0, none⟩), .int .i64 z, .int .i64 n] w (DrawnCk g (p0 + 100) w) := by
  obtain ⟨s, rfl⟩ := Int.eq_ofNat_of_zero_le hz0
  exact l20Cache_any g p0 s n w (by omega) h0 hp0 hn1 hn hR
/-- a drawn cache, a size -/
def DrawnCV (w : World) (e : Ending) (w' : World) : Prop :=
  ∃ (L : List Ln) (A : Option Addr) (c : Nat) (m size : Int), e = .returned (.tuple #[.agg #[.slice A L.length c, .int .i64 m], .int .i64 size]) ∧ L.length ≤ 10 ∧ L.length ≤ c ∧ c ≤ maxLen ∧ 0 ≤ size ∧ size ≤ 11 ∧
    w'.ownsRow w.heap.size 38 3 (.slice A L.length c) L.length (lnC L) ∧ Below w.heap.size w w'

set_option maxHeartbeats 2000000 in
theorem drawCV_any (A : Option Addr) (n c : Nat) (w : World) (hn : n ≤ 1048576) (hc : n ≤ c) (hcm : c ≤ maxLen) (hB : Bys w w.heap.size A n) :
    Calls Try.prog 20 #[.slice A n c] w (DrawnCV w) := by
  have HB := hid_ hB; clear hB
  have HC := hid_ hcm; clear hcm
  go_enter Try.func20, Try.ntmps20
  go_wp2_with fail
  refine (open_any A n c _ hn hc HC.out (bys_box HB.out _)).mono ?_
  rintro e w1 ⟨rfl, hr1, hb1⟩
  have HX := hid_ (BoxC.under (BoxC.new w (.slice none 0 0) 0) hb1 (by simp))
  have HBB := hid_ (((Below.refl w.heap.size w).alloc (Nat.le_refl _) (.cells #[.slice none 0 0, .int .i64 0] 29)).trans (hb1.mono (by simp)))
  obtain ⟨g, hg⟩ : ∃ g, g = w.heap.size + 1 := ⟨_, rfl⟩
  have HR := hid_ (show Rdr w1 g 0 by rw [hg]; simpa using hr1)
  have hlt := HR.out.lt
  have G := hid_ (World.grownBy.refl w1 (some g))
  clear hr1 hb1
  simp only [World.size_alloc, ← hg]
  have hgw : w.heap.size < g := by omega
  clear hg
  go_wp2_with fail
  refine (pick_any g (0) 12 _ (by omega) (by omega) (by omega) HR.out).mono ?_
  rintro e w2 ⟨k1, rfl, hk10, hk11, hx_, hr_, hg_⟩
  replace hk11 := hk11 (by omega)
  clear hx_
  have HGo := hid_ hg_
  have hs_hg_ := hg_.size
  try simp only [World.size_alloc] at hs_hg_
  try simp only [World.size_setCell] at hs_hg_
  replace HX := hid_ (HX.out.grown hg_ (by simp; omega))
  replace G := hid_ (gb_trans G.out hg_); clear hg_
  replace HR := hid_ hr_; clear hr_
  obtain ⟨s, rfl⟩ := Int.eq_ofNat_of_zero_le hk10
  have hs2 := G.out.size
  have hgw2 : w.heap.size < w2.heap.size := by omega
  go_wp2_with fail
  refine (l20Cache_any g (0 + 1) s 2 _ (by omega) (by omega) (by omega) (by omega) (by omega) HR.out).mono ?_
  rintro e w3 ⟨L, A3, c3, m, rfl, hL, hc3, hcm3, ho3, hr3, hg3⟩
  replace HX := hid_ (HX.out.grown hg3 (by simp; omega))
  have HO := hid_ ho3; clear ho3
  have HC3 := hid_ hcm3; clear hcm3
  have hs3 := hg3.size
  have HBF := hid_ (HBB.out.trans (below_of_gbs (gb_trans G.out hg3) (by omega) (by omega)))
  clear hr3 hg3
  have u0 := OutBox.c0 HX.out
  have u1 := OutBox.c1 HX.out
  have u2 := OutBox.f (o := 0) HX.out
  have u3 := OutBox.f (o := 1) HX.out
  have hne := OutBox.ne HX.out HO.out (by decide)
  obtain ⟨k0, k1⟩ := bx_set (.slice A3 L.length c3) (.int .i64 m) u0 u1
  go_wp2
  refine bodyPost_ret (v := .tuple #[.agg #[.slice A3 L.length c3, .int .i64 m], .int .i64 (s : Int)]) (by simp [results, Try.results20, go_sem, k0, k1]) rfl ?_
  exact ⟨L, A3, c3, m, s, rfl, hL, hc3, HC3.out, by omega, by omega, own_set (own_set (own_base HO.out (by omega)) hne) hne, (HBF.out.setCell (Nat.le_refl _) _).setCell (Nat.le_refl _) _⟩

/-- a drawn cache and a drawn disk -/
def DrawnCD (w : World) (e : Ending) (w' : World) : Prop := ∃ C : Ca, C.L.length ≤ 10 ∧ (C.D.length ≤ 10 ∨ C.D.length = 65) ∧ RCaD w C e w'

set_option maxHeartbeats 2000000 in
theorem drawCF_any (A : Option Addr) (n c : Nat) (w : World) (hn : n ≤ 1048576) (hc : n ≤ c) (hcm : c ≤ maxLen) (hB : Bys w w.heap.size A n) :
    Calls Try.prog 33 #[.slice A n c] w (DrawnCD w) := by
  have HB := hid_ hB; clear hB
  have HC := hid_ hcm; clear hcm
  go_enter Try.func33, Try.ntmps33
  go_wp2_with fail
  refine (open_any A n c _ hn hc HC.out (bys_box HB.out _)).mono ?_
  rintro e w1 ⟨rfl, hr1, hb1⟩
  have HX := hid_ (BoxC.under (BoxC.new w (.slice none 0 0) 0) hb1 (by simp))
  have HBB := hid_ (((Below.refl w.heap.size w).alloc (Nat.le_refl _) (.cells #[.slice none 0 0, .int .i64 0] 29)).trans (hb1.mono (by simp)))
  obtain ⟨g, hg⟩ : ∃ g, g = w.heap.size + 1 := ⟨_, rfl⟩
  have HR := hid_ (show Rdr w1 g 0 by rw [hg]; simpa using hr1)
  have hlt := HR.out.lt
  clear hr1 hb1
  simp only [World.size_alloc, ← hg]
  have hgw : w.heap.size < g := by omega
  clear hg
  go_wp2_with fail
  refine (l20Disk_any g 14 _ (by omega) (by omega) HR.out).mono ?_
  rintro e w2 ⟨d, A2, c2, rfl, hd, hc2, hcm2, ho2, hr2, hg2⟩
  replace HX := hid_ (HX.out.grown hg2 (by simp; omega))
  have G := hid_ hg2
  have HD := hid_ ho2; clear ho2
  have HC2 := hid_ hcm2; clear hcm2
  have HR2 := hid_ hr2; clear hr2
  have hs2 := hg2.size
  clear hg2
  have hgw2 : w.heap.size < w2.heap.size := by omega
  have hgd : g < w1.heap.size := hlt
  rcases (by omega : ((d.length : Int) ≤ 20) ∨ ((20 : Int) < (d.length : Int))) with q1 | q1
  all_goals
    have HDd := hid_ hd; clear hd
    go_wp2_with fail
    refine (l20Cache_int g 60 _ 12 _ (by omega) (by omega) (by omega) (by omega) (by omega) (by omega) HR2.out).mono ?_
    rintro e w3 ⟨L, A3, c3, m, rfl, hL, hc3, hcm3, ho3, hr3, hg3⟩
    replace HX := hid_ (HX.out.grown hg3 (by simp; omega))
    replace HD := hid_ (own_pick HD.out hg3 hgd)
    have HO := hid_ ho3; clear ho3
    have HC3 := hid_ hcm3; clear hcm3
    have hs3 := hg3.size
    have HBF := hid_ (HBB.out.trans (below_of_gbs (gb_trans G.out hg3) (by omega) (by omega)))
    clear hr3 hg3
    have u0 := OutBox.c0 HX.out
    have u1 := OutBox.c1 HX.out
    have u2 := OutBox.f (o := 0) HX.out
    have u3 := OutBox.f (o := 1) HX.out
    obtain ⟨k0, k1⟩ := bx_set (.slice A3 L.length c3) (.int .i64 m) u0 u1
    go_wp2
    refine bodyPost_ret (v := .tuple #[.agg #[.slice A3 L.length c3, .int .i64 m], .slice A2 d.length c2]) (by simp [results, Try.results33, go_sem, k0, k1]) rfl ?_
    exact ⟨⟨L, m, d⟩, hL, HDd.out, RCaD.fin (C := ⟨L, m, d⟩) (B := w1.heap.size) (Nat.le_refl _) (by omega) (own_base HO.out (by omega)) HD.out HBF.out _ _⟩

set_option maxHeartbeats 2000000 in
theorem drawCW_any (A : Option Addr) (n c : Nat) (w : World) (hn : n ≤ 1048576) (hc : n ≤ c) (hcm : c ≤ maxLen) (hB : Bys w w.heap.size A n) :
    Calls Try.prog 22 #[.slice A n c] w (DrawnCD w) := by
  have HB := hid_ hB; clear hB
  have HC := hid_ hcm; clear hcm
  go_enter Try.func22, Try.ntmps22
  go_wp2_with fail
  refine (drawCF_any A n c _ hn hc HC.out (bys_box HB.out _)).mono ?_
  rintro e w1 ⟨⟨L, m, d⟩, hL, hd, A3, c3, A2, c2, rfl, hc3, hcm3, hc2, hcm2, hoL, hoD, hb1⟩
  have HX := hid_ (BoxC.under (BoxC.new w (.slice none 0 0) 0) hb1 (by simp))
  have HBB := hid_ (((Below.refl w.heap.size w).alloc (Nat.le_refl _) (.cells #[.slice none 0 0, .int .i64 0] 29)).trans (hb1.mono (by simp)))
  have HO := hid_ hoL; clear hoL
  have HD := hid_ hoD; clear hoD
  have HC3 := hid_ hcm3; clear hcm3
  have HC2 := hid_ hcm2; clear hcm2
  have HDd := hid_ hd; clear hd
  have hs1 := hb1.size
  simp only [World.size_alloc] at hs1
  clear hb1
  simp only [] at *
  have u0 := OutBox.c0 HX.out
  have u1 := OutBox.c1 HX.out
  have u2 := OutBox.f (o := 0) HX.out
  have u3 := OutBox.f (o := 1) HX.out
  obtain ⟨k0, k1⟩ := bx_set (.slice A3 L.length c3) (.int .i64 m) u0 u1
  go_wp2
  refine bodyPost_ret (v := .tuple #[.agg #[.slice A3 L.length c3, .int .i64 m], .slice A2 d.length c2]) (by simp [results, Try.results22, go_sem, k0, k1]) rfl ?_
  exact ⟨⟨L, m, d⟩, hL, HDd.out, RCaD.fin (C := ⟨L, m, d⟩) (B := w.heap.size + 1) (Nat.le_refl _) (by omega) (by simpa using HO.out) (by simpa using HD.out) HBB.out _ _⟩
end Go.Proofs.Ytejnieoneknbbaa
