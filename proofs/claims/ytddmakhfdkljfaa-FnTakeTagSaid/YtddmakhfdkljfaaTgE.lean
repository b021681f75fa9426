/-
  Tags: what is drawn, for the laws.
-/
import Derived.Test.YtddmakhfdkljfaaTgD
import Derived.IntWalk
namespace Go.Proofs.Ytddmakhfdkljfaa
open Go.ChangeShapes Go.WideShapes Go.ChangeAt Go.RowKit Go.BigFrame

theorem below_of_gbs {B : Nat} {a b : World} {g : Nat} (h : a.grownBy b (some g)) (hB : B ≤ a.heap.size) (hg : B ≤ g) : Below B a b :=
  below_of_gb h hB (fun k e => by injection e with e; omega)

def DrawnTT (w : World) (e : Ending) (w' : World) : Prop :=
  ∃ (l : List Bool) (A : Option Addr) (c : Nat), e = .returned (.agg #[.slice A l.length c]) ∧ l.length ≤ 20 ∧ l.length ≤ c ∧ c ≤ maxLen ∧ Rd w' 1 A l.length (boC l) ∧ Below w.heap.size w w'
def DrawnTI (w : World) (e : Ending) (w' : World) : Prop :=
  ∃ (l : List Bool) (A : Option Addr) (c : Nat) (t : Int), e = .returned (.tuple #[.agg #[.slice A l.length c], .int .i64 t]) ∧ l.length ≤ 20 ∧ l.length ≤ c ∧ c ≤ maxLen ∧ (-1 ≤ t ∧ t ≤ 20) ∧ Rd w' 1 A l.length (boC l) ∧ Below w.heap.size w w'

set_option maxHeartbeats 1000000 in
theorem drawTake_any (A : Option Addr) (n c : Nat) (w : World) (hn : n ≤ 1048576) (hc : n ≤ c) (hcm : c ≤ maxLen) (hB : Bys w w.heap.size A n) :
    Calls Try.prog 12 #[.slice A n c] w (DrawnTT w) := by
  have HB := hid_ hB; clear hB
  have HC := hid_ hcm; clear hcm
  go_enter Try.func12, Try.ntmps12
  go_wp2_with fail
  refine (open_any A n c _ hn hc HC.out ?_).mono ?_
  · exact fun h0 => by
      obtain ⟨b, o, e, hlt, hcell⟩ := HB.out h0
      refine ⟨b, o, e, by simp; omega, fun j hj => ?_⟩
      obtain ⟨v, v0, v1, hv⟩ := hcell j hj
      exact ⟨v, v0, v1, by rw [World.cell?_alloc_past _ _ _ hlt]; exact hv⟩
  rintro e w1 ⟨rfl, hr1, hb1⟩
  have HX1 := hid_ (show Box1 w1 w.heap.size (.slice none 0 0) from ⟨by rw [hb1.cell (by simp)]; simp [go_sem], by rw [hb1.frozen (by simp)]; simp [go_sem]⟩)
  have HBB := hid_ (((Below.refl w.heap.size w).alloc (Nat.le_refl _) (.cells #[.slice none 0 0] 25)).trans (hb1.mono (by simp)))
  have HR1 := hid_ hr1; clear hr1
  have hz := hb1.size
  simp only [World.size_alloc] at hz
  clear hb1
  go_wp2_with fail
  refine (l20Tags_any (w.heap.size + 1) 9 _ (by omega) (by omega) (by simpa using HR1.out)).mono ?_
  rintro e w2 ⟨l, A2, c2, rfl, hl, hc1, hc2, ho2, hr2, hg2⟩
  have hX := HX1.out.grown hg2 (by simp)
  have HX2 := hid_ hX
  obtain ⟨cx, fx⟩ := hX
  have HO2 := hid_ ho2; clear ho2
  have HG2 := hid_ hg2; clear hg2 hr2
  have HH := hid_ (And.intro hl (And.intro hc1 hc2)); clear hl hc1 hc2
  have hlx := cell_lt cx
  simp only at hlx
  have hnb : (Value.slice A2 l.length c2).ownBlock ≠ some w.heap.size := fun e => by have := (HO2.out.lt _ e).1; omega
  go_wp2
  exact bodyPost_ret (v := .agg #[.slice A2 l.length c2]) (by simp [results, Try.results12, go_sem, cx, fx]) rfl ⟨l, A2, c2, rfl, HH.out.1, HH.out.2.1, HH.out.2.2, own_rd (own_set HO2.out hnb), ((HBB.out.trans (below_of_gbs HG2.out (by omega) (by omega))).setCell (Nat.le_refl _) _)⟩

set_option maxHeartbeats 2000000 in
theorem drawRet_any (A : Option Addr) (n c : Nat) (w : World) (hn : n ≤ 1048576) (hc : n ≤ c) (hcm : c ≤ maxLen) (hB : Bys w w.heap.size A n) :
    Calls Try.prog 6 #[.slice A n c] w (DrawnTI w) := by
  have HB := hid_ hB; clear hB
  have HC := hid_ hcm; clear hcm
  go_enter Try.func6, Try.ntmps6
  go_wp2_with fail
  refine (open_any A n c _ hn hc HC.out ?_).mono ?_
  · exact fun h0 => by
      obtain ⟨b, o, e, hlt, hcell⟩ := HB.out h0
      refine ⟨b, o, e, by simp; omega, fun j hj => ?_⟩
      obtain ⟨v, v0, v1, hv⟩ := hcell j hj
      exact ⟨v, v0, v1, by rw [World.cell?_alloc_past _ _ _ hlt]; exact hv⟩
  rintro e w1 ⟨rfl, hr1, hb1⟩
  have HX1 := hid_ (show Box1 w1 w.heap.size (.slice none 0 0) from ⟨by rw [hb1.cell (by simp)]; simp [go_sem], by rw [hb1.frozen (by simp)]; simp [go_sem]⟩)
  have HBB := hid_ (((Below.refl w.heap.size w).alloc (Nat.le_refl _) (.cells #[.slice none 0 0] 25)).trans (hb1.mono (by simp)))
  have HR1 := hid_ hr1; clear hr1
  have hz := HR1.out.lt
  simp only [World.size_alloc] at hz
  clear hb1
  go_wp2_with fail
  refine (l20Tags_any (w.heap.size + 1) 9 _ (by omega) (by omega) (by simpa using HR1.out)).mono ?_
  rintro e w2 ⟨l, A2, c2, rfl, hl, hc1, hc2, ho2, hr2, hg2⟩
  have hX := HX1.out.grown hg2 (by simp)
  have HX2 := hid_ hX
  obtain ⟨cx, fx⟩ := hX
  have HO2 := hid_ ho2; clear ho2
  have HR2 := hid_ hr2; clear hr2
  have hz2 := hg2.size
  have HG2 := hid_ hg2; clear hg2
  have HC1 := hid_ hc2; clear hc2
  have hlx := cell_lt cx
  simp only at hlx
  have hnb : (Value.slice A2 l.length c2).ownBlock ≠ some w.heap.size := fun e => by have := (HO2.out.lt _ e).1; omega
  have HNB := hid_ hnb; clear hnb
  have wr1 : IntKind.i64.wrap ((l.length : Int) + 2) = (l.length : Int) + 2 := IntWalk.i64_in _ (by omega)
  have HR3 := hid_ (show Rdr ((w2.alloc (.cells #[.slice A2 l.length c2] 25)).drew) (w.heap.size + 1) 100 from (HR2.out.alloc (.cells #[.slice A2 l.length c2] 25)).keep (fun _ _ => rfl))
  have b0 : (w2.alloc (.cells #[.slice A2 l.length c2] 25)).cell? ⟨w2.heap.size, 0, none⟩ = some (.slice A2 l.length c2) := by simp [go_sem]
  have B0 := hid_ b0; clear b0
  have HX3 := hid_ (show Box1 ((w2.alloc (.cells #[.slice A2 l.length c2] 25)).drew) w.heap.size (.slice none 0 0) from (show Box1 (w2.alloc (.cells #[.slice A2 l.length c2] 25)) w.heap.size (.slice none 0 0) from HX2.out.grown (World.grownBy_alloc w2 (.cells #[.slice A2 l.length c2] 25) none) (by simp)))
  have HO3 := hid_ (HO2.out.alloc (.cells #[.slice A2 l.length c2] 25)).drew
  go_wp2_with fail
  first
    | (go_region_law (refine step_pick_ (by rfl) _ _ _ (by rfl) (w.heap.size + 1) 100 ((l.length : Int) + 2) (by rfl) (by rfl) (by omega) (by omega) (by omega) HR3.out ?_; intro k5 w5 hk50 hk51 hr5 hg5; have hx5 := HX3.out.grown hg5 (by simp); have HX5 := hid_ hx5; obtain ⟨cx5, fx5⟩ := hx5; have b5 := hg5.cell (show ((w2.alloc (.cells #[.slice A2 l.length c2] 25)).drew).cell? ⟨w2.heap.size, 0, none⟩ = some (.slice A2 l.length c2) from B0.out) (by simp; omega); have HO5 := hid_ (own_pick HO3.out hg5 (by omega)); have HG5 := hid_ hg5; clear hg5 hr5; have hlx5 := cell_lt cx5; simp only at hlx5; have wr5 : IntKind.i64.wrap (k5 - 1) = k5 - 1 := IntWalk.i64_in _ (by omega)))
    | fail
  all_goals
    have hnb5 := HNB.out
    go_wp2
    exact bodyPost_ret (v := .tuple #[.agg #[.slice A2 l.length c2], .int .i64 (k5 - 1)]) (by simp [results, Try.results6, go_sem, cx5, fx5]) rfl ⟨l, A2, c2, k5 - 1, rfl, hl, hc1, HC1.out, by omega, own_rd (own_set HO5.out hnb5), ((((HBB.out.trans (below_of_gbs HG2.out (by omega) (by omega))).alloc (by omega) _).drew.trans (below_of_gbs HG5.out (by simp; omega) (by omega))).setCell (Nat.le_refl _) _)⟩
end Go.Proofs.Ytddmakhfdkljfaa
