/-
  Requests: the walk of the law on dividing.
-/
import Derived.Test.YtmcpkoogcglomaaRqL
import Derived.Test.YtmcpkoogcglomaaRqG
import Derived.Deep.RegionLaw
namespace Go.Proofs.Ytmcpkoogcglomaa
open Go.ChangeShapes Go.WideShapes Go.ChangeAt Go.RowKit Go.BigFrame Go.Deep

theorem run_most_ (ρ : Operand → Value) (dst : Option Tmp) (ty : TypeId) (pos : String) (after : Array Edge) (guard : Option (Nat × Bool)) (w : World) (x : Operand) (ats : Array TypeId) {a : Value} (hf : ρ (.func 47) = .func (.func 47) #[] #[]) (ex : ρ x = a) :
    (execOp ρ { dst := dst, op := .call { callee := .value (.func 47), args := #[x], argTypes := ats }, type := ty, pos := pos, after := after, guard := guard }).run Try.prog w = .ok (.enter 47 #[a]) w := by
  simp [execOp, resolve, hf, ex, go_sem]
theorem step_most_ {ops : Array Oper} {o : Oper} {a : Act} {w : World} {K : Act → World → Prop} {Q : Exit → Act → World → Prop} {E : Prop} (hw : Region.wanted o (yielded ops a.tmps) = true) (x : Operand) (ats : Array TypeId)
    (ho : o.op = .call { callee := .value (.func 47), args := #[x], argTypes := ats }) (g : Nat) (p : Int) (hx : a.eval x = .pointer (some ⟨g, 0, none⟩)) (hp0 : 0 ≤ p) (hp : p ≤ 10000) (hR : Rdr w g p)
    (h : ∀ (k : Int) (w' : World), 0 ≤ k → k ≤ 201 → Rdr w' g (p + 2) → w.grownBy w' (some g) → K (a.put o.dst (.int .i64 k)) w') :
    if Region.wanted o (yielded ops a.tmps) = true then Oper.wp Try.prog o a w K Q else E := by
  rw [if_pos hw]
  clear hw
  obtain ⟨dst, op, ty, pos, after, guard⟩ := o
  simp only at ho
  subst ho
  unfold Oper.wp
  rw [run_most_ a.eval dst ty pos after guard w x ats rfl hx, Oper.upon_enter]
  refine (l20Most_any g p w hp0 hp hR).mono ?_
  rintro e w' ⟨k, rfl, k0, k1, hr', hg'⟩
  exact h k w' k0 k1 hr' hg'

/-- a drawn request, two sizes -/
def DrawnQ (w : World) (e : Ending) (w' : World) : Prop :=
  ∃ (q : Rq) (m b : Int), e = .returned (.tuple #[.agg #[.int .i64 q.at_, .int .i64 q.count, .bool q.write], .int .i64 m, .int .i64 b]) ∧ (0 ≤ q.at_ ∧ q.at_ ≤ 99) ∧ (0 ≤ q.count ∧ q.count ≤ 201) ∧ (0 ≤ m ∧ m ≤ 201) ∧ (0 ≤ b ∧ b ≤ 201) ∧ Below w.heap.size w w'

set_option maxHeartbeats 2000000 in
theorem drawSpl_any (A : Option Addr) (n c : Nat) (w : World) (hn : n ≤ 1048576) (hc : n ≤ c) (hcm : c ≤ maxLen) (hB : Bys w w.heap.size A n) :
    Calls Try.prog 29 #[.slice A n c] w (DrawnQ w) := by
  have HB := hid_ hB; clear hB
  have HC := hid_ hcm; clear hcm
  go_enter Try.func29, Try.ntmps29
  go_wp2_with fail
  refine (open_any A n c _ hn hc HC.out ?_).mono ?_
  · exact fun h0 => by
      obtain ⟨b, o, e, hlt, hcell⟩ := HB.out h0
      refine ⟨b, o, e, by simp; omega, fun j hj => ?_⟩
      obtain ⟨v, v0, v1, hv⟩ := hcell j hj
      exact ⟨v, v0, v1, by rw [World.cell?_alloc_past _ _ _ hlt]; exact hv⟩
  rintro e w1 ⟨rfl, hr1, hb1⟩
  have HXZ := hid_ (show BoxQ w1 w.heap.size ⟨0, 0, false⟩ from by
    refine ⟨⟨?_, ?_, ?_⟩, ?_, ?_, ?_⟩
    · rw [hb1.cell (by simp)]; simp [go_sem]
    · rw [hb1.cell (by simp)]; simp [go_sem]
    · rw [hb1.cell (by simp)]; simp [go_sem]
    · rw [hb1.frozen (by simp)]; simp [go_sem]
    · rw [hb1.frozen (by simp)]; simp [go_sem]
    · rw [hb1.frozen (by simp)]; simp [go_sem])
  have HBB := hid_ (((Below.refl w.heap.size w).alloc (Nat.le_refl _) (.cells #[.int .i64 0, .int .i64 0, .bool false] 33)).trans (hb1.mono (by simp)))
  obtain ⟨g, hg⟩ : ∃ g, g = w.heap.size + 1 := ⟨_, rfl⟩
  have HR := hid_ (show Rdr w1 g 0 by rw [hg]; simpa using hr1)
  have hlt := HR.out.lt
  have G := hid_ (World.grownBy.refl w1 (some g))
  clear hr1 hb1
  simp only [World.size_alloc, ← hg]
  have hgw : w.heap.size < g := by omega
  have HG0 := hid_ hg; clear hg
  go_wp2_with fail
  refine (pick_any g (0) 100 _ (by omega) (by omega) (by omega) HR.out).mono ?_
  rintro e w2 ⟨k1, rfl, hk10, hk11, hx_, hr_, hg_⟩
  replace hk11 := hk11 (by omega)
  clear hx_
  have HGo := hid_ hg_
  have hs_hg_ := hg_.size
  try simp only [World.size_alloc, World.size_setCell] at hs_hg_
  replace HXZ := hid_ (HXZ.out.grown hg_ (by simp; omega))
  replace G := hid_ (gb_trans G.out hg_); clear hg_
  replace HR := hid_ hr_; clear hr_
  go_wp2_with fail
  refine (pick_any g (0 + 1) 200 _ (by omega) (by omega) (by omega) HR.out).mono ?_
  rintro e w3 ⟨k2, rfl, hk20, hk21, hx_, hr_, hg_⟩
  replace hk21 := hk21 (by omega)
  clear hx_
  have HGo := hid_ hg_
  have hs_hg_ := hg_.size
  try simp only [World.size_alloc, World.size_setCell] at hs_hg_
  replace HXZ := hid_ (HXZ.out.grown hg_ (by simp; omega))
  replace G := hid_ (gb_trans G.out hg_); clear hg_
  replace HR := hid_ hr_; clear hr_
  go_wp2_with fail
  refine (pick_any g (0 + 1 + 1) 2 _ (by omega) (by omega) (by omega) HR.out).mono ?_
  rintro e w4 ⟨k3, rfl, hk30, hk31, hx_, hr_, hg_⟩
  replace hk31 := hk31 (by omega)
  clear hx_
  have HGo := hid_ hg_
  have hs_hg_ := hg_.size
  try simp only [World.size_alloc, World.size_setCell] at hs_hg_
  replace HXZ := hid_ (HXZ.out.grown hg_ (by simp; omega))
  replace G := hid_ (gb_trans G.out hg_); clear hg_
  replace HR := hid_ hr_; clear hr_
  have hs4 := G.out.size
  have HXB := hid_ (BoxQ.new w4 ⟨k1, 1 + k2, k3 == 0⟩ _ rfl)
  have hsw := HBB.out.size
  replace HXZ := hid_ (HXZ.out.grown (World.grownBy_alloc w4 (.cells #[.int .i64 k1, .int .i64 (1 + k2), .bool (k3 == 0)] 33) (some g)) (by simp; omega))
  replace HR := hid_ (HR.out.alloc (.cells #[.int .i64 k1, .int .i64 (1 + k2), .bool (k3 == 0)] 33))
  replace G := hid_ (gb_trans G.out (World.grownBy_alloc w4 (.cells #[.int .i64 k1, .int .i64 (1 + k2), .bool (k3 == 0)] 33) (some g)))
  go_wp2_with fail
  refine (odd_any g (0 + 1 + 1 + 1) 12 _ (by omega) (by omega) (by omega) HR.out).mono ?_
  rintro e w5 ⟨od, rfl, hr_, hg_⟩
  have HGo := hid_ hg_
  have hs_hg_ := hg_.size
  try simp only [World.size_alloc, World.size_setCell] at hs_hg_
  replace HXZ := hid_ (HXZ.out.grown hg_ (by simp; omega))
  replace HXB := hid_ (HXB.out.grown hg_ (by simp; omega))
  replace G := hid_ (gb_trans G.out hg_); clear hg_
  replace HR := hid_ hr_; clear hr_
  have hs5 := G.out.size
  cases od
  · skip
    go_wp2_with fail
    refine (l20Most_any g (0 + 1 + 1 + 1 + 1) _ (by omega) (by omega) HR.out).mono ?_
    rintro e w7 ⟨m, rfl, m0, m1, hr_, hg_⟩
    replace HXZ := hid_ (HXZ.out.grown hg_ (by simp; omega))
    replace HXB := hid_ (HXB.out.grown hg_ (by simp; omega))
    replace G := hid_ (gb_trans G.out hg_)
    have hs7 := hg_.size
    try simp only [World.size_setCell] at hs7
    clear hg_
    replace HR := hid_ hr_; clear hr_
    have HRr := hid_ (show Rdr w7.drew g (0 + 1 + 1 + 1 + 1 + 2) from HR.out.keep (fun _ _ => rfl))
    have HZr := hid_ (show BoxQ w7.drew w.heap.size ⟨0, 0, false⟩ from HXZ.out)
    have HBr := hid_ (show BoxQ w7.drew w4.heap.size ⟨k1, 1 + k2, k3 == 0⟩ from HXB.out)
    obtain ⟨⟨y0, y1, y2⟩, z0, z1, z2⟩ := HXB.out
    simp only at y0 y1 y2
    go_wp2_with fail
    first
      | (go_region_law (refine step_most_ (by rfl) _ _ (by rfl) g (0 + 1 + 1 + 1 + 1 + 2) (by rfl) (by omega) (by omega) HRr.out ?_; intro b w8 b0 b1 hr8 hg8; have hz8 := HZr.out.grown hg8 (by simp; omega); have HZ8 := hid_ hz8; obtain ⟨⟨x0, x1, x2⟩, f0, f1, f2⟩ := hz8; simp only at x0 x1 x2; have hb8 := HBr.out.grown hg8 (by simp; omega); obtain ⟨⟨u0, u1, u2⟩, v0, v1, v2⟩ := hb8; simp only at u0 u1 u2; have HG8 := hid_ hg8; clear hg8 hr8))
      | fail
    all_goals
      go_wp2
      exact bodyPost_ret (v := .tuple #[.agg #[.int .i64 k1, .int .i64 (1 + k2), .bool (k3 == 0)], .int .i64 m, .int .i64 b]) (by simp [results, Try.results29, go_sem, x0, x1, x2, f0, f1, f2]) rfl ⟨⟨k1, 1 + k2, k3 == 0⟩, m, b, rfl, ⟨hk10, by simp only; omega⟩, by simp only; omega, ⟨m0, m1⟩, ⟨b0, b1⟩, ((((HBB.out.trans (below_of_gbs G.out HBB.out.size (by omega))).drew.trans (below_of_gbs HG8.out (by simp; omega) (by omega))).setCell (Nat.le_refl _) _).setCell (Nat.le_refl _) _).setCell (Nat.le_refl _) _⟩
  · replace HXZ := hid_ (HXZ.out.grown (World.grownBy_alloc w5 (.cells #[.int .i64 (0), .int .i64 (201)] 3) (some g)) (by simp; omega))
    replace HXB := hid_ (HXB.out.grown (World.grownBy_alloc w5 (.cells #[.int .i64 (0), .int .i64 (201)] 3) (some g)) (by simp; omega))
    replace HR := hid_ (HR.out.alloc (.cells #[.int .i64 (0), .int .i64 (201)] 3))
    replace G := hid_ (gb_trans G.out (World.grownBy_alloc w5 (.cells #[.int .i64 (0), .int .i64 (201)] 3) (some g)))
    go_wp2_with fail
    refine (pick_any g (0 + 1 + 1 + 1 + 1) 2 _ (by omega) (by omega) (by omega) HR.out).mono ?_
    rintro e w6 ⟨k6, rfl, hk60, hk61, hx_, hr_, hg_⟩
    replace hk61 := hk61 (by omega)
    clear hx_
    obtain ⟨u6, hu6, cu6⟩ := lit_cell [0, 201] w5 w6 3 g hg_ (by omega) k6 hk60 (by simpa using hk61)
    have hs_hg_ := hg_.size
    try simp only [World.size_alloc, World.size_setCell] at hs_hg_
    replace HXZ := hid_ (HXZ.out.grown hg_ (by simp; omega))
    replace HXB := hid_ (HXB.out.grown hg_ (by simp; omega))
    replace G := hid_ (gb_trans G.out hg_); clear hg_
    replace HR := hid_ hr_; clear hr_
    have hu : u6 = 0 ∨ u6 = 201 := by simpa using hu6
    clear hu6
    obtain ⟨⟨y0, y1, y2⟩, z0, z1, z2⟩ := HXB.out
    simp only at y0 y1 y2
    have hs6 := G.out.size
    replace HXZ := hid_ (HXZ.out.grown (gb_setCell w6 w4.heap.size 1 (.int .i64 u6)) (by simp; omega))
    replace HXB := hid_ (show BoxQ (w6.setCell ⟨w4.heap.size, 1, none⟩ (.int .i64 u6)) w4.heap.size ⟨k1, u6, k3 == 0⟩ from ⟨⟨by simp [go_sem, y0], by simp [go_sem, y1], by simp [go_sem, y2]⟩, by rw [World.frozen?_setCell]; exact z0, by rw [World.frozen?_setCell]; exact z1, by rw [World.frozen?_setCell]; exact z2⟩)
    replace HR := hid_ (rdr_set HR.out (b := w4.heap.size) (o := 1) (v := .int .i64 u6) (by omega))
    replace G := hid_ (gb_set_new G.out (b := w4.heap.size) (o := 1) (v := .int .i64 u6) (by omega))
    go_wp2_with fail
    clear y0 y1 y2 z0 z1 z2
    refine (l20Most_any g (0 + 1 + 1 + 1 + 1 + 1) _ (by omega) (by omega) HR.out).mono ?_
    rintro e w7 ⟨m, rfl, m0, m1, hr_, hg_⟩
    replace HXZ := hid_ (HXZ.out.grown hg_ (by simp; omega))
    replace HXB := hid_ (HXB.out.grown hg_ (by simp; omega))
    replace G := hid_ (gb_trans G.out hg_)
    have hs7 := hg_.size
    try simp only [World.size_setCell] at hs7
    clear hg_
    replace HR := hid_ hr_; clear hr_
    have HRr := hid_ (show Rdr w7.drew g (0 + 1 + 1 + 1 + 1 + 1 + 2) from HR.out.keep (fun _ _ => rfl))
    have HZr := hid_ (show BoxQ w7.drew w.heap.size ⟨0, 0, false⟩ from HXZ.out)
    have HBr := hid_ (show BoxQ w7.drew w4.heap.size ⟨k1, u6, k3 == 0⟩ from HXB.out)
    obtain ⟨⟨y0, y1, y2⟩, z0, z1, z2⟩ := HXB.out
    simp only at y0 y1 y2
    go_wp2_with fail
    first
      | (go_region_law (refine step_most_ (by rfl) _ _ (by rfl) g (0 + 1 + 1 + 1 + 1 + 1 + 2) (by rfl) (by omega) (by omega) HRr.out ?_; intro b w8 b0 b1 hr8 hg8; have hz8 := HZr.out.grown hg8 (by simp; omega); have HZ8 := hid_ hz8; obtain ⟨⟨x0, x1, x2⟩, f0, f1, f2⟩ := hz8; simp only at x0 x1 x2; have hb8 := HBr.out.grown hg8 (by simp; omega); obtain ⟨⟨u0, u1, u2⟩, v0, v1, v2⟩ := hb8; simp only at u0 u1 u2; have HG8 := hid_ hg8; clear hg8 hr8))
      | fail
    all_goals
      go_wp2
      exact bodyPost_ret (v := .tuple #[.agg #[.int .i64 k1, .int .i64 u6, .bool (k3 == 0)], .int .i64 m, .int .i64 b]) (by simp [results, Try.results29, go_sem, x0, x1, x2, f0, f1, f2]) rfl ⟨⟨k1, u6, k3 == 0⟩, m, b, rfl, ⟨hk10, by simp only; omega⟩, by simp only; omega, ⟨m0, m1⟩, ⟨b0, b1⟩, ((((HBB.out.trans (below_of_gbs G.out HBB.out.size (by omega))).drew.trans (below_of_gbs HG8.out (by simp; omega) (by omega))).setCell (Nat.le_refl _) _).setCell (Nat.le_refl _) _).setCell (Nat.le_refl _) _⟩
end Go.Proofs.Ytmcpkoogcglomaa
