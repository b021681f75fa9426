/-
  Tags: what is drawn.
-/
import Derived.Test.YtddmakhfdkljfaaTgC
import Derived.Test.YtddmakhfdkljfaaTyped
import Derived.Deep.RegionHeld3
import Derived.Deep.RegionLaw
import Derived.StillTailTactics
namespace Go.Proofs.Ytddmakhfdkljfaa
open Go.ChangeShapes Go.WideShapes Go.ChangeAt Go.RowKit Go.BigFrame

theorem gb_own {w wr w' : World} {row : Option Nat} {B E k n : Nat} {v : Value} {xs : List Value} (h : w.grownBy wr row) (ho : wr.ownsRow B E k v n xs) (hg : wr.grownBy w' v.ownBlock) (hB : w.heap.size ≤ B) : w.grownBy w' row :=
  ⟨hg.os.trans h.os, hg.tape.trans h.tape, hg.output.trans h.output, Nat.le_trans h.size hg.size, fun i hi hn =>
    (hg.block i (Nat.lt_of_lt_of_le hi h.size) (fun e => by have := (ho.lt i e.symm).1; omega)).trans (h.block i hi hn)⟩
theorem rdr_own {wr w' : World} {g : Nat} {p : Int} {B E k n : Nat} {v : Value} {xs : List Value} (h : Rdr wr g p) (ho : wr.ownsRow B E k v n xs) (hg : wr.grownBy w' v.ownBlock) (hB : g < B) : Rdr w' g p :=
  h.keep (fun b hb => hg.block b (by have := h.lt; omega) (fun e => by have := (ho.lt b e.symm).1; omega))
theorem gb_set_new {w wr : World} {row : Option Nat} {b o : Nat} {v : Value} (h : w.grownBy wr row) (hb : w.heap.size ≤ b) : w.grownBy (wr.setCell ⟨b, o, none⟩ v) row :=
  ⟨h.os, h.tape, h.output, by simpa using h.size, fun i hi hn => (Below.heap_setCell _ _ _ _ (show i ≠ b by omega)).trans (h.block i hi hn)⟩
theorem rdr_set {w : World} {g : Nat} {p : Int} {b o : Nat} {v : Value} (h : Rdr w g p) (hb : g < b) : Rdr (w.setCell ⟨b, o, none⟩ v) g p :=
  h.keep (fun i hi => Below.heap_setCell _ _ _ _ (show i ≠ b by omega))

/-- a box with one cell that may be written -/
def Box1 (w : World) (b : Nat) (v : Value) : Prop := w.cell? ⟨b, 0, none⟩ = some v ∧ w.frozen? ⟨b, 0, none⟩ = false
theorem Box1.grown {w w' : World} {b : Nat} {v : Value} {row : Option Nat} (h : Box1 w b v) (hg : w.grownBy w' row) (hne : row ≠ some b) : Box1 w' b v := by
  have hb := hg.block b (cell_lt h.1) hne.symm
  exact ⟨(World.cell?_of_block (w := w) hb).trans h.1, (World.frozen?_of_block (w := w) hb).trans h.2⟩
theorem Box1.set {w : World} {b : Nat} {v : Value} (h : Box1 w b v) (u : Value) : Box1 (w.setCell ⟨b, 0, none⟩ u) b u := by
  refine ⟨?_, by rw [World.frozen?_setCell]; exact h.2⟩
  simp [go_sem, h.1]

theorem rd_bo1 (w : World) (b : Bool) (g : Nat) (hg : w.heap.size = g) : Rd (w.alloc (.cells #[.bool b] 4)) 1 (some ⟨g, 0, none⟩) 1 (boC [b]) := by
  subst hg
  exact ⟨rfl, fun _ => ⟨_, _, rfl, fun j u hu => by
    have := news_alloc w [.bool b] 4 j u hu
    rwa [add_mid] at this⟩⟩

theorem run_push_bo (w : World) (B : Nat) (v : Value) (n : Nat) (l : List Bool) (b : Bool) (ty : TypeId) (hown : w.ownsRow B 4 1 v n (boC l)) (hn : n ≤ 1000) (hB : B ≤ w.heap.size) :
    ∃ A2 c2 w', (Builtin.append_ #[23, 23] ty #[v, .slice (some ⟨w.heap.size, 0, none⟩) 1 1]).run Try.prog (w.alloc (.cells #[.bool b] 4)) = .ok (.slice A2 (n + 1) c2) w' ∧
      w'.ownsRow B 4 1 (.slice A2 (n + 1) c2) (n + 1) (boC (l ++ [b])) ∧ (w.alloc (.cells #[.bool b] 4)).grownBy w' v.ownBlock := by
  obtain ⟨i0, hi, hz0, hz1, hz2⟩ := info_parts bo_info
  obtain ⟨v', w', h1, h2, h3, _⟩ := run_append_own (P := Try.prog) (w.alloc (.cells #[.bool b] 4)) B 23 ty 4 i0 (.bool false) 1 1 Try.underlying23 hi hz0 hz1 hz2 rfl (by omega) v n (boC l) (hown.alloc _) ⟨w.heap.size, 0, none⟩ 1 1 [.bool b] rfl (news_alloc w [.bool b] 4) (boC_one [b]) (by simp only [maxLen]; omega) (by omega) (by simp; omega)
  obtain ⟨A2, c2, rfl, _, _⟩ := own_shape h2
  exact ⟨A2, c2, w', h1, own_eq h2 rfl (by rw [boC_append]; rfl), h3⟩

/-- drawn tags -/
def DrawnT (g : Nat) (q : Int) (w : World) (e : Ending) (w' : World) : Prop :=
  ∃ (l : List Bool) (A : Option Addr) (c : Nat), e = .returned (.agg #[.slice A l.length c]) ∧ l.length ≤ 20 ∧ l.length ≤ c ∧ c ≤ maxLen ∧ w'.ownsRow w.heap.size 4 1 (.slice A l.length c) l.length (boC l) ∧ Rdr w' g q ∧ w.grownBy w' (some g)
theorem DrawnT.mk_ {g : Nat} {q p : Int} {w w' : World} {A : Option Addr} {n c : Nat} (l : List Bool) (hl : l.length ≤ 20) (hn : l.length = n) (ho : w'.ownsRow w.heap.size 4 1 (.slice A n c) n (boC l)) (hR : Rdr w' g p) (hp : p ≤ q) (hg : w.grownBy w' (some g)) : DrawnT g q w (.returned (.agg #[.slice A n c])) w' := by
  subst hn
  obtain ⟨A', c', e, h1, h2⟩ := own_shape ho
  injection e with e1 e2 e3
  subst e1; subst e3
  exact ⟨l, A, c, rfl, hl, h1, h2, ho, hR.mono hp, hg⟩

set_option maxHeartbeats 4000000 in
theorem l20Tags_any (g : Nat) (n : Int) (w : World) (hn1 : -1000000 ≤ n) (hn : n ≤ 1000000) (hR : Rdr w g 0) :
    Calls Try.prog 16 #[.pointer (some ⟨g, 0, none⟩), .int .i64 n] w (DrawnT g 100 w) := by
  have hlt := hR.lt
  obtain ⟨W, hW⟩ : ∃ W, W = (w.alloc (.cells #[.slice none 0 0] 25)).alloc (.cells #[.slice none 0 0] 25) := ⟨_, rfl⟩
  have HR := hid_ (show Rdr W g 0 by rw [hW]; exact (hR.alloc _).alloc _)
  have G := hid_ (show w.grownBy W (some g) by rw [hW]; exact gb_trans (World.grownBy_alloc _ _ _) (World.grownBy_alloc _ _ _))
  have HX := hid_ (show Box1 W (w.heap.size + 1) (.slice none 0 0) by rw [hW]; exact ⟨by simp [go_sem], by simp [go_sem]⟩)
  have HX0 := hid_ (show Box1 W w.heap.size (.slice none 0 0) by rw [hW]; exact ⟨by simp [go_sem], by simp [go_sem]⟩)
  have hWs : W.heap.size = w.heap.size + 2 := by rw [hW]; simp
  go_enter Try.func16, Try.ntmps16
  go_wp2_with fail
  rw [← hW]
  clear hW hR
  go_wp2_with fail
  refine (pick_any g (0) 3 _ (by omega) (by omega) (by omega) HR.out).mono ?_
  rintro e w1 ⟨kf, rfl, hkf0, hkf1, hx_, hr_, hg_⟩
  replace hkf1 := hkf1 (by omega)
  clear hx_
  have HGo := hid_ hg_
  have hs_hg_ := hg_.size
  try simp only [World.size_alloc, World.size_setCell] at hs_hg_
  replace HX := hid_ (HX.out.grown hg_ (by simp; omega))
  replace HX0 := hid_ (HX0.out.grown hg_ (by simp; omega))
  replace G := hid_ (gb_trans G.out hg_); clear hg_
  replace HR := hid_ hr_; clear hr_
  go_wp2_with fail
  refine (pick_any g (0 + 1) 8 _ (by omega) (by omega) (by omega) HR.out).mono ?_
  rintro e w2 ⟨k1, rfl, hk10, hk11, hx_, hr_, hg_⟩
  replace hk11 := hk11 (by omega)
  clear hx_
  have HGo := hid_ hg_
  have hs_hg_ := hg_.size
  try simp only [World.size_alloc, World.size_setCell] at hs_hg_
  replace HX := hid_ (HX.out.grown hg_ (by simp; omega))
  replace HX0 := hid_ (HX0.out.grown hg_ (by simp; omega))
  replace G := hid_ (gb_trans G.out hg_); clear hg_
  replace HR := hid_ hr_; clear hr_
  have hw2 := G.out.size
  have hs2 : w.heap.size + 2 ≤ w2.heap.size := by omega
  go_wp2
  go_loopw [7] (fun i wr => ∃ (k : Int) (l : List Bool) (v : Value), 0 ≤ k ∧ k + l.length ≤ 7 ∧ i = .int .i64 k ∧ Box1 wr (w.heap.size + 1) v ∧ Box1 wr w.heap.size (.slice none 0 0) ∧ wr.ownsRow (w.heap.size + 2) 4 1 v l.length (boC l) ∧ Rdr wr g (2 + l.length) ∧ w.grownBy wr (some g) ∧ w.heap.size + 2 ≤ wr.heap.size) (fun i _ => (intOf i).toNat)
  case atStart => exact ⟨k1, [], .slice none 0 0, by omega, by simp <;> omega, rfl, HX.out, HX0.out, World.ownsRow_nil _ _ _ _, HR.out.mono (by simp), G.out, hs2⟩
  case round =>
    obtain ⟨k, l, v, k0, hkl, rfl, hx, hx0, ho, hr, hg, hs⟩ := hrel
    clear HX HX0 HR G
    have HX := hid_ hx
    have HX0 := hid_ hx0; clear hx0
    have HO := hid_ ho; clear ho
    have HR := hid_ hr; clear hr
    have G := hid_ hg; clear hg
    obtain ⟨A, c, rfl, hc1, hc2⟩ := own_shape HO.out
    have HC2 := hid_ hc2; clear hc2
    have hnb := hid_ (show (Value.slice A l.length c).ownBlock ≠ some (w.heap.size + 1) from fun e => by have := (HO.out.lt _ e).1; omega)
    have hnb0 := hid_ (show (Value.slice A l.length c).ownBlock ≠ some w.heap.size from fun e => by have := (HO.out.lt _ e).1; omega)
    by_cases hlt2 : 0 < k
    · obtain ⟨cb, fb⟩ := hx
      have hlb : w.heap.size + 1 < wr.heap.size := by omega
      cases hkf : (kf == 0)
      · have hl3 : w.heap.size ≤ wr.heap.size := by omega
        have HXr := hid_ (show Box1 wr.drew (w.heap.size + 1) (.slice A l.length c) from HX.out)
        have HX0r := hid_ (show Box1 wr.drew w.heap.size (.slice none 0 0) from HX0.out)
        have HRr := hid_ (show Rdr wr.drew g (2 + l.length) from HR.out.keep (fun _ _ => rfl))
        have Gr := hid_ (show w.grownBy wr.drew (some g) from ⟨G.out.os, G.out.tape, G.out.output, G.out.size, G.out.block⟩)
        go_wp2_with fail
        first
          | (go_region_law (first
              | (refine step_pick_ (by rfl) _ _ _ (by rfl) g (2 + l.length) 2 (by rfl) (by rfl) (by omega) (by omega) (by omega) HRr.out ?_; intro k5 w5 hk50 hk51 hr5 hg5; have cb5 : w5.cell? ⟨w.heap.size + 1, 0, none⟩ = some (.slice A l.length c) := hg5.cell cb (by simp <;> omega); have HG5 := hid_ hg5; have HR5 := hid_ hr5; clear hk51; have HO5 := hid_ (own_pick HO.out.drew hg5 (by omega)); have hs5 := hg5.size; simp only [World.size_drew] at hs5; clear hg5 hr5; have hl5 : w.heap.size + 1 < w5.heap.size := by omega)
              | (refine step_append_rd _ (by rfl) _ _ _ (by rfl) (w.heap.size + 2) 4 (.bool false) 1 1 Try.underlying23 bo_info rfl (by decide) (by decide) _ _ _ (HO5.out.alloc _) (by rfl) _ _ _ _ (rd_bo1 _ (k5 == 0) _ (by first | rfl | simp)) (by rfl) (boC_one [_]) (by omega) (by simp <;> omega) ?_; intro v' w' ho' hg'; obtain ⟨A2, c2, rfl, hc2, hcm2⟩ := own_shape ho'; have hxb := (((HXr.out.grown HG5.out (by simp <;> omega)).grown (World.grownBy_alloc w5 (.cells #[.bool (k5 == 0)] 4) none) (by simp))).grown hg' hnb.out; have HXB := hid_ hxb; obtain ⟨cb2, fb2⟩ := hxb; have hg2 := hg'.size; simp only [World.size_alloc] at hg2; have HO' := hid_ ho'; have HG' := hid_ hg'; clear ho' hg' hcm2)))
          | fail
        all_goals
          go_wp2
          go_roundw
          case rel =>
            have hnb2 : (Value.slice A2 (l.length + 1) c2).ownBlock ≠ some (w.heap.size + 1) := fun e => by have := (HO'.out.lt _ e).1; omega
            refine ⟨k - 1, l ++ [k5 == 0], _, by omega, by simp <;> omega, rfl, HXB.out.set _, ((((HX0r.out.grown HG5.out (by simp <;> omega)).grown (World.grownBy_alloc w5 (.cells #[.bool (k5 == 0)] 4) none) (by simp))).grown HG'.out hnb0.out).grown (gb_setCell _ _ _ _) (by simp), own_set (own_eq HO'.out (by simp) (by rw [boC_append])) hnb2, ?_, gb_set_new (gb_own (gb_trans (gb_trans Gr.out HG5.out) (World.grownBy_alloc _ _ _)) (HO5.out.alloc _) HG'.out (by omega)) (by omega), by simp <;> omega⟩
            exact (rdr_set (rdr_own (HR5.out.alloc _) (HO5.out.alloc _) HG'.out (by omega)) (by omega)).mono (by simp <;> omega)
          case measure => simp [intOf] <;> omega
      · have hkf3 : kf = 0 := by simpa using hkf
        subst hkf3
        have HXd := hid_ ((show Box1 wr.drew (w.heap.size + 1) (.slice A l.length c) from HX.out).grown (World.grownBy_alloc wr.drew (.cells #[.bool true] 4) none) (by simp))
        have HXd0 := hid_ ((show Box1 wr.drew w.heap.size (.slice none 0 0) from HX0.out).grown (World.grownBy_alloc wr.drew (.cells #[.bool true] 4) none) (by simp))
        go_wp2_with fail
        first
          | (go_region_law (refine step_append_rd _ (by rfl) _ _ _ (by rfl) (w.heap.size + 2) 4 (.bool false) 1 1 Try.underlying23 bo_info rfl (by decide) (by decide) _ _ _ (HO.out.drew.alloc _) (by rfl) _ _ _ _ (rd_bo1 _ true _ (by first | rfl | simp)) (by rfl) (boC_one [true]) (by omega) (by simp <;> omega) ?_; intro v' w' ho' hg'; obtain ⟨A2, c2, rfl, hc2, hcm2⟩ := own_shape ho'; have hxb : Box1 w' (w.heap.size + 1) _ := HXd.out.grown hg' hnb.out; have HXB := hid_ hxb; obtain ⟨cb2, fb2⟩ := hxb; have hg2 := hg'.size; simp only [World.size_alloc, World.size_drew] at hg2; have HO' := hid_ ho'; have HG' := hid_ hg'; clear ho' hg' hcm2))
          | fail
        all_goals
          go_wp2
          go_roundw
          case rel =>
            have hnb2 : (Value.slice A2 (l.length + 1) c2).ownBlock ≠ some (w.heap.size + 1) := fun e => by have := (HO'.out.lt _ e).1; omega
            refine ⟨k - 1, l ++ [true], _, by omega, by simp <;> omega, rfl, HXB.out.set _, (HXd0.out.grown HG'.out hnb0.out).grown (gb_setCell _ _ _ _) (by simp), own_set (own_eq HO'.out (by simp) (by rw [boC_append])) hnb2, ?_, gb_set_new (gb_own (gb_trans (row := some g) (show w.grownBy wr.drew (some g) from ⟨G.out.os, G.out.tape, G.out.output, G.out.size, G.out.block⟩) (World.grownBy_alloc _ _ _)) (HO.out.drew.alloc _) HG'.out (by omega)) (by omega), by simp <;> omega⟩
            exact (rdr_set (rdr_own ((HR.out.keep (w' := wr.drew) (fun _ _ => rfl)).alloc _) (HO.out.drew.alloc _) HG'.out (by omega)) (by omega)).mono (by simp <;> omega)
          case measure => simp [intOf] <;> omega
    · obtain ⟨cb, fb⟩ := hx
      have hlb : w.heap.size + 1 < wr.heap.size := by omega
      go_wp2_with fail
      refine (odd_any g ((2 + l.length)) n _ (by omega) (by omega) (by omega) HR.out).mono ?_
      rintro e w5 ⟨b, rfl, hr_, hg_⟩
      have HGo := hid_ hg_
      have hs_hg_ := hg_.size
      try simp only [World.size_alloc, World.size_setCell] at hs_hg_
      replace HX := hid_ (HX.out.grown hg_ (by simp; omega))
      replace HX0 := hid_ (HX0.out.grown hg_ (by simp; omega))
      replace G := hid_ (gb_trans G.out hg_); clear hg_
      replace HR := hid_ hr_; clear hr_
      replace HO := hid_ (own_pick HO.out (show wr.grownBy w5 (some g) from HGo.out) (by omega))
      cases b
      · obtain ⟨cb5, fb5⟩ := HX.out
        obtain ⟨cb6, fb6⟩ := HX0.out
        have hl5 : w.heap.size + 1 < w5.heap.size := cell_lt cb5
        have hl6 : w.heap.size < w5.heap.size := cell_lt cb6
        go_wp2
        have hnb5 : (Value.slice A l.length c).ownBlock ≠ some w.heap.size := hnb0.out
        exact bodyPost_ret (v := .agg #[.slice A l.length c]) (by simp [results, Try.results16, go_sem, cb6, fb6]) rfl (DrawnT.mk_ l (by omega) rfl (own_base (own_set HO.out hnb5) (by omega)) (rdr_set HR.out (by omega)) (by omega) (gb_set_new G.out (Nat.le_refl _)))
      · go_wp2_with fail
        refine (pick_any g ((2 + l.length + 1)) 2 _ (by omega) (by omega) (by omega) HR.out).mono ?_
        rintro e w6 ⟨k6, rfl, hk60, hk61, hx_, hr_, hg_⟩
        replace hk61 := hk61 (by omega)
        clear hx_
        have HGo := hid_ hg_
        have hs_hg_ := hg_.size
        try simp only [World.size_alloc, World.size_setCell] at hs_hg_
        replace HX := hid_ (HX.out.grown hg_ (by simp; omega))
        replace HX0 := hid_ (HX0.out.grown hg_ (by simp; omega))
        replace G := hid_ (gb_trans G.out hg_); clear hg_
        replace HR := hid_ hr_; clear hr_
        obtain ⟨cb5, fb5⟩ := HX.out
        obtain ⟨cb6, fb6⟩ := HX0.out
        have hl5 : w.heap.size + 1 < w6.heap.size := cell_lt cb5
        have hl6 : w.heap.size < w6.heap.size := cell_lt cb6
        obtain ⟨i0, hi, hz0, hz1, hz2⟩ := info_parts bo_info
        have hk : k6 = 0 ∨ k6 = 1 := by omega
        rcases hk with rfl | rfl
        · go_wp2_with (at_make; refine wpList_make_full _ rfl _ _ 23 rfl (w.heap.size + 2) 4 i0 _ 1 Try.underlying23 hi hz0 hz1 .i64 .i64 _ _ 16 rfl rfl rfl rfl (by rw [hz2]; omega) (by simp only [maxLen]; omega) (by omega) ?_; intro w7 ho7 hg7; have hx7 := HX.out.grown hg7 (by simp); have hx8 := HX0.out.grown hg7 (by simp); have HX7 := hid_ hx7; obtain ⟨cb7, fb7⟩ := hx7; obtain ⟨cb8, fb8⟩ := hx8; have hl7 : w.heap.size + 1 < w7.heap.size := cell_lt cb7; have hl8 : w.heap.size < w7.heap.size := cell_lt cb8; have HO7 := hid_ (own_eq ho7 rfl (show (madeCells (Value.bool false).cells (16 * 1)).toList = boC (List.replicate 16 false) by kernel_rfl)); have HG7 := hid_ hg7; clear ho7 hg7)
          have hne : w6.heap.size ≠ w.heap.size + 1 := by omega
          have hne' : w6.heap.size ≠ w.heap.size := by omega
          exact bodyPost_ret (v := .agg #[.slice (some ⟨w6.heap.size, 0, none⟩) 16 16]) (by simp [results, Try.results16, go_sem, cb8, fb8, cb7, fb7]) rfl (DrawnT.mk_ (List.replicate 16 false) (by simp) (by simp) (own_base (own_set (own_set HO7.out (by simp [Value.ownBlock]; omega)) (by simp [Value.ownBlock]; omega)) (by omega)) (rdr_set (rdr_set (HR.out.keep (fun b hb => HG7.out.block b (by have := HR.out.lt; omega) (by simp))) (by omega)) (by omega)) (by omega) (gb_set_new (gb_set_new (gb_trans G.out ⟨HG7.out.os, HG7.out.tape, HG7.out.output, HG7.out.size, fun b hb hn => HG7.out.block b hb (by simp)⟩) (by omega)) (by omega)))
        · go_wp2_with (at_make; refine wpList_make_full _ rfl _ _ 23 rfl (w.heap.size + 2) 4 i0 _ 1 Try.underlying23 hi hz0 hz1 .i64 .i64 _ _ 17 rfl rfl rfl rfl (by rw [hz2]; omega) (by simp only [maxLen]; omega) (by omega) ?_; intro w7 ho7 hg7; have hx7 := HX.out.grown hg7 (by simp); have hx8 := HX0.out.grown hg7 (by simp); have HX7 := hid_ hx7; obtain ⟨cb7, fb7⟩ := hx7; obtain ⟨cb8, fb8⟩ := hx8; have hl7 : w.heap.size + 1 < w7.heap.size := cell_lt cb7; have hl8 : w.heap.size < w7.heap.size := cell_lt cb8; have HO7 := hid_ (own_eq ho7 rfl (show (madeCells (Value.bool false).cells (17 * 1)).toList = boC (List.replicate 17 false) by kernel_rfl)); have HG7 := hid_ hg7; clear ho7 hg7)
          have hne : w6.heap.size ≠ w.heap.size + 1 := by omega
          have hne' : w6.heap.size ≠ w.heap.size := by omega
          exact bodyPost_ret (v := .agg #[.slice (some ⟨w6.heap.size, 0, none⟩) 17 17]) (by simp [results, Try.results16, go_sem, cb8, fb8, cb7, fb7]) rfl (DrawnT.mk_ (List.replicate 17 false) (by simp) (by simp) (own_base (own_set (own_set HO7.out (by simp [Value.ownBlock]; omega)) (by simp [Value.ownBlock]; omega)) (by omega)) (rdr_set (rdr_set (HR.out.keep (fun b hb => HG7.out.block b (by have := HR.out.lt; omega) (by simp))) (by omega)) (by omega)) (by omega) (gb_set_new (gb_set_new (gb_trans G.out ⟨HG7.out.os, HG7.out.tape, HG7.out.output, HG7.out.size, fun b hb hn => HG7.out.block b hb (by simp)⟩) (by omega)) (by omega)))
end Go.Proofs.Ytddmakhfdkljfaa
