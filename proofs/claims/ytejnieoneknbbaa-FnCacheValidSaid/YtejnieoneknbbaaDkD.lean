/-
  Disks: what is drawn.
-/
import Derived.Test.YtejnieoneknbbaaTyped
import Derived.Test.YtejnieoneknbbaaApp
import Derived.Test.YtejnieoneknbbaaInts
namespace Go.Proofs.Ytejnieoneknbbaa
open Go.ChangeShapes Go.WideShapes Go.ChangeAt Go.RowKit Go.BigFrame

theorem gb_own {w wr w' : World} {row : Option Nat} {B E k n : Nat} {v : Value} {xs : List Value} (h : w.grownBy wr row) (ho : wr.ownsRow B E k v n xs) (hg : wr.grownBy w' v.ownBlock) (hB : w.heap.size ≤ B) : w.grownBy w' row :=
  ⟨hg.os.trans h.os, hg.tape.trans h.tape, hg.output.trans h.output, Nat.le_trans h.size hg.size, fun i hi hn =>
    (hg.block i (Nat.lt_of_lt_of_le hi h.size) (fun e => by have := (ho.lt i e.symm).1; omega)).trans (h.block i hi hn)⟩
theorem rdr_own {wr w' : World} {g : Nat} {p : Int} {B E k n : Nat} {v : Value} {xs : List Value} (h : Rdr wr g p) (ho : wr.ownsRow B E k v n xs) (hg : wr.grownBy w' v.ownBlock) (hB : g < B) : Rdr w' g p :=
  h.keep (fun b hb => hg.block b (by have := h.lt; omega) (fun e => by have := (ho.lt b e.symm).1; omega))
theorem gb_set_new {w wr : World} {row : Option Nat} {b o : Nat} {v : Value} (h : w.grownBy wr row) (hb : w.heap.size ≤ b) : w.grownBy (wr.setCell ⟨b, o, none⟩ v) row :=
  ⟨h.os, h.tape, h.output, by simpa using h.size, fun i hi hn => (Below.heap_setCell _ _ _ _ (show i ≠ b by omega)).trans (h.block i hi hn)⟩
theorem rdr_set {w : World} {g : Nat} {p : Int} {b o : Nat} {v : Value} (h : Rdr w g p) (hb : g < b) : Rdr (w.setCell ⟨b, o, none⟩ v) g p :=
  h.keep (fun i hi => Below.heap_setCell _ _ _ _ (show i ≠ b by omega))
theorem intC_set_ (X : List Int) (i : Nat) (v : Int) : (intC X).set i (.int .i64 v) = intC (X.set i v) := by simp [intC, List.map_set]

/-- a drawn disk, of the call's own -/
def DrawnDk (g : Nat) (q : Int) (w : World) (e : Ending) (w' : World) : Prop :=
  ∃ (d : List Int) (A : Option Addr) (c : Nat), e = .returned (.slice A d.length c) ∧ (d.length ≤ 10 ∨ d.length = 65) ∧ d.length ≤ c ∧ c ≤ maxLen ∧ w'.ownsRow w.heap.size 3 1 (.slice A d.length c) d.length (intC d) ∧ Rdr w' g q ∧ w.grownBy w' (some g)
theorem DrawnDk.mk_ {g : Nat} {q p : Int} {w w' : World} {v : Value} (d : List Int) (hl : d.length ≤ 10 ∨ d.length = 65) (ho : w'.ownsRow w.heap.size 3 1 v d.length (intC d)) (hR : Rdr w' g p) (hp : p ≤ q) (hg : w.grownBy w' (some g)) : DrawnDk g q w (.returned v) w' := by
  obtain ⟨A, c, rfl, h1, h2⟩ := own_shape ho
  exact ⟨d, A, c, rfl, hl, h1, h2, ho, hR.mono hp, hg⟩

set_option maxHeartbeats 2000000 in
theorem l20Disk_any (g : Nat) (n : Int) (w : World) (hn1 : -1000000 ≤ n) (hn : n ≤ 1000000) (hR : Rdr w g 0) :
    Calls Try.prog 59 #[.pointer (some ⟨g, 0, none⟩), .int .i64 10, .int .i64 n] w (DrawnDk g 60 w) := by
  have hlt := hR.lt
  have HR := hid_ (hR.alloc (.cells #[] 3)); clear hR
  have G := hid_ (World.grownBy_alloc w (.cells #[] 3) (some g))
  have HO := hid_ (own_empty w 3 1)
  go_enter Try.func59, Try.ntmps59
  go_wp2_with fail
  refine (pick_any g (0) 11 _ (by omega) (by omega) (by omega) HR.out).mono ?_
  rintro e w1 ⟨k1, rfl, hk10, hk11, hx_, hr_, hg_⟩
  replace hk11 := hk11 (by omega)
  clear hx_
  have HGo := hid_ hg_
  have hs_hg_ := hg_.size
  try simp only [World.size_alloc] at hs_hg_
  try simp only [World.size_setCell] at hs_hg_
  replace HO := hid_ (own_pick HO.out hg_ hlt)
  replace G := hid_ (gb_trans G.out hg_); clear hg_
  replace HR := hid_ hr_; clear hr_
  go_wp2
  go_loopw [7, 8] (fun v i wr => ∃ (k : Int) (l : List Int), 0 ≤ k ∧ k + l.length ≤ 10 ∧ i = .int .i64 k ∧ wr.ownsRow w.heap.size 3 1 v l.length (intC l) ∧ Rdr wr g (1 + 3 * l.length) ∧ w.grownBy wr (some g)) (fun _ i _ => (intOf i).toNat)
  case atStart => exact ⟨k1, [], by omega, by simp; omega, rfl, HO.out, HR.out.mono (by simp), G.out⟩
  case round =>
    obtain ⟨k, l, k0, hkl, rfl, ho, hr, hg⟩ := hrel
    clear HO HR G
    have HO := hid_ ho; clear ho
    have HR := hid_ hr; clear hr
    have G := hid_ hg; clear hg
    have hsz := G.out.size
    by_cases hlt2 : 0 < k
    · go_wp2_with fail
      refine (pick_any g ((1 + 3 * l.length)) 4 _ (by omega) (by omega) (by omega) HR.out).mono ?_
      rintro e w2 ⟨k2, rfl, hk20, hk21, hx_, hr_, hg_⟩
      replace hk21 := hk21 (by omega)
      clear hx_
      have HGo := hid_ hg_
      have hs_hg_ := hg_.size
      try simp only [World.size_alloc] at hs_hg_
      try simp only [World.size_setCell] at hs_hg_
      replace HO := hid_ (own_pick HO.out hg_ hlt)
      replace G := hid_ (gb_trans G.out hg_); clear hg_
      replace HR := hid_ hr_; clear hr_
      go_wp2_with fail
      refine (pick_any g ((1 + 3 * l.length + 1)) 256 _ (by omega) (by omega) (by omega) HR.out).mono ?_
      rintro e w3 ⟨k3, rfl, hk30, hk31, hx_, hr_, hg_⟩
      replace hk31 := hk31 (by omega)
      clear hx_
      have HGo := hid_ hg_
      have hs_hg_ := hg_.size
      try simp only [World.size_alloc] at hs_hg_
      try simp only [World.size_setCell] at hs_hg_
      replace HO := hid_ (own_pick HO.out hg_ hlt)
      replace G := hid_ (gb_trans G.out hg_); clear hg_
      replace HR := hid_ hr_; clear hr_
      have hs3 := G.out.size
      have hgw := hlt
      replace HO := hid_ (HO.out.alloc (.cells #[.int .i64 (0), .int .i64 (1), .int .i64 (k2), .int .i64 (k3), .int .i64 (255)] 3))
      replace HR := hid_ (HR.out.alloc (.cells #[.int .i64 (0), .int .i64 (1), .int .i64 (k2), .int .i64 (k3), .int .i64 (255)] 3))
      replace G := hid_ (gb_trans G.out (World.grownBy_alloc w3 (.cells #[.int .i64 (0), .int .i64 (1), .int .i64 (k2), .int .i64 (k3), .int .i64 (255)] 3) (some g)))
      go_wp2_with fail
      refine (pick_any g (1 + 3 * l.length + 1 + 1) 5 _ (by omega) (by omega) (by omega) HR.out).mono ?_
      rintro e w4 ⟨k4, rfl, hk40, hk41, hx_, hr_, hg_⟩
      replace hk41 := hk41 (by omega)
      clear hx_
      obtain ⟨u4, hu4, cu4⟩ := lit_cell [0, 1, k2, k3, 255] w3 w4 3 g hg_ (by omega) k4 hk40 (by simpa using hk41)
      have hs_hg_ := hg_.size
      try simp only [World.size_alloc] at hs_hg_
      try simp only [World.size_setCell] at hs_hg_
      replace HO := hid_ (own_pick HO.out hg_ hlt)
      replace G := hid_ (gb_trans G.out hg_); clear hg_
      replace HR := hid_ hr_; clear hr_
      have hs4 := G.out.size
      clear hu4
      go_wp2_with (at_builtin; refine wpList_push _ rfl _ _ 40 rfl w.heap.size 3 (.int .i64 0) 1 8 Try.underlying40 int_info rfl (by decide) (by decide) _ _ rfl rfl _ _ _ HO.out rfl _ rfl (by simp) (by omega) (by omega) ?_; intro v' w' ho' hg')
      go_roundw
      case rel =>
        refine ⟨k - 1, l ++ [u4], by omega, by simp; omega, by go_num, own_eq ho' (by simp) (by rw [intC_append]; rfl), ?_, gb_own G.out HO.out hg' (Nat.le_refl _)⟩
        exact (rdr_own HR.out HO.out hg' hlt).mono (by simp; omega)
      case measure => simp [intOf] <;> omega
    · have hl10 : l.length ≤ 10 := by omega
      obtain ⟨A, c, rfl, hc1, hc2⟩ := own_shape HO.out
      have HC2 := hid_ hc2; clear hc2
      go_wp2_with fail
      refine (odd_any g ((1 + 3 * l.length)) n _ (by omega) (by omega) (by omega) HR.out).mono ?_
      rintro e w3 ⟨b, rfl, hr_, hg_⟩
      have HGo := hid_ hg_
      have hs_hg_ := hg_.size
      try simp only [World.size_alloc] at hs_hg_
      try simp only [World.size_setCell] at hs_hg_
      replace HO := hid_ (own_pick HO.out hg_ hlt)
      replace G := hid_ (gb_trans G.out hg_); clear hg_
      replace HR := hid_ hr_; clear hr_
      have hs3 := G.out.size
      cases b
      · go_wp2
        go_returns
        exact DrawnDk.mk_ l (.inl hl10) HO.out HR.out (by omega) G.out
      · by_cases hl0 : l.length = 0
        · have hl1 : l = [] := List.eq_nil_of_length_eq_zero hl0
          subst hl1
          simp only [List.length_nil] at *
          obtain ⟨i0, hi, hz0, hz1, hz2⟩ := info_parts int_info
          go_wp2_with (at_make; refine wpList_make_full _ rfl _ _ 40 rfl w.heap.size 3 i0 _ 1 Try.underlying40 hi hz0 hz1 .i64 .i64 _ _ 65 rfl rfl rfl rfl (by rw [hz2]; omega) (by simp only [maxLen]; omega) hs3 ?_; intro w7 ho7 hg7; have HO7 := hid_ (own_eq ho7 rfl (show (madeCells (Value.int .i64 0).cells (65 * 1)).toList = intC (List.replicate 65 0) by kernel_rfl)); have HG7 := hid_ hg7; clear ho7 hg7)
          go_returns
          exact DrawnDk.mk_ (List.replicate 65 0) (.inr (by simp)) HO7.out (HR.out.keep (fun b hb => HG7.out.block b (by have := HR.out.lt; omega) (by simp))) (by omega) (gb_trans G.out ⟨HG7.out.os, HG7.out.tape, HG7.out.output, HG7.out.size, fun b hb hn => HG7.out.block b hb (by simp)⟩)
        · have hpos : (0 : Int) < (l.length : Int) := by omega
          have hpn : 0 < l.length := by omega
          go_wp2_with fail
          refine (pick_any g ((1 + 3 * l.length + 1)) 2 _ (by omega) (by omega) (by omega) HR.out).mono ?_
          rintro e w4 ⟨k4, rfl, hk40, hk41, hx_, hr_, hg_⟩
          replace hk41 := hk41 (by omega)
          clear hx_
          have HGo := hid_ hg_
          have hs_hg_ := hg_.size
          try simp only [World.size_alloc] at hs_hg_
          try simp only [World.size_setCell] at hs_hg_
          replace HO := hid_ (own_pick HO.out hg_ hlt)
          replace G := hid_ (gb_trans G.out hg_); clear hg_
          replace HR := hid_ hr_; clear hr_
          have hs4 := G.out.size
          have hk4 : k4 = 0 ∨ k4 = 1 := by omega
          rcases hk4 with rfl | rfl
          · go_wp2_with fail
            refine (pick_any g ((1 + 3 * l.length + 1 + 1)) l.length _ (by omega) (by omega) (by omega) HR.out).mono ?_
            rintro e w5 ⟨j, rfl, hj0, hj1, hx_, hr_, hg_⟩
            replace hj1 := hj1 (by omega)
            clear hx_
            have HGo := hid_ hg_
            have hs_hg_ := hg_.size
            try simp only [World.size_alloc] at hs_hg_
            try simp only [World.size_setCell] at hs_hg_
            replace HO := hid_ (own_pick HO.out hg_ hlt)
            replace G := hid_ (gb_trans G.out hg_); clear hg_
            replace HR := hid_ hr_; clear hr_
            obtain ⟨j, rfl⟩ := Int.eq_ofNat_of_zero_le hj0
            have hjl : j < l.length := by omega
            have hjc : (j : Int) < (l.length : Int) := by omega
            have hlg := G.out.size
            replace HO := hid_ (HO.out.alloc (.cells #[.int .i64 (-1), .int .i64 (256)] 3))
            replace HR := hid_ (HR.out.alloc (.cells #[.int .i64 (-1), .int .i64 (256)] 3))
            replace G := hid_ (gb_trans G.out (World.grownBy_alloc w5 (.cells #[.int .i64 (-1), .int .i64 (256)] 3) (some g)))
            go_wp2_with fail
            refine (pick_any g (1 + 3 * l.length + 1 + 1 + 1) 2 _ (by omega) (by omega) (by omega) HR.out).mono ?_
            rintro e w6 ⟨k6, rfl, hk60, hk61, hx_, hr_, hg_⟩
            replace hk61 := hk61 (by omega)
            clear hx_
            obtain ⟨u6, hu6, cu6⟩ := lit_cell [-1, 256] w5 w6 3 g hg_ (by omega) k6 hk60 (by simpa using hk61)
            have hs_hg_ := hg_.size
            try simp only [World.size_alloc] at hs_hg_
            try simp only [World.size_setCell] at hs_hg_
            replace HO := hid_ (own_pick HO.out hg_ hlt)
            replace G := hid_ (gb_trans G.out hg_); clear hg_
            replace HR := hid_ hr_; clear hr_
            obtain ⟨gb, rfl, hB, hgl, _, _⟩ := own_block HO.out hpn
            obtain ⟨v0, c0, f0⟩ := own_store HO.out j (by omega)
            clear hu6
            go_wp2
            go_returns
            have s1 := HO.out.stored j (.int .i64 u6)
            exact DrawnDk.mk_ (l.set j u6) (.inl (by simpa using hl10)) (own_eq s1.1 (by simp) (intC_set_ l j u6)) (rdr_own HR.out HO.out s1.2 hlt) (by omega) (gb_own G.out HO.out s1.2 (Nat.le_refl _))
          · obtain ⟨i0, hi, hz0, hz1, hz2⟩ := info_parts int_info
            go_wp2_with (at_make; refine wpList_make_full _ rfl _ _ 40 rfl w.heap.size 3 i0 _ 1 Try.underlying40 hi hz0 hz1 .i64 .i64 _ _ 65 rfl rfl rfl rfl (by rw [hz2]; omega) (by simp only [maxLen]; omega) hs4 ?_; intro w7 ho7 hg7; have HO7 := hid_ (own_eq ho7 rfl (show (madeCells (Value.int .i64 0).cells (65 * 1)).toList = intC (List.replicate 65 0) by kernel_rfl)); have HG7 := hid_ hg7; clear ho7 hg7)
            go_returns
            exact DrawnDk.mk_ (List.replicate 65 0) (.inr (by simp)) HO7.out (HR.out.keep (fun b hb => HG7.out.block b (by have := HR.out.lt; omega) (by simp))) (by omega) (gb_trans G.out ⟨HG7.out.os, HG7.out.tape, HG7.out.output, HG7.out.size, fun b hb hn => HG7.out.block b hb (by simp)⟩)
end Go.Proofs.Ytejnieoneknbbaa
