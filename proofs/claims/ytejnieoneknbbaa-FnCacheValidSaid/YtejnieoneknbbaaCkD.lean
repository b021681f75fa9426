/-
  Caches: what is drawn.
-/
import Derived.Test.YtejnieoneknbbaaDkD
import Derived.Test.YtejnieoneknbbaaCaI
import Derived.Test.YtejnieoneknbbaaCaF
namespace Go.Proofs.Ytejnieoneknbbaa
open Go.ChangeShapes Go.WideShapes Go.ChangeAt Go.RowKit Go.BigFrame

def BoxC (w : World) (b : Nat) (v : Value) (m : Int) : Prop := OutBox w b v m
theorem BoxC.grown {w w' : World} {b : Nat} {v : Value} {m : Int} {row : Option Nat} (h : BoxC w b v m) (hg : w.grownBy w' row) (hne : row ≠ some b) : BoxC w' b v m :=
  OutBox.block h (hg.block b (OutBox.lt h) hne.symm)
theorem BoxC.alloc {w : World} {b : Nat} {v : Value} {m : Int} (h : BoxC w b v m) (o : Obj) : BoxC (w.alloc o) b v m := OutBox.alloc h o
theorem BoxC.setOther {w : World} {b c o : Nat} {v u : Value} {m : Int} (h : BoxC w b v m) (hne : b ≠ c) : BoxC (w.setCell ⟨c, o, none⟩ u) b v m :=
  OutBox.block h (Below.heap_setCell _ _ _ _ hne)
theorem OutBox.set1 {w : World} {b : Nat} {v : Value} {m : Int} (h : OutBox w b v m) (m' : Int) : OutBox (w.setCell ⟨b, 1, none⟩ (.int .i64 m')) b v m' := by
  unfold OutBox at *
  simp [World.setCell, Array.getElem?_modify, h]
theorem BoxC.new (w : World) (v : Value) (m : Int) : BoxC (w.alloc (.cells #[v, .int .i64 m] 29)) w.heap.size v m := by
  unfold BoxC OutBox
  exact heap_alloc_new w _

/-- a drawn cache whose lines are the call's own -/
def DrawnCk (g : Nat) (q : Int) (w : World) (e : Ending) (w' : World) : Prop :=
  ∃ (L : List Ln) (A : Option Addr) (c : Nat) (m : Int), e = .returned (.agg #[.slice A L.length c, .int .i64 m]) ∧ L.length ≤ 10 ∧ L.length ≤ c ∧ c ≤ maxLen ∧ w'.ownsRow w.heap.size 38 3 (.slice A L.length c) L.length (lnC L) ∧ Rdr w' g q ∧ w.grownBy w' (some g)
theorem DrawnCk.fin {g : Nat} {q p : Int} {w X : World} {v : Value} {m m0 : Int} {u0 : Value} (L : List Ln) (hl : L.length ≤ 10) (ho : X.ownsRow w.heap.size 38 3 v L.length (lnC L)) (h6 : BoxC X w.heap.size u0 m0) (hR : Rdr X g p) (hp : p ≤ q) (hg : w.grownBy X (some g)) (hlt : g < w.heap.size) (a b : Value) :
    DrawnCk g q w (.returned (.agg #[v, .int .i64 m])) ((X.setCell ⟨w.heap.size, 0, none⟩ a).setCell ⟨w.heap.size, 1, none⟩ b) := by
  have hne := OutBox.ne h6 ho (by decide)
  have ho2 := own_set (o := 1) (x := b) (own_set (o := 0) (x := a) ho hne) hne
  obtain ⟨A, c, rfl, h1, h2⟩ := own_shape ho
  exact ⟨L, A, c, m, rfl, hl, h1, h2, ho2, (rdr_set (rdr_set hR hlt) hlt).mono hp, gb_set_new (gb_set_new hg (Nat.le_refl _)) (Nat.le_refl _)⟩

/-- where the loop stands -/
def CkAt (w : World) (g : Nat) (p0 : Int) (size M β : Nat) (vk : Value) (wr : World) : Prop :=
  ∃ (k N : Nat) (L : List Ln) (v : Value), k ≤ size ∧ vk = .int .i64 (k : Int) ∧ L.length = N ∧ N ≤ M ∧ BoxC wr β v (M : Int) ∧ BoxC wr w.heap.size (.slice none 0 0) 0 ∧ wr.ownsRow w.heap.size 38 3 v N (lnC L) ∧ Rdr wr g (p0 + 1 + 4 * k) ∧ w.grownBy wr (some g)

set_option maxHeartbeats 4000000 in
theorem l20Cache_any (g : Nat) (p0 : Int) (size : Nat) (n : Int) (w : World) (hs : size ≤ 20) (h0 : 0 ≤ p0) (hp0 : p0 ≤ 10000) (hn1 : -1000000 ≤ n) (hn : n ≤ 1000000) (hR : Rdr w g p0) :
    Calls Try.prog 52 #[.pointer (some ⟨g, 0, none⟩), .int .i64 (size : Int), .int .i64 n] w (DrawnCk g (p0 + 100) w) := by
  have hlt := hR.lt
  have HR := hid_ (hR.alloc (.cells #[.slice none 0 0, .int .i64 0] 29)); clear hR
  have G := hid_ (World.grownBy_alloc w (.cells #[.slice none 0 0, .int .i64 0] 29) (some g))
  have HX6 := hid_ (BoxC.new w (.slice none 0 0) 0)
  go_enter Try.func52, Try.ntmps52
  go_wp2_with fail
  refine (pick_any g (p0) 5 _ (by omega) (by omega) (by omega) HR.out).mono ?_
  rintro e w1 ⟨k1, rfl, hk10, hk11, hx_, hr_, hg_⟩
  replace hk11 := hk11 (by omega)
  clear hx_
  have HGo := hid_ hg_
  have hs_hg_ := hg_.size
  try simp only [World.size_alloc] at hs_hg_
  try simp only [World.size_setCell] at hs_hg_
  replace HX6 := hid_ (HX6.out.grown hg_ (by simp; omega))
  replace G := hid_ (gb_trans G.out hg_); clear hg_
  replace HR := hid_ hr_; clear hr_
  obtain ⟨k1, rfl⟩ := Int.eq_ofNat_of_zero_le hk10
  obtain ⟨M, hM⟩ : ∃ M : Nat, 1 + k1 = M := ⟨_, rfl⟩
  have hMz : 1 + (k1 : Int) = (M : Int) := by omega
  have hM5 : M ≤ 5 := by omega
  have hs1 := G.out.size
  have HX7 := hid_ (BoxC.new w1 (.slice none 0 0) (M : Int))
  replace HX6 := hid_ (HX6.out.alloc (.cells #[.slice none 0 0, .int .i64 (M : Int)] 29))
  replace HR := hid_ (HR.out.alloc (.cells #[.slice none 0 0, .int .i64 (M : Int)] 29))
  replace G := hid_ (gb_trans G.out (World.grownBy_alloc w1 (.cells #[.slice none 0 0, .int .i64 (M : Int)] 29) (some g)))
  clear hM
  have HO := hid_ (World.ownsRow_nil (w1.alloc (.cells #[.slice none 0 0, .int .i64 (M : Int)] 29)) w.heap.size 38 3)
  have hβ0 : w.heap.size < w1.heap.size := by omega
  go_wp2
  clear hMz
  obtain ⟨β, hβ⟩ : ∃ β, w1.heap.size = β := ⟨_, rfl⟩
  simp only [hβ] at HX7 hβ0 ⊢
  have HBE := hid_ hβ; clear hβ
  have hgβ : g < β := by omega
  go_loopw [8] (fun vk wr => CkAt w g p0 size M β vk wr) (fun vk _ => size - (intOf vk).toNat)
  case atStart => exact ⟨0, 0, [], .slice none 0 0, Nat.zero_le _, rfl, rfl, Nat.zero_le _, HX7.out, HX6.out, HO.out, HR.out.mono (by omega), G.out⟩
  case round =>
    unfold CkAt at hrel
    obtain ⟨k, N, L, v, hk, rfl, hL, hNM, hx7, hx6, ho, hr, hg⟩ := hrel
    clear HX7 HX6 HO HR G
    have HL := hid_ hL; clear hL
    have HX7 := hid_ hx7; clear hx7
    have HX6 := hid_ hx6; clear hx6
    have HO := hid_ ho; clear ho
    have HR := hid_ hr; clear hr
    have G := hid_ hg; clear hg
    obtain ⟨A, c, rfl, hcN, hcm⟩ := own_shape HO.out
    have HC := hid_ hcm; clear hcm
    have y0 := OutBox.c0 HX7.out
    have y1 := OutBox.c1 HX7.out
    have hsz := G.out.size
    have hβw := OutBox.lt HX7.out
    by_cases hgo : k < size ∧ N < M
    · obtain ⟨hks, hNlt⟩ := hgo
      have hksz : (k : Int) < (size : Int) := by omega
      have hNMz : (N : Int) < (M : Int) := by omega
      go_wp2_with fail
      refine (pick_any g (p0 + 1 + 4 * (k : Int)) 3 _ (by omega) (by omega) (by omega) HR.out).mono ?_
      rintro e w3 ⟨k3, rfl, hk30, hk31, hx_, hr_, hg_⟩
      replace hk31 := hk31 (by omega)
      clear hx_
      have HGo := hid_ hg_
      have hs_hg_ := hg_.size
      try simp only [World.size_alloc] at hs_hg_
      try simp only [World.size_setCell] at hs_hg_
      replace HO := hid_ (own_pick HO.out hg_ hlt)
      replace HX7 := hid_ (HX7.out.grown hg_ (by simp; omega))
      replace HX6 := hid_ (HX6.out.grown hg_ (by simp; omega))
      replace G := hid_ (gb_trans G.out hg_); clear hg_
      replace HR := hid_ hr_; clear hr_
      clear y0 y1
      by_cases hk3 : k3 = 0
      · subst hk3
        go_wp2_with fail
        refine (pick_any g (p0 + 1 + 4 * (k : Int) + 1) 256 _ (by omega) (by omega) (by omega) HR.out).mono ?_
        rintro e w4 ⟨k4, rfl, hk40, hk41, hx_, hr_, hg_⟩
        replace hk41 := hk41 (by omega)
        clear hx_
        have HGo := hid_ hg_
        have hs_hg_ := hg_.size
        try simp only [World.size_alloc] at hs_hg_
        try simp only [World.size_setCell] at hs_hg_
        replace HO := hid_ (own_pick HO.out hg_ hlt)
        replace HX7 := hid_ (HX7.out.grown hg_ (by simp; omega))
        replace HX6 := hid_ (HX6.out.grown hg_ (by simp; omega))
        replace G := hid_ (gb_trans G.out hg_); clear hg_
        replace HR := hid_ hr_; clear hr_
        go_wp2_with fail
        refine (pick_any g (p0 + 1 + 4 * (k : Int) + 1 + 1) 2 _ (by omega) (by omega) (by omega) HR.out).mono ?_
        rintro e w5 ⟨k5, rfl, hk50, hk51, hx_, hr_, hg_⟩
        replace hk51 := hk51 (by omega)
        clear hx_
        have HGo := hid_ hg_
        have hs_hg_ := hg_.size
        try simp only [World.size_alloc] at hs_hg_
        try simp only [World.size_setCell] at hs_hg_
        replace HO := hid_ (own_pick HO.out hg_ hlt)
        replace HX7 := hid_ (HX7.out.grown hg_ (by simp; omega))
        replace HX6 := hid_ (HX6.out.grown hg_ (by simp; omega))
        replace G := hid_ (gb_trans G.out hg_); clear hg_
        replace HR := hid_ hr_; clear hr_
        obtain ⟨bd, hbd⟩ : ∃ bd, (k5 == 0) = bd := ⟨_, rfl⟩
        have hs5 := G.out.size
        have z0 : (w5.alloc (.cells #[.int .i64 (k : Int), .int .i64 k4, .bool bd] 38)).cell? ⟨w5.heap.size, 0, none⟩ = some (.int .i64 (k : Int)) := by simp [go_sem]
        have z1 : (w5.alloc (.cells #[.int .i64 (k : Int), .int .i64 k4, .bool bd] 38)).cell? ⟨w5.heap.size, 1, none⟩ = some (.int .i64 k4) := by simp [go_sem]
        have z2 : (w5.alloc (.cells #[.int .i64 (k : Int), .int .i64 k4, .bool bd] 38)).cell? ⟨w5.heap.size, 2, none⟩ = some (.bool bd) := by simp [go_sem]
        replace HO := hid_ (HO.out.alloc (.cells #[.int .i64 (k : Int), .int .i64 k4, .bool bd] 38))
        replace HX7 := hid_ (HX7.out.alloc (.cells #[.int .i64 (k : Int), .int .i64 k4, .bool bd] 38))
        replace HX6 := hid_ (HX6.out.alloc (.cells #[.int .i64 (k : Int), .int .i64 k4, .bool bd] 38))
        replace HR := hid_ (HR.out.alloc (.cells #[.int .i64 (k : Int), .int .i64 k4, .bool bd] 38))
        replace G := hid_ (gb_trans G.out (World.grownBy_alloc w5 (.cells #[.int .i64 (k : Int), .int .i64 k4, .bool bd] 38) (some g)))
        go_wp2_with fail
        refine (pick_any g (p0 + 1 + 4 * (k : Int) + 1 + 1 + 1) 2 _ (by omega) (by omega) (by omega) HR.out).mono ?_
        rintro e w6 ⟨k6, rfl, hk60, hk61, hx_, hr_, hg_⟩
        replace hk61 := hk61 (by omega)
        clear hx_
        have HGo := hid_ hg_
        have hs_hg_ := hg_.size
        try simp only [World.size_alloc] at hs_hg_
        try simp only [World.size_setCell] at hs_hg_
        replace HO := hid_ (own_pick HO.out hg_ hlt)
        replace HX7 := hid_ (HX7.out.grown hg_ (by simp; omega))
        replace HX6 := hid_ (HX6.out.grown hg_ (by simp; omega))
        replace z0 := hg_.cell z0 (by simp; omega)
        replace z1 := hg_.cell z1 (by simp; omega)
        replace z2 := hg_.cell z2 (by simp; omega)
        replace G := hid_ (gb_trans G.out hg_); clear hg_
        replace HR := hid_ hr_; clear hr_
        clear hbd
        have hs6 := G.out.size
        have hβ6 := OutBox.lt HX7.out
        have hw56 : w5.heap.size < w6.heap.size := cell_lt z0
        have y0 := OutBox.c0 HX7.out
        have hNb : N ≤ 5 := by omega
        have hk6c : k6 = 0 ∨ k6 = 1 := by omega
        rcases hk6c with rfl | rfl
        · have HLIT := hid_ (World.ownsRow_lit (base := w.heap.size) (e := 38) (size := 3) w6 #[.int .i64 (k : Int), .int .i64 k4, .bool bd] 1 hs6 (by simp [maxLen]) rfl)
          have HRO := hid_ ((own_rd HO.out).alloc (.cells #[.int .i64 (k : Int), .int .i64 k4, .bool bd] 38))
          go_wp2_with ((at_builtin; refine wpList_append_rd _ rfl _ _ 27 rfl w.heap.size 38 (.agg #[.int .i64 0, .int .i64 0, .bool false]) 3 24 Try.underlying27 ln_info rfl (by decide) (by decide) _ _ _ HLIT.out rfl _ _ _ _ HRO.out rfl (lnC_one L) (by omega) (by simp; omega) ?_; intro v' w' ho' hg'); have HPO := hid_ (own_eq ho' (Nat.add_comm 1 N) (show _ = lnC ((⟨(k : Int), k4, bd⟩ : Ln) :: L) by rfl)); have HPX := hid_ (OutBox.grown (HX7.out.alloc _) HLIT.out (by decide) hg'); have HPX6 := hid_ (OutBox.grown (HX6.out.alloc _) HLIT.out (by decide) hg'); have HPR := hid_ (rdr_own (HR.out.alloc _) HLIT.out hg' hlt); have HPG := hid_ (gb_own (gb_trans G.out (World.grownBy_alloc w6 _ (some g))) HLIT.out hg' (Nat.le_refl _)); obtain ⟨AN, cN, rfl, _, _⟩ := own_shape HPO.out; clear ho' hg'; have x0 := OutBox.c0 HPX.out; have x1 := OutBox.c1 HPX.out; have x2 := OutBox.f (o := 0) HPX.out)
          go_roundw
          case rel =>
            exact ⟨k + 1, N + 1, (⟨(k : Int), k4, bd⟩ : Ln) :: L, _, by omega, by go_num, by simp [HL.out], by omega, OutBox.set HPX.out _, BoxC.setOther HPX6.out (by omega), own_set HPO.out (OutBox.ne HPX.out HPO.out (by decide)), (rdr_set HPR.out hgβ).mono (by omega), gb_set_new HPG.out (by omega)⟩
          case measure => simp [intOf]; omega
        · go_wp2_with ((at_builtin; refine wpList_push _ rfl _ _ 27 rfl w.heap.size 38 (.agg #[.int .i64 0, .int .i64 0, .bool false]) 3 24 Try.underlying27 ln_info rfl (by decide) (by decide) _ _ rfl rfl _ _ _ HO.out rfl _ rfl (by simp) (by omega) hs6 ?_; intro v' w' ho' hg'); have HPO := hid_ (own_eq ho' rfl (show _ = lnC (L ++ [(⟨(k : Int), k4, bd⟩ : Ln)]) by rw [lnC_append]; rfl)); have HPX := hid_ (OutBox.grown HX7.out HO.out (by decide) hg'); have HPX6 := hid_ (OutBox.grown HX6.out HO.out (by decide) hg'); have HPR := hid_ (rdr_own HR.out HO.out hg' hlt); have HPG := hid_ (gb_own G.out HO.out hg' (Nat.le_refl _)); obtain ⟨AN, cN, rfl, _, _⟩ := own_shape HPO.out; clear ho' hg'; have x0 := OutBox.c0 HPX.out; have x1 := OutBox.c1 HPX.out; have x2 := OutBox.f (o := 0) HPX.out)
          go_roundw
          case rel =>
            exact ⟨k + 1, N + 1, L ++ [(⟨(k : Int), k4, bd⟩ : Ln)], _, by omega, by go_num, by simp [HL.out], by omega, OutBox.set HPX.out _, BoxC.setOther HPX6.out (by omega), own_set HPO.out (OutBox.ne HPX.out HPO.out (by decide)), (rdr_set HPR.out hgβ).mono (by omega), gb_set_new HPG.out (by omega)⟩
          case measure => simp [intOf]; omega
      · have hk3' : (k3 == 0) = false := by simp [hk3]
        go_wp2
        go_roundw
        case rel => exact ⟨k + 1, N, L, _, by omega, by go_num, HL.out, hNM, HX7.out, HX6.out, HO.out, HR.out.mono (by omega), G.out⟩
        case measure => simp [intOf]; omega
    · have hb10 : N ≤ 5 := by omega
      rcases (by omega : (¬ (k : Int) < (size : Int)) ∨ ((k : Int) < (size : Int) ∧ ¬ (N : Int) < (M : Int))) with q1 | ⟨q1, q2⟩
      all_goals
        go_wp2_with fail
        refine (odd_any g (p0 + 1 + 4 * (k : Int)) n _ (by omega) (by omega) (by omega) HR.out).mono ?_
        rintro e w3 ⟨b, rfl, hr_, hg_⟩
        have HGo := hid_ hg_
        have hs_hg_ := hg_.size
        try simp only [World.size_alloc] at hs_hg_
        try simp only [World.size_setCell] at hs_hg_
        replace HO := hid_ (own_pick HO.out hg_ hlt)
        replace HX7 := hid_ (HX7.out.grown hg_ (by simp; omega))
        replace HX6 := hid_ (HX6.out.grown hg_ (by simp; omega))
        replace G := hid_ (gb_trans G.out hg_); clear hg_
        replace HR := hid_ hr_; clear hr_
        clear y0 y1
        have hs3 := G.out.size
        have hb3 := OutBox.lt HX7.out
        cases b
        · have y0 := OutBox.c0 HX7.out
          have y1 := OutBox.c1 HX7.out
          have u0 := OutBox.c0 HX6.out
          have u1 := OutBox.c1 HX6.out
          have u2 := OutBox.f (o := 0) HX6.out
          have u3 := OutBox.f (o := 1) HX6.out
          obtain ⟨k0, k1⟩ := bx_set (.slice A N c) (.int .i64 (M : Int)) u0 u1
          go_wp2
          refine bodyPost_ret (v := .agg #[.slice A N c, .int .i64 (M : Int)]) (by simp [results, Try.results52, go_sem, k0, k1]) rfl ?_
          exact DrawnCk.fin L (by rw [HL.out]; omega) (own_eq HO.out HL.out.symm rfl) HX6.out HR.out (by omega) G.out hlt _ _
        · go_wp2_with fail
          refine (pick_any g (p0 + 1 + 4 * (k : Int) + 1) 3 _ (by omega) (by omega) (by omega) HR.out).mono ?_
          rintro e w4 ⟨k4, rfl, hk40, hk41, hx_, hr_, hg_⟩
          replace hk41 := hk41 (by omega)
          clear hx_
          have HGo := hid_ hg_
          have hs_hg_ := hg_.size
          try simp only [World.size_alloc] at hs_hg_
          try simp only [World.size_setCell] at hs_hg_
          replace HO := hid_ (own_pick HO.out hg_ hlt)
          replace HX7 := hid_ (HX7.out.grown hg_ (by simp; omega))
          replace HX6 := hid_ (HX6.out.grown hg_ (by simp; omega))
          replace G := hid_ (gb_trans G.out hg_); clear hg_
          replace HR := hid_ hr_; clear hr_
          have hs4 := G.out.size
          have hβ4 := OutBox.lt HX7.out
          have hk4c : k4 = 0 ∨ k4 = 1 ∨ k4 = 2 := by omega
          rcases hk4c with rfl | rfl | rfl
          · have hgw := hlt
            replace HO := hid_ (HO.out.alloc (.cells #[.int .i64 (0), .int .i64 (9)] 3))
            replace HX7 := hid_ (HX7.out.grown (World.grownBy_alloc w4 (.cells #[.int .i64 (0), .int .i64 (9)] 3) (some g)) (by simp; omega))
            replace HX6 := hid_ (HX6.out.grown (World.grownBy_alloc w4 (.cells #[.int .i64 (0), .int .i64 (9)] 3) (some g)) (by simp; omega))
            replace HR := hid_ (HR.out.alloc (.cells #[.int .i64 (0), .int .i64 (9)] 3))
            replace G := hid_ (gb_trans G.out (World.grownBy_alloc w4 (.cells #[.int .i64 (0), .int .i64 (9)] 3) (some g)))
            go_wp2_with fail
            refine (pick_any g (p0 + 1 + 4 * (k : Int) + 1 + 1) 2 _ (by omega) (by omega) (by omega) HR.out).mono ?_
            rintro e w5 ⟨k5, rfl, hk50, hk51, hx_, hr_, hg_⟩
            replace hk51 := hk51 (by omega)
            clear hx_
            obtain ⟨u5, hu5, cu5⟩ := lit_cell [0, 9] w4 w5 3 g hg_ (by omega) k5 hk50 (by simpa using hk51)
            have hs_hg_ := hg_.size
            try simp only [World.size_alloc] at hs_hg_
            try simp only [World.size_setCell] at hs_hg_
            replace HO := hid_ (own_pick HO.out hg_ hlt)
            replace HX7 := hid_ (HX7.out.grown hg_ (by simp; omega))
            replace HX6 := hid_ (HX6.out.grown hg_ (by simp; omega))
            replace G := hid_ (gb_trans G.out hg_); clear hg_
            replace HR := hid_ hr_; clear hr_
            clear hu5
            have hs5 := G.out.size
            have hβ5 := OutBox.lt HX7.out
            have x0 := OutBox.c0 HX7.out
            have x1 := OutBox.c1 HX7.out
            have x2 := OutBox.f (o := 1) HX7.out
            have HS7 := hid_ (OutBox.set1 HX7.out u5)
            have HS6 := hid_ (BoxC.setOther (c := β) (o := 1) (u := .int .i64 u5) HX6.out (by omega))
            have HSO := hid_ (own_set (o := 1) (x := .int .i64 u5) HO.out (OutBox.ne HX7.out HO.out (by decide)))
            have y0 := OutBox.c0 HS7.out
            have y1 := OutBox.c1 HS7.out
            have u0 := OutBox.c0 HS6.out
            have u1 := OutBox.c1 HS6.out
            have u2 := OutBox.f (o := 0) HS6.out
            have u3 := OutBox.f (o := 1) HS6.out
            obtain ⟨k0, k1⟩ := bx_set (.slice A N c) (.int .i64 u5) u0 u1
            go_wp2
            refine bodyPost_ret (v := .agg #[.slice A N c, .int .i64 u5]) (by simp [results, Try.results52, go_sem, k0, k1]) rfl ?_
            exact DrawnCk.fin L (by rw [HL.out]; omega) (own_eq HSO.out HL.out.symm rfl) HS6.out (rdr_set HR.out hgβ) (by omega) (gb_set_new G.out (by omega)) hlt _ _
          · have y0' := OutBox.c0 HX7.out
            go_wp2_with ((at_builtin; refine wpList_push _ rfl _ _ 27 rfl w.heap.size 38 (.agg #[.int .i64 0, .int .i64 0, .bool false]) 3 24 Try.underlying27 ln_info rfl (by decide) (by decide) _ _ rfl rfl _ _ _ HO.out rfl _ rfl (by simp) (by omega) hs4 ?_; intro v' w' ho' hg'); have HPO := hid_ (own_eq ho' rfl (show _ = lnC (L ++ [(⟨(size : Int), 0, false⟩ : Ln)]) by rw [lnC_append]; rfl)); have HPX := hid_ (OutBox.grown HX7.out HO.out (by decide) hg'); have HPX6 := hid_ (OutBox.grown HX6.out HO.out (by decide) hg'); have HPR := hid_ (rdr_own HR.out HO.out hg' hlt); have HPG := hid_ (gb_own G.out HO.out hg' (Nat.le_refl _)); obtain ⟨AN, cN, rfl, _, _⟩ := own_shape HPO.out; clear ho' hg'; have x0 := OutBox.c0 HPX.out; have x1 := OutBox.c1 HPX.out; have x2 := OutBox.f (o := 0) HPX.out; have HS7 := hid_ (OutBox.set HPX.out (.slice AN (N + 1) cN)); have HS6 := hid_ (BoxC.setOther (c := β) (o := 0) (u := .slice AN (N + 1) cN) HPX6.out (by omega)); have y0 := OutBox.c0 HS7.out; have y1 := OutBox.c1 HS7.out; have u0 := OutBox.c0 HS6.out; have u1 := OutBox.c1 HS6.out; have u2 := OutBox.f (o := 0) HS6.out; have u3 := OutBox.f (o := 1) HS6.out; clear y0')
            obtain ⟨k0, k1⟩ := bx_set (.slice AN (N + 1) cN) (.int .i64 (M : Int)) u0 u1
            refine bodyPost_ret (v := .agg #[.slice AN (N + 1) cN, .int .i64 (M : Int)]) (by simp [results, Try.results52, go_sem, k0, k1]) rfl ?_
            exact DrawnCk.fin (L ++ [(⟨(size : Int), 0, false⟩ : Ln)]) (by simp [HL.out]; omega) (own_set (own_eq HPO.out (by simp [HL.out]) rfl) (OutBox.ne HPX.out HPO.out (by decide))) HS6.out (rdr_set HPR.out hgβ) (by omega) (gb_set_new HPG.out (by omega)) hlt _ _
          · have y0' := OutBox.c0 HX7.out
            go_wp2_with ((at_builtin; refine wpList_append_rd _ rfl _ _ 27 rfl w.heap.size 38 (.agg #[.int .i64 0, .int .i64 0, .bool false]) 3 24 Try.underlying27 ln_info rfl (by decide) (by decide) _ _ _ HO.out rfl _ _ _ _ (own_rd HO.out) rfl (lnC_one L) (by omega) hs4 ?_; intro v' w' ho' hg'); have HPO := hid_ (own_eq ho' rfl (show _ = lnC (L ++ L) by rw [lnC_append])); have HPX := hid_ (OutBox.grown HX7.out HO.out (by decide) hg'); have HPX6 := hid_ (OutBox.grown HX6.out HO.out (by decide) hg'); have HPR := hid_ (rdr_own HR.out HO.out hg' hlt); have HPG := hid_ (gb_own G.out HO.out hg' (Nat.le_refl _)); obtain ⟨AN, cN, rfl, _, _⟩ := own_shape HPO.out; clear ho' hg'; have x0 := OutBox.c0 HPX.out; have x1 := OutBox.c1 HPX.out; have x2 := OutBox.f (o := 0) HPX.out; have HS7 := hid_ (OutBox.set HPX.out (.slice AN (N + N) cN)); have HS6 := hid_ (BoxC.setOther (c := β) (o := 0) (u := .slice AN (N + N) cN) HPX6.out (by omega)); have y0 := OutBox.c0 HS7.out; have y1 := OutBox.c1 HS7.out; have u0 := OutBox.c0 HS6.out; have u1 := OutBox.c1 HS6.out; have u2 := OutBox.f (o := 0) HS6.out; have u3 := OutBox.f (o := 1) HS6.out; clear y0')
            obtain ⟨k0, k1⟩ := bx_set (.slice AN (N + N) cN) (.int .i64 (M : Int)) u0 u1
            refine bodyPost_ret (v := .agg #[.slice AN (N + N) cN, .int .i64 (M : Int)]) (by simp [results, Try.results52, go_sem, k0, k1]) rfl ?_
            exact DrawnCk.fin (L ++ L) (by simp [HL.out]; omega) (own_set (own_eq HPO.out (by simp [HL.out]) rfl) (OutBox.ne HPX.out HPO.out (by decide))) HS6.out (rdr_set HPR.out hgβ) (by omega) (gb_set_new HPG.out (by omega)) hlt _ _
end Go.Proofs.Ytejnieoneknbbaa
