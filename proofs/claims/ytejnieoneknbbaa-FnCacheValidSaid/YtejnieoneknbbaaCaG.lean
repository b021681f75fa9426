/-
  Caches: the two functions that flush.
-/
import Derived.Test.YtejnieoneknbbaaCaF
namespace Go.Proofs.Ytejnieoneknbbaa
open Go.ChangeShapes Go.WideShapes Go.ChangeAt Go.RowKit Go.BigFrame

theorem flushC_no {c : Ca} (h : c.ok = false) : flushC c = Ca.zero := if_neg (by simp [h])
theorem flushC_ok {c : Ca} (h : c.ok = true) : flushC c = ⟨c.L.map clr, c.M, flushD c.L c.D⟩ := if_pos h
theorem bx_grown {w w' : World} {row : Option Nat} {b : Nat} (h : w.grownBy w' row) (hb : b < w.heap.size) (hne : row ≠ some b) : (∀ o v, w.cell? ⟨b, o, none⟩ = some v → w'.cell? ⟨b, o, none⟩ = some v) ∧ (∀ o, w.frozen? ⟨b, o, none⟩ = false → w'.frozen? ⟨b, o, none⟩ = false) := by
  have hbl := h.block b hb (fun e => hne e.symm)
  exact ⟨fun o v e => by rw [World.cell?_of_block (w := w) hbl]; exact e, fun o e => by simp only [World.frozen?, hbl] at e ⊢; exact e⟩
theorem RCaD.eq {w w' : World} {C C' : Ca} {e : Ending} (h : RCaD w C e w') (hc : C = C') : RCaD w C' e w' := by subst hc; exact h

set_option maxHeartbeats 1000000 in
theorem implFlush_any (L : List Ln) (A : Option Addr) (n c : Nat) (m : Int) (d : List Int) (A2 : Option Addr) (n2 c2 : Nat) (w : World) (hn : L.length = n) (hm : n ≤ 1048576) (hc : n ≤ c) (hcm : c ≤ maxLen) (hR : Rd w 3 A n (lnC L)) (hn2 : d.length = n2) (hm2 : n2 ≤ 1048576) (_ : n2 ≤ c2) (_ : c2 ≤ maxLen) (hR2 : Rd w 1 A2 n2 (intC d)) :
    Calls Try.prog 34 #[.agg #[.slice A n c, .int .i64 m], .slice A2 n2 c2] w (RCaD w (flushC ⟨L, m, d⟩)) := by
  have HN := hid_ hn; clear hn
  have HN2 := hid_ hn2; clear hn2
  have HCM := hid_ hcm; clear hcm
  have HB0 := hid_ (((Below.refl w.heap.size w).alloc (Nat.le_refl _) (.cells #[.slice A n c, .int .i64 m] 29)).alloc (by simp) (.cells #[.slice none 0 0, .int .i64 0] 29))
  have HR := hid_ ((hR.alloc (.cells #[.slice A n c, .int .i64 m] 29)).alloc (.cells #[.slice none 0 0, .int .i64 0] 29)); clear hR
  have HR2 := hid_ ((hR2.alloc (.cells #[.slice A n c, .int .i64 m] 29)).alloc (.cells #[.slice none 0 0, .int .i64 0] 29)); clear hR2
  have HQ := hid_ (two_boxes w (.slice A n c) (.int .i64 m) 29 29)
  go_enter Try.func34, Try.ntmps34
  obtain ⟨wb, hwb⟩ : ∃ wb, (w.alloc (.cells #[.slice A n c, .int .i64 m] 29)).alloc (.cells #[.slice none 0 0, .int .i64 0] 29) = wb := ⟨_, rfl⟩
  have hbs : wb.heap.size = w.heap.size + 1 + 1 := by rw [← hwb]; simp
  have HBS := hid_ hbs; clear hbs
  rw [hwb] at HR HR2 HB0 HQ
  obtain ⟨q0, q1, _, _, _, _⟩ := HQ.out
  go_wp2_with fail
  clear hwb
  refine (isCached_any L A n c m d A2 n2 c2 _ HN.out (by omega) hc HCM.out HR.out HN2.out (by omega) HR2.out).mono ?_
  cases q : Ca.ok ⟨L, m, d⟩
  · have HV := hid_ (flushC_no q); clear q
    rintro e w1 ⟨rfl, hb1⟩
    have HB1 := hid_ (HB0.out.trans (hb1.mono HB0.out.size))
    clear q0 q1
    obtain ⟨q0, q1, r0, r1, f0, f1⟩ := two_later HQ.out HBS.out hb1
    have hs1 := hb1.size
    obtain ⟨k0, k1⟩ := bx_set (.slice none 0 0) (.int .i64 0) r0 r1
    go_wp2
    refine bodyPost_ret (v := .tuple #[.agg #[.slice none 0 0, .int .i64 0], .slice none 0 0]) (by simp [results, Try.results34, go_sem, k0, k1]) rfl ?_
    rw [HV.out]
    exact RCaD.fin (C := Ca.zero) (by omega) (show w.heap.size + 1 < w1.heap.size by have := HBS.out; omega) (World.ownsRow_nil _ _ _ _) (World.ownsRow_nil _ _ _ _) HB1.out _ _
  · have HV := hid_ (flushC_ok q)
    have HOK := hid_ q; clear q
    rintro e w1 ⟨rfl, hb1⟩
    have HB1 := hid_ (HB0.out.trans (hb1.mono HB0.out.size))
    have HBw := hid_ hb1
    replace HR := hid_ (HR.out.below hb1)
    replace HR2 := hid_ (HR2.out.below hb1)
    replace q0 := (hb1.cell (cell_lt q0)).trans q0
    replace q1 := (hb1.cell (cell_lt q1)).trans q1
    clear hb1
    go_wp2_with fail
    refine (flushed_any L A n c m d A2 n2 c2 _ HN.out hm HR.out HN2.out hm2 HR2.out HOK.out).mono ?_
    rintro e w2 ⟨A3, c3, A4, c4, rfl, _, _, _, _, ho3, ho4, hb2⟩
    obtain ⟨n3, hn3⟩ : ∃ n3, (L.map clr).length = n3 := ⟨_, rfl⟩
    obtain ⟨n4, hn4⟩ : ∃ n4, (flushD L d).length = n4 := ⟨_, rfl⟩
    simp only [hn3, hn4] at ho3 ho4 ⊢
    have HN3 := hid_ hn3; clear hn3
    have HN4 := hid_ hn4; clear hn4
    clear q0 q1 HR HR2
    have HBw2 := hid_ (HBw.out.trans (hb2.mono HBw.out.size))
    obtain ⟨q0, q1, r0, r1, f0, f1⟩ := two_later HQ.out HBS.out HBw2.out
    have hs1 := HBw.out.size
    have HB2 := hid_ (HB1.out.trans (hb2.mono HB1.out.size))
    have HO3 := hid_ ho3; clear ho3
    have HO4 := hid_ ho4; clear ho4
    clear hb2
    obtain ⟨k0, k1⟩ := bx_set (.slice A3 n3 c3) (.int .i64 m) r0 r1
    go_wp2
    refine bodyPost_ret (v := .tuple #[.agg #[.slice A3 n3 c3, .int .i64 m], .slice A4 n4 c4]) (by simp [results, Try.results34, go_sem, k0, k1]) rfl ?_
    rw [HV.out]
    exact RCaD.fin (C := ⟨L.map clr, m, flushD L d⟩) (by omega) (show w.heap.size + 1 < w1.heap.size by have := HBS.out; omega) (own_eq HO3.out HN3.out.symm rfl) (own_eq HO4.out HN4.out.symm rfl) HB2.out _ _

set_option maxHeartbeats 2000000 in
theorem specFlush_any (L : List Ln) (A : Option Addr) (n c : Nat) (m : Int) (d : List Int) (A2 : Option Addr) (n2 c2 : Nat) (w : World) (hn : L.length = n) (hm : n ≤ 1048576) (hR : Rd w 3 A n (lnC L)) (hn2 : d.length = n2) (hm2 : n2 ≤ 1048576) (hR2 : Rd w 1 A2 n2 (intC d)) :
    Calls Try.prog 35 #[.agg #[.slice A n c, .int .i64 m], .slice A2 n2 c2] w (RCaD w (flushC ⟨L, m, d⟩)) := by
  have HN := hid_ hn; clear hn
  have HN2 := hid_ hn2; clear hn2
  have HB0 := hid_ (((Below.refl w.heap.size w).alloc (Nat.le_refl _) (.cells #[.slice A n c, .int .i64 m] 29)).alloc (by simp) (.cells #[.slice none 0 0, .int .i64 0] 29))
  have HR := hid_ ((hR.alloc (.cells #[.slice A n c, .int .i64 m] 29)).alloc (.cells #[.slice none 0 0, .int .i64 0] 29)); clear hR
  have HR2 := hid_ ((hR2.alloc (.cells #[.slice A n c, .int .i64 m] 29)).alloc (.cells #[.slice none 0 0, .int .i64 0] 29)); clear hR2
  have HQ := hid_ (two_boxes w (.slice A n c) (.int .i64 m) 29 29)
  obtain ⟨wb, hwb⟩ : ∃ wb, (w.alloc (.cells #[.slice A n c, .int .i64 m] 29)).alloc (.cells #[.slice none 0 0, .int .i64 0] 29) = wb := ⟨_, rfl⟩
  have hbs : wb.heap.size = w.heap.size + 1 + 1 := by rw [← hwb]; simp
  have HBS := hid_ hbs; clear hbs
  rw [hwb] at HR HR2 HB0 HQ
  obtain ⟨q0, q1, r0, r1, f0, f1⟩ := HQ.out
  cases q : Ca.ok ⟨L, m, d⟩
  · have HV := hid_ (flushC_no q)
    rcases specView_no q with q1 | ⟨q1, q2⟩
    · go_enter Try.func35, Try.ntmps35
      go_wp2_with fail
      clear hwb
      refine (specDV_any d A2 n2 c2 _ HN2.out (by omega) HR2.out).mono ?_
      rw [q1]
      rintro e w1 ⟨rfl, rfl⟩
      have hlt1 : w.heap.size + 1 < wb.heap.size := by have := HBS.out; omega
      obtain ⟨k0, k1⟩ := bx_set (w := wb) (.slice none 0 0) (.int .i64 0) r0 r1
      go_wp2
      refine bodyPost_ret (v := .tuple #[.agg #[.slice none 0 0, .int .i64 0], .slice (some ⟨wb.heap.size, 0, none⟩) 0 0]) (by simp [results, Try.results35, go_sem, k0, k1, hlt1]) rfl ?_
      rw [HV.out]
      exact RCaD.mk_ (C := Ca.zero) (World.ownsRow_nil _ _ _ _) (own_base (own_empty_at _ 3 1 wb.heap.size (by simp)) (by omega)) (((HB0.out.setCell (p := ⟨w.heap.size + 1, 0, none⟩) (by simp) _).setCell (p := ⟨w.heap.size + 1, 1, none⟩) (by simp) _).alloc (by simp; omega) _)
    · rw [HN2.out] at q2
      go_enter Try.func35, Try.ntmps35
      go_wp2_with fail
      clear hwb
      refine (specDV_any d A2 n2 c2 _ HN2.out (by omega) HR2.out).mono ?_
      rw [q1]
      rintro e w1 ⟨rfl, rfl⟩
      go_wp2_with fail
      refine (specCV_any L A n c m n2 _ HN.out (by omega) HR.out).mono ?_
      rw [q2]
      rintro e w1 ⟨rfl, hb1⟩
      have HB1 := hid_ (HB0.out.trans (hb1.mono HB0.out.size))
      have hs1 := hb1.size
      clear q0 q1 r0 r1 f0 f1
      obtain ⟨q0, q1, r0, r1, f0, f1⟩ := two_later HQ.out HBS.out hb1
      clear hb1
      have hlt1 : w.heap.size + 1 < w1.heap.size := by have := HBS.out; omega
      obtain ⟨k0, k1⟩ := bx_set (w := w1) (.slice none 0 0) (.int .i64 0) r0 r1
      go_wp2
      refine bodyPost_ret (v := .tuple #[.agg #[.slice none 0 0, .int .i64 0], .slice (some ⟨w1.heap.size, 0, none⟩) 0 0]) (by simp [results, Try.results35, go_sem, k0, k1, hlt1]) rfl ?_
      rw [HV.out]
      exact RCaD.mk_ (C := Ca.zero) (World.ownsRow_nil _ _ _ _) (own_base (own_empty_at _ 3 1 w1.heap.size (by simp)) (by omega)) (((HB1.out.setCell (p := ⟨w.heap.size + 1, 0, none⟩) (by simp) _).setCell (p := ⟨w.heap.size + 1, 1, none⟩) (by simp) _).alloc (by simp; omega) _)
  · have HV := hid_ (flushC_ok q)
    have HL := hid_ (fun k hk => ln_nat q k hk)
    obtain ⟨qq1, qq2⟩ := specView_yes q
    clear q
    rw [HN2.out] at qq2
    go_enter Try.func35, Try.ntmps35
    go_wp2_with fail
    clear hwb
    refine (specDV_any d A2 n2 c2 _ HN2.out (by omega) HR2.out).mono ?_
    rw [qq1]
    rintro e w1 ⟨rfl, rfl⟩
    go_wp2_with fail
    refine (specCV_any L A n c m n2 _ HN.out (by omega) HR.out).mono ?_
    rw [qq2]
    rintro e w1 ⟨rfl, hb1⟩
    clear qq1 qq2 q0 q1 r0 r1 f0 f1
    have hs1 := hb1.size
    obtain ⟨q0, q1, r0, r1, f0, f1⟩ := two_later HQ.out HBS.out hb1
    have HBw := hid_ hb1
    have HR2k := hid_ ((HR2.out.below hb1).alloc (.cells #[.slice none 0 0, .int .i64 m] 29))
    clear hb1 HR2
    have hlt1 : w.heap.size + 1 < w1.heap.size := by have := HBS.out; omega
    have hlt0 : w.heap.size < w1.heap.size := by have := HBS.out; omega
    have y0 : (w1.alloc (.cells #[.slice none 0 0, .int .i64 m] 29)).cell? ⟨w1.heap.size, 0, none⟩ = some (.slice none 0 0) := by simp [go_sem]
    have y1 : (w1.alloc (.cells #[.slice none 0 0, .int .i64 m] 29)).cell? ⟨w1.heap.size, 1, none⟩ = some (.int .i64 m) := by simp [go_sem]
    have y2 : (w1.alloc (.cells #[.slice none 0 0, .int .i64 m] 29)).frozen? ⟨w1.heap.size, 0, none⟩ = false := by simp [go_sem]
    have HY := hid_ (And.intro y0 (And.intro y1 y2))
    clear y0 y1 y2
    go_wp2_with (at_builtin; refine wpList_append_rd _ rfl _ _ 40 rfl (w1.heap.size + 1) 3 (.int .i64 0) 1 8 Try.underlying40 int_info rfl (by decide) (by decide) _ _ _ (own_empty_at (w1.alloc (.cells #[.slice none 0 0, .int .i64 m] 29)) 3 1 (w1.heap.size + 1) (by simp)) rfl _ _ _ _ (HR2k.out.alloc _) rfl (intC_one d) (by omega) (by simp) ?_; intro v' w' ho' hg')
    have hown := own_eq ho' (show 0 + n2 = n2 by omega) (List.nil_append _)
    have hb3 := below_push ((Below.refl (w1.heap.size + 1) (w1.alloc (.cells #[.slice none 0 0, .int .i64 m] 29))).alloc (by simp) (.cells #[] 3)) (own_empty_at (w1.alloc (.cells #[.slice none 0 0, .int .i64 m] 29)) 3 1 (w1.heap.size + 1) (by simp)) hg' (by simp)
    obtain ⟨A3, c3, rfl, hc3, hcm3⟩ := own_shape hown
    have HO3 := hid_ hown; clear hown ho' hg'
    have HY3 := hid_ (And.intro ((hb3.cell (p := ⟨w1.heap.size, 0, none⟩) (by simp)).trans HY.out.1) (And.intro ((hb3.cell (p := ⟨w1.heap.size, 1, none⟩) (by simp)).trans HY.out.2.1) ((hb3.frozen (p := ⟨w1.heap.size, 0, none⟩) (by simp)).trans HY.out.2.2)))
    have HB3 := hid_ (HBw.out.trans (((Below.refl w1.heap.size w1).alloc (Nat.le_refl _) (.cells #[.slice none 0 0, .int .i64 m] 29)).trans (hb3.mono (by simp)) |>.mono hs1))
    have hs3 := hb3.size
    simp only [World.size_alloc] at hs3
    clear hb3 HY HR2k q0 q1 r0 r1 f0 f1
    obtain ⟨B, hB⟩ : ∃ B, w1.heap.size + 1 = B := ⟨_, rfl⟩
    rw [hB] at HO3 hs3
    obtain ⟨β, hβ⟩ : ∃ β, w1.heap.size = β := ⟨_, rfl⟩
    simp only [hβ] at HY3 hs1 hlt1 hlt0 hB ⊢
    have HBB := hid_ hB; clear hB
    have hβB : β < B := by have := HBB.out; omega
    clear hβ
    go_loopw [8] (fun v wr => ∃ (k : Nat) (vl : Value), k ≤ n ∧ v = .int .i64 k ∧ Below wb.heap.size wb wr ∧ wr.cell? ⟨β, 0, none⟩ = some vl ∧ wr.cell? ⟨β, 1, none⟩ = some (.int .i64 m) ∧ wr.frozen? ⟨β, 0, none⟩ = false ∧ B ≤ wr.heap.size ∧ wr.ownsRow B 38 3 vl k (lnC ((L.take k).map clr)) ∧ wr.ownsRow B 3 1 (.slice A3 n2 c3) n2 (intC (flushD (L.take k) d))) (fun v _ => n - (intOf v).toNat)
    case atStart => exact ⟨0, .slice none 0 0, Nat.zero_le _, rfl, HB3.out, HY3.out.1, HY3.out.2.1, HY3.out.2.2, hs3, by simpa [lnC] using World.ownsRow_nil _ _ _ _, by simpa [flushD] using HO3.out⟩
    case round =>
      obtain ⟨k, vl, hk, rfl, hb, z0, z1, z2, hBw, ho1, ho2⟩ := hrel
      clear HO3 HB3 HY3
      have HO1 := hid_ ho1; clear ho1
      have HO2 := hid_ ho2; clear ho2
      obtain ⟨q0, q1, r0, r1, f0, f1⟩ := two_later HQ.out HBS.out hb
      by_cases hlt : k < n
      · have hlt' : k < L.length := by rw [HN.out]; exact hlt
        obtain ⟨b, o, rfl, h0, h1, h2⟩ := (HR.out.below hb).ln k hlt HN.out
        obtain ⟨a, ha, han⟩ := HL.out k hlt'
        rw [HN2.out] at han
        have hS := flushD_take L d k hlt'
        have HT := hid_ (show (L.take (k + 1)).map clr = (L.take k).map clr ++ [clr L[k]] by rw [List.take_succ_eq_append_getElem hlt', List.map_append]; rfl)
        have hcl : clr L[k] = ⟨L[k].at_, L[k].value, false⟩ := rfl
        rw [hcl] at HT
        clear hcl
        obtain ⟨x, hx⟩ : ∃ x, L[k] = x := ⟨_, rfl⟩
        rw [hx] at h0 h1 h2 ha hS HT
        clear hx
        obtain ⟨xa, xv, xd⟩ := x
        simp only at h0 h1 h2 ha HT
        subst ha
        have hknz : (k : Int) < (n : Int) := by omega
        have hkk : k ≤ 1048576 := by omega
        have hβw : β < wr.heap.size := by omega
        have hws := hb.size
        cases xd
        · have HS := hid_ (show flushD (L.take (k + 1)) d = flushD (L.take k) d from hS)
          clear hS
          have HOX := hid_ (show wr.ownsRow B 3 1 (.slice A3 n2 c3) n2 (intC (flushD (L.take (k + 1)) d)) by rw [HS.out]; exact HO2.out)
          go_wp2_with ((at_builtin; refine wpList_push _ rfl _ _ 27 rfl B 38 (.agg #[.int .i64 0, .int .i64 0, .bool false]) 3 24 Try.underlying27 ln_info rfl (by decide) (by decide) _ _ rfl rfl _ _ _ (HO1.out.alloc _) rfl _ rfl (by simp) (by omega) (by simp; omega) ?_; intro v' w' ho' hg'); obtain ⟨bxc, bxf⟩ := bx_grown (b := β) hg' (by simp; omega) (fun e => by have := (HO1.out.lt _ e).1; omega); have y0 := bxc 0 _ ((World.cell?_alloc_past _ _ _ hβw).trans z0); have y1 := bxc 1 _ ((World.cell?_alloc_past _ _ _ hβw).trans z1); have y2 := bxf 0 ((World.frozen?_alloc_past _ _ _ hβw).trans z2); clear bxc bxf; have HPO := hid_ ho'; have HPG := hid_ hg'; obtain ⟨AN, cN, rfl, _, _⟩ := own_shape ho'; clear ho' hg')
          go_roundw
          case rel =>
            have hsa := HPG.out.size
            try simp only [World.size_alloc] at hsa
            try simp only [World.size_setCell] at hsa
            have hset : ∀ {E kk nn : Nat} {v : Value} {xs : List Value} (u : Value), w'.ownsRow B E kk v nn xs → (w'.setCell ⟨β, 0, none⟩ u).ownsRow B E kk v nn xs := fun u h => own_set h (fun e => by have := (h.lt β e).1; omega)
            refine ⟨k + 1, _, by omega, by go_num, ?_, World.cell?_setCell_same _ _ _ y0, ?_, by simpa using y2, by simp; omega, hset _ (own_eq HPO.out rfl (by rw [HT.out, lnC_append]; rfl)), hset _ (own_other (HOX.out.alloc _) (HO1.out.alloc _) (by decide) HPG.out)⟩
            · exact ((hb.alloc (by first | omega | (simp; omega)) _).grown HPG.out (by first | omega | (simp; omega)) (fun g e => by have := (HO1.out.lt g e).1; omega)).setCell (show wb.heap.size ≤ β by omega) _
            · rw [World.cell?_setCell_other _ _ _ _ (by simp)]; exact y1
          case measure => simp [intOf]; omega
        · have hSC := setD_cells (flushD (L.take k) d) ⟨(a : Int), xv, true⟩ a rfl
          have HS := hid_ (show flushD (L.take (k + 1)) d = setD (flushD (L.take k) d) ⟨(a : Int), xv, true⟩ from hS)
          rw [← HS.out] at hSC
          have HSC := hid_ hSC; clear hSC hS HS
          have hanz : (a : Int) < (n2 : Int) := by omega
          obtain ⟨g3, rfl, hg3B, hg3l, _, _⟩ := own_block HO2.out (by omega)
          obtain ⟨v0, c0, f0d⟩ := own_store HO2.out a (by omega)
          have hst0 := World.ownsRow.stored HO2.out a (.int .i64 xv)
          simp only at HSC
          rw [HSC.out] at hst0
          have HST0 := hid_ hst0; clear hst0
          have HO1' := hid_ (own_other HO1.out HO2.out (by decide) HST0.out.2)
          have HO2' := hid_ HST0.out.1
          have hb' := hb.setCell (show wb.heap.size ≤ (⟨g3, a, none⟩ : Addr).block by show wb.heap.size ≤ g3; have := HBS.out; omega) (.int .i64 xv)
          have hz0 : (wr.setCell ⟨g3, a, none⟩ (.int .i64 xv)).cell? ⟨β, 0, none⟩ = some vl := by rw [World.cell?_setCell_other _ _ _ _ (by simp <;> omega)]; exact z0
          have hz1 : (wr.setCell ⟨g3, a, none⟩ (.int .i64 xv)).cell? ⟨β, 1, none⟩ = some (.int .i64 m) := by rw [World.cell?_setCell_other _ _ _ _ (by simp <;> omega)]; exact z1
          have hz2 : (wr.setCell ⟨g3, a, none⟩ (.int .i64 xv)).frozen? ⟨β, 0, none⟩ = false := by simpa using z2
          have hβw' : β < (wr.setCell ⟨g3, a, none⟩ (.int .i64 xv)).heap.size := by simpa using hβw
          have hBw' : B ≤ (wr.setCell ⟨g3, a, none⟩ (.int .i64 xv)).heap.size := by simpa using hBw
          have hgβ : ¬ g3 = β := by omega
          have hβg : ¬ β = g3 := by omega
          go_wp2_with ((at_builtin; refine wpList_push _ rfl _ _ 27 rfl B 38 (.agg #[.int .i64 0, .int .i64 0, .bool false]) 3 24 Try.underlying27 ln_info rfl (by decide) (by decide) _ _ rfl rfl _ _ _ (HO1'.out.alloc _) rfl _ rfl (by simp) (by omega) (by simp; omega) ?_; intro v' w' ho' hg'); obtain ⟨bxc, bxf⟩ := bx_grown (b := β) hg' (by simp; omega) (fun e => by have := (HO1'.out.lt _ e).1; omega); have y0 := bxc 0 _ ((World.cell?_alloc_past _ _ _ hβw').trans hz0); have y1 := bxc 1 _ ((World.cell?_alloc_past _ _ _ hβw').trans hz1); have y2 := bxf 0 ((World.frozen?_alloc_past _ _ _ hβw').trans hz2); clear bxc bxf; have HPO := hid_ ho'; have HPG := hid_ hg'; obtain ⟨AN, cN, rfl, _, _⟩ := own_shape ho'; clear ho' hg')
          go_roundw
          case rel =>
            have hsa := HPG.out.size
            try simp only [World.size_alloc] at hsa
            try simp only [World.size_setCell] at hsa
            have hset : ∀ {E kk nn : Nat} {v : Value} {xs : List Value} (u : Value), w'.ownsRow B E kk v nn xs → (w'.setCell ⟨β, 0, none⟩ u).ownsRow B E kk v nn xs := fun u h => own_set h (fun e => by have := (h.lt β e).1; omega)
            refine ⟨k + 1, _, by omega, by go_num, ?_, World.cell?_setCell_same _ _ _ y0, ?_, by simpa using y2, by simp; omega, hset _ (own_eq HPO.out rfl (by rw [HT.out, lnC_append]; rfl)), hset _ (own_other (HO2'.out.alloc _) (HO1'.out.alloc _) (by decide) HPG.out)⟩
            · exact ((hb'.alloc (by first | omega | (simp; omega)) _).grown HPG.out (by first | omega | (simp; omega)) (fun g e => by have := (HO1'.out.lt g e).1; omega)).setCell (show wb.heap.size ≤ β by omega) _
            · rw [World.cell?_setCell_other _ _ _ _ (by simp)]; exact y1
          case measure => simp [intOf]; omega
      · obtain rfl : k = n := by omega
        have hall : L.take k = L := List.take_of_length_le (by rw [HN.out]; exact Nat.le_refl _)
        rw [hall] at HO1 HO2
        have HN3 := hid_ (show (L.map clr).length = k by rw [List.length_map]; exact HN.out)
        have HN4 := hid_ (show (flushD L d).length = n2 by rw [flushD_length]; exact HN2.out)
        clear hall
        obtain ⟨Al, cl, rfl, _, _⟩ := own_shape HO1.out
        obtain ⟨k0, k1⟩ := bx_set (w := wr) (.slice Al k cl) (.int .i64 m) r0 r1
        go_wp2
        refine bodyPost_ret (v := .tuple #[.agg #[.slice Al k cl, .int .i64 m], .slice A3 n2 c3]) (by simp [results, Try.results35, go_sem, k0, k1]) rfl ?_
        rw [HV.out]
        exact RCaD.fin (C := ⟨L.map clr, m, flushD L d⟩) (by omega) (show w.heap.size + 1 < B by omega) (own_eq HO1.out HN3.out.symm rfl) (own_eq HO2.out HN4.out.symm rfl) (HB0.out.trans (hb.mono HB0.out.size)) _ _
end Go.Proofs.Ytejnieoneknbbaa
