/-
  Caches: writing; finding a line.
-/
import Derived.Test.YtejnieoneknbbaaCaI
namespace Go.Proofs.Ytejnieoneknbbaa
open Go.ChangeShapes Go.WideShapes Go.ChangeAt Go.RowKit Go.BigFrame

theorem ok_most {L : List Ln} {m : Int} {d : List Int} (h : Ca.ok ⟨L, m, d⟩ = true) : ∃ mn : Nat, m = (mn : Int) := by
  have := (ok_iff.1 h).m0
  simp only at this
  exact ⟨m.toNat, by omega⟩
theorem caAt_of {L : List Ln} {m : Int} {d : List Int} {a : Int} (h : caAt ⟨L, m, d⟩ a = true) : Ca.ok ⟨L, m, d⟩ = true ∧ 0 ≤ a ∧ a < d.length := by
  have := caAt_parts h
  exact ⟨ok_iff.2 this.1, this.2⟩
theorem writeC_ok {c : Ca} {a v : Int} (h : caAt c a = true) (hv : inB v 0 255 = true) : writeC c a v = c.use ⟨a, v, true⟩ := if_pos (by rw [h, hv]; rfl)
theorem writeC_no {c : Ca} {a v : Int} (h : caAt c a = false ∨ inB v 0 255 = false) : writeC c a v = Ca.zero := if_neg (by rcases h with h | h <;> simp [h])

set_option maxHeartbeats 2000000 in
theorem implWrite_any (L : List Ln) (A : Option Addr) (n c : Nat) (m : Int) (d : List Int) (A2 : Option Addr) (n2 c2 : Nat) (a v : Int) (w : World) (hn : L.length = n) (hm : n ≤ 1048576) (hc : n ≤ c) (hcm : c ≤ maxLen) (hR : Rd w 3 A n (lnC L)) (hn2 : d.length = n2) (hm2 : n2 ≤ 1048576) (_ : n2 ≤ c2) (_ : c2 ≤ maxLen) (hR2 : Rd w 1 A2 n2 (intC d)) :
    Calls Try.prog 38 #[.agg #[.slice A n c, .int .i64 m], .slice A2 n2 c2, .int .i64 a, .int .i64 v] w (RCaD w (writeC ⟨L, m, d⟩ a v)) := by
  have HN := hid_ hn; clear hn
  have HN2 := hid_ hn2; clear hn2
  have HCM := hid_ hcm; clear hcm
  have HB0 := hid_ (((Below.refl w.heap.size w).alloc (Nat.le_refl _) (.cells #[.slice A n c, .int .i64 m] 29)).alloc (by simp) (.cells #[.slice none 0 0, .int .i64 0] 29))
  have HR := hid_ ((hR.alloc (.cells #[.slice A n c, .int .i64 m] 29)).alloc (.cells #[.slice none 0 0, .int .i64 0] 29)); clear hR
  have HR2 := hid_ ((hR2.alloc (.cells #[.slice A n c, .int .i64 m] 29)).alloc (.cells #[.slice none 0 0, .int .i64 0] 29)); clear hR2
  have HQ := hid_ (two_boxes w (.slice A n c) (.int .i64 m) 29 29)
  obtain ⟨wb, hwb⟩ : ∃ wb, (w.alloc (.cells #[.slice A n c, .int .i64 m] 29)).alloc (.cells #[.slice none 0 0, .int .i64 0] 29) = wb := ⟨_, rfl⟩
  have hbs : wb.heap.size = w.heap.size + 1 + 1 := by rw [← hwb]; simp
  have HBS := hid_ hbs; clear hbs
  rw [hwb] at HR HR2 HB0 HQ
  obtain ⟨q0, q1, -, -, -, -⟩ := HQ.out
  have HE := hid_ (show caAt ⟨L, m, d⟩ a = (Ca.ok ⟨L, m, d⟩ && inB a 0 ((n2 : Int) - 1)) by unfold caAt; rw [HN2.out])
  go_enter Try.func38, Try.ntmps38
  go_wp2_with fail
  clear hwb
  refine (isCached_any L A n c m d A2 n2 c2 _ HN.out (by omega) hc HCM.out HR.out HN2.out (by omega) HR2.out).mono ?_
  cases q : Ca.ok ⟨L, m, d⟩
  · have HV := hid_ (writeC_no (a := a) (v := v) (Or.inl (by rw [HE.out, q]; rfl : caAt ⟨L, m, d⟩ a = false)))
    rintro e w1 ⟨rfl, hb1⟩
    have HB1 := hid_ (HB0.out.trans (hb1.mono HB0.out.size))
    have hs1 := hb1.size
    clear q0 q1
    obtain ⟨q0, q1, r0, r1, f0, f1⟩ := two_later HQ.out HBS.out hb1
    obtain ⟨k0, k1⟩ := bx_set (.slice none 0 0) (.int .i64 0) r0 r1
    clear hb1
    go_wp2
    refine bodyPost_ret (v := .tuple #[.agg #[.slice none 0 0, .int .i64 0], .slice none 0 0]) (by simp [results, Try.results38, go_sem, k0, k1]) rfl ?_
    rw [HV.out]
    exact RCaD.fin (C := Ca.zero) (by omega) (show w.heap.size + 1 < w1.heap.size by have := HBS.out; omega) (World.ownsRow_nil _ _ _ _) (World.ownsRow_nil _ _ _ _) HB1.out _ _
  · cases qa : inB a 0 ((n2 : Int) - 1)
    · have HV := hid_ (writeC_no (a := a) (v := v) (Or.inl (by rw [HE.out, q, qa]; rfl : caAt ⟨L, m, d⟩ a = false)))
      rintro e w1 ⟨rfl, hb1⟩
      go_wp2_with fail
      refine (iwithin_any _ _ _ _).mono ?_
      rw [qa]
      rintro e w2 ⟨rfl, rfl⟩
      have HB1 := hid_ (HB0.out.trans (hb1.mono HB0.out.size))
      have hs1 := hb1.size
      clear q0 q1
      obtain ⟨q0, q1, r0, r1, f0, f1⟩ := two_later HQ.out HBS.out hb1
      obtain ⟨k0, k1⟩ := bx_set (.slice none 0 0) (.int .i64 0) r0 r1
      clear hb1
      go_wp2
      refine bodyPost_ret (v := .tuple #[.agg #[.slice none 0 0, .int .i64 0], .slice none 0 0]) (by simp [results, Try.results38, go_sem, k0, k1]) rfl ?_
      rw [HV.out]
      exact RCaD.fin (C := Ca.zero) (by omega) (show w.heap.size + 1 < w1.heap.size by have := HBS.out; omega) (World.ownsRow_nil _ _ _ _) (World.ownsRow_nil _ _ _ _) HB1.out _ _
    · cases qv : inB v 0 255
      · have HV := hid_ (writeC_no (c := ⟨L, m, d⟩) (a := a) (Or.inr qv))
        rintro e w1 ⟨rfl, hb1⟩
        go_wp2_with fail
        refine (iwithin_any _ _ _ _).mono ?_
        rw [qa]
        rintro e w2 ⟨rfl, rfl⟩
        go_wp2_with fail
        refine (iwithin_any _ _ _ _).mono ?_
        rw [qv]
        rintro e w2 ⟨rfl, rfl⟩
        have HB1 := hid_ (HB0.out.trans (hb1.mono HB0.out.size))
        have hs1 := hb1.size
        clear q0 q1
        obtain ⟨q0, q1, r0, r1, f0, f1⟩ := two_later HQ.out HBS.out hb1
        obtain ⟨k0, k1⟩ := bx_set (.slice none 0 0) (.int .i64 0) r0 r1
        clear hb1
        go_wp2
        refine bodyPost_ret (v := .tuple #[.agg #[.slice none 0 0, .int .i64 0], .slice none 0 0]) (by simp [results, Try.results38, go_sem, k0, k1]) rfl ?_
        rw [HV.out]
        exact RCaD.fin (C := Ca.zero) (by omega) (show w.heap.size + 1 < w1.heap.size by have := HBS.out; omega) (World.ownsRow_nil _ _ _ _) (World.ownsRow_nil _ _ _ _) HB1.out _ _
      · have hat : caAt ⟨L, m, d⟩ a = true := by rw [HE.out, q, qa]; rfl
        have HV := hid_ (writeC_ok hat qv)
        obtain ⟨hok, a0, a1⟩ := caAt_of hat
        obtain ⟨mn, hmn⟩ := ok_most hok
        subst hmn
        have HOK := hid_ hok
        have HA := hid_ (And.intro a0 a1)
        clear hok a0 a1 hat q
        rintro e w1 ⟨rfl, hb1⟩
        go_wp2_with fail
        refine (iwithin_any _ _ _ _).mono ?_
        rw [qa]
        rintro e w2 ⟨rfl, rfl⟩
        go_wp2_with fail
        refine (iwithin_any _ _ _ _).mono ?_
        rw [qv]
        rintro e w2 ⟨rfl, rfl⟩
        clear qa qv
        have HB1 := hid_ (HB0.out.trans (hb1.mono HB0.out.size))
        have HBw := hid_ hb1
        replace HR := hid_ (HR.out.below hb1)
        replace HR2 := hid_ (HR2.out.below hb1)
        replace q0 := (hb1.cell (cell_lt q0)).trans q0
        replace q1 := (hb1.cell (cell_lt q1)).trans q1
        clear hb1
        go_wp2_with fail
        refine (used_any L A n c mn d A2 n2 c2 ⟨a, v, true⟩ _ HN.out hm HR.out HN2.out hm2 HR2.out HOK.out HA.out).mono ?_
        obtain ⟨C, hC⟩ : ∃ C, (Ca.mk L (mn : Int) d).use ⟨a, v, true⟩ = C := ⟨_, rfl⟩
        rw [hC] at HV ⊢
        have HC := hid_ hC; clear hC
        rintro e w2 ⟨A3, c3, A4, c4, rfl, _, _, _, _, ho3, ho4, hb2⟩
        obtain ⟨n3, hn3⟩ : ∃ n3, C.L.length = n3 := ⟨_, rfl⟩
        obtain ⟨n4, hn4⟩ : ∃ n4, C.D.length = n4 := ⟨_, rfl⟩
        obtain ⟨m5, hm5⟩ : ∃ m5, C.M = m5 := ⟨_, rfl⟩
        simp only [hn3, hn4, hm5] at ho3 ho4 ⊢
        have HN3 := hid_ hn3; clear hn3
        have HN4 := hid_ hn4; clear hn4
        have HM5 := hid_ hm5; clear hm5
        clear q0 q1 HR HR2
        have HBw2 := hid_ (HBw.out.trans (hb2.mono HBw.out.size))
        obtain ⟨q0, q1, r0, r1, f0, f1⟩ := two_later HQ.out HBS.out HBw2.out
        have hs1 := HBw.out.size
        have HB2 := hid_ (HB1.out.trans (hb2.mono HB1.out.size))
        have HO3 := hid_ ho3; clear ho3
        have HO4 := hid_ ho4; clear ho4
        clear hb2
        obtain ⟨k0, k1⟩ := bx_set (.slice A3 n3 c3) (.int .i64 m5) r0 r1
        go_wp2
        refine bodyPost_ret (v := .tuple #[.agg #[.slice A3 n3 c3, .int .i64 m5], .slice A4 n4 c4]) (by simp [results, Try.results38, go_sem, k0, k1]) rfl ?_
        rw [HV.out, ← HM5.out]
        exact RCaD.fin (C := C) (by omega) (show w.heap.size + 1 < w1.heap.size by have := HBS.out; omega) (own_eq HO3.out HN3.out.symm rfl) (own_eq HO4.out HN4.out.symm rfl) HB2.out _ _

set_option maxHeartbeats 2000000 in
theorem specWrite_any (L : List Ln) (A : Option Addr) (n c : Nat) (m : Int) (d : List Int) (A2 : Option Addr) (n2 c2 : Nat) (a v : Int) (w : World) (hn : L.length = n) (hm : n ≤ 1048576) (hR : Rd w 3 A n (lnC L)) (hn2 : d.length = n2) (hm2 : n2 ≤ 1048576) (hR2 : Rd w 1 A2 n2 (intC d)) :
    Calls Try.prog 39 #[.agg #[.slice A n c, .int .i64 m], .slice A2 n2 c2, .int .i64 a, .int .i64 v] w (RCaD w (writeC ⟨L, m, d⟩ a v)) := by
  have HN := hid_ hn; clear hn
  have HN2 := hid_ hn2; clear hn2
  have HB0 := hid_ (((Below.refl w.heap.size w).alloc (Nat.le_refl _) (.cells #[.slice A n c, .int .i64 m] 29)).alloc (by simp) (.cells #[.slice none 0 0, .int .i64 0] 29))
  have HR := hid_ ((hR.alloc (.cells #[.slice A n c, .int .i64 m] 29)).alloc (.cells #[.slice none 0 0, .int .i64 0] 29)); clear hR
  have HR2 := hid_ ((hR2.alloc (.cells #[.slice A n c, .int .i64 m] 29)).alloc (.cells #[.slice none 0 0, .int .i64 0] 29)); clear hR2
  have HQ := hid_ (two_boxes w (.slice A n c) (.int .i64 m) 29 29)
  obtain ⟨wb, hwb⟩ : ∃ wb, (w.alloc (.cells #[.slice A n c, .int .i64 m] 29)).alloc (.cells #[.slice none 0 0, .int .i64 0] 29) = wb := ⟨_, rfl⟩
  have hbs : wb.heap.size = w.heap.size + 1 + 1 := by rw [← hwb]; simp
  have HBS := hid_ hbs; clear hbs
  rw [hwb] at HR HR2 HB0 HQ
  obtain ⟨q0, q1, -, -, -, -⟩ := HQ.out
  go_enter Try.func39, Try.ntmps39
  go_wp2_with fail
  clear hwb
  refine (l12Ok_any L A n c m d A2 n2 c2 a _ HN.out (by omega) HR.out HN2.out (by omega) HR2.out).mono ?_
  cases q : caAt ⟨L, m, d⟩ a
  · have HV := hid_ (writeC_no (v := v) (Or.inl q))
    rintro e w1 ⟨rfl, hb1⟩
    have HB1 := hid_ (HB0.out.trans (hb1.mono HB0.out.size))
    have hs1 := hb1.size
    clear q0 q1
    obtain ⟨q0, q1, r0, r1, f0, f1⟩ := two_later HQ.out HBS.out hb1
    clear hb1
    have hlt1 : w.heap.size + 1 < w1.heap.size := by have := HBS.out; omega
    obtain ⟨k0, k1⟩ := bx_set (w := w1) (.slice none 0 0) (.int .i64 0) r0 r1
    go_wp2
    refine bodyPost_ret (v := .tuple #[.agg #[.slice none 0 0, .int .i64 0], .slice (some ⟨w1.heap.size, 0, none⟩) 0 0]) (by simp [results, Try.results39, go_sem, k0, k1, hlt1]) rfl ?_
    rw [HV.out]
    exact RCaD.mk_ (C := Ca.zero) (World.ownsRow_nil _ _ _ _) (own_base (own_empty_at _ 3 1 w1.heap.size (by simp)) (by omega)) (((HB1.out.setCell (p := ⟨w.heap.size + 1, 0, none⟩) (by simp) _).setCell (p := ⟨w.heap.size + 1, 1, none⟩) (by simp) _).alloc (by simp; omega) _)
  · cases qv : inB v 0 255
    · have HV := hid_ (writeC_no (c := ⟨L, m, d⟩) (a := a) (Or.inr qv))
      rintro e w1 ⟨rfl, hb1⟩
      go_wp2_with fail
      refine (l1In_any _ _ _ _).mono ?_
      rw [qv]
      rintro e w2 ⟨rfl, rfl⟩
      have HB1 := hid_ (HB0.out.trans (hb1.mono HB0.out.size))
      have hs1 := hb1.size
      clear q0 q1
      obtain ⟨q0, q1, r0, r1, f0, f1⟩ := two_later HQ.out HBS.out hb1
      clear hb1
      have hlt1 : w.heap.size + 1 < w1.heap.size := by have := HBS.out; omega
      obtain ⟨k0, k1⟩ := bx_set (w := w1) (.slice none 0 0) (.int .i64 0) r0 r1
      go_wp2
      refine bodyPost_ret (v := .tuple #[.agg #[.slice none 0 0, .int .i64 0], .slice (some ⟨w1.heap.size, 0, none⟩) 0 0]) (by simp [results, Try.results39, go_sem, k0, k1, hlt1]) rfl ?_
      rw [HV.out]
      exact RCaD.mk_ (C := Ca.zero) (World.ownsRow_nil _ _ _ _) (own_base (own_empty_at _ 3 1 w1.heap.size (by simp)) (by omega)) (((HB1.out.setCell (p := ⟨w.heap.size + 1, 0, none⟩) (by simp) _).setCell (p := ⟨w.heap.size + 1, 1, none⟩) (by simp) _).alloc (by simp; omega) _)
    · have HV := hid_ (writeC_ok q qv)
      obtain ⟨hok, a0, a1⟩ := caAt_of q
      obtain ⟨mn, hmn⟩ := ok_most hok
      subst hmn
      have HOK := hid_ hok
      have HA := hid_ (And.intro a0 a1)
      clear hok a0 a1 q
      rintro e w1 ⟨rfl, hb1⟩
      go_wp2_with fail
      refine (l1In_any _ _ _ _).mono ?_
      rw [qv]
      rintro e w2 ⟨rfl, rfl⟩
      clear qv
      have HB1 := hid_ (HB0.out.trans (hb1.mono HB0.out.size))
      have HBw := hid_ hb1
      replace HR := hid_ (HR.out.below hb1)
      replace HR2 := hid_ (HR2.out.below hb1)
      replace q0 := (hb1.cell (cell_lt q0)).trans q0
      replace q1 := (hb1.cell (cell_lt q1)).trans q1
      clear hb1
      go_wp2_with fail
      refine (l12Use_any L A n c mn d A2 n2 c2 ⟨a, v, true⟩ _ HN.out hm HR.out HN2.out hm2 HR2.out HOK.out HA.out).mono ?_
      obtain ⟨C, hC⟩ : ∃ C, (Ca.mk L (mn : Int) d).use ⟨a, v, true⟩ = C := ⟨_, rfl⟩
      rw [hC] at HV ⊢
      have HC := hid_ hC; clear hC
      rintro e w2 ⟨A3, c3, A4, c4, rfl, _, _, _, _, ho3, ho4, hb2⟩
      obtain ⟨n3, hn3⟩ : ∃ n3, C.L.length = n3 := ⟨_, rfl⟩
      obtain ⟨n4, hn4⟩ : ∃ n4, C.D.length = n4 := ⟨_, rfl⟩
      obtain ⟨m5, hm5⟩ : ∃ m5, C.M = m5 := ⟨_, rfl⟩
      simp only [hn3, hn4, hm5] at ho3 ho4 ⊢
      have HN3 := hid_ hn3; clear hn3
      have HN4 := hid_ hn4; clear hn4
      have HM5 := hid_ hm5; clear hm5
      clear q0 q1 HR HR2
      have HBw2 := hid_ (HBw.out.trans (hb2.mono HBw.out.size))
      obtain ⟨q0, q1, r0, r1, f0, f1⟩ := two_later HQ.out HBS.out HBw2.out
      have hs1 := HBw.out.size
      have HB2 := hid_ (HB1.out.trans (hb2.mono HB1.out.size))
      have HO3 := hid_ ho3; clear ho3
      have HO4 := hid_ ho4; clear ho4
      clear hb2
      obtain ⟨k0, k1⟩ := bx_set (.slice A3 n3 c3) (.int .i64 m5) r0 r1
      go_wp2
      refine bodyPost_ret (v := .tuple #[.agg #[.slice A3 n3 c3, .int .i64 m5], .slice A4 n4 c4]) (by simp [results, Try.results39, go_sem, k0, k1]) rfl ?_
      rw [HV.out, ← HM5.out]
      exact RCaD.fin (C := C) (by omega) (show w.heap.size + 1 < w1.heap.size by have := HBS.out; omega) (own_eq HO3.out HN3.out.symm rfl) (own_eq HO4.out HN4.out.symm rfl) HB2.out _ _
end Go.Proofs.Ytejnieoneknbbaa
