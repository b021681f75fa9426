/-
  Caches: reading, both ways.
-/
import Derived.Test.YtejnieoneknbbaaCaK
import Derived.BigRegion
namespace Go.Proofs.Ytejnieoneknbbaa
open Go.ChangeShapes Go.WideShapes Go.ChangeAt Go.RowKit Go.BigFrame

/-- the result is a number, a cache and a disk of the call's own -/
def RCaR (w : World) (v : Int) (C : Ca) (e : Ending) (w' : World) : Prop :=
  ∃ A c A2 c2, e = .returned (.tuple #[.int .i64 v, .agg #[.slice A C.L.length c, .int .i64 C.M], .slice A2 C.D.length c2]) ∧ C.L.length ≤ c ∧ c ≤ maxLen ∧ C.D.length ≤ c2 ∧ c2 ≤ maxLen ∧
    w'.ownsRow w.heap.size 38 3 (.slice A C.L.length c) C.L.length (lnC C.L) ∧ w'.ownsRow w.heap.size 3 1 (.slice A2 C.D.length c2) C.D.length (intC C.D) ∧ Below w.heap.size w w'
theorem RCaR.of {w w' : World} {C : Ca} {v : Int} {vL vD : Value} (h : RCaD w C (.returned (.tuple #[.agg #[vL, .int .i64 C.M], vD])) w') : RCaR w v C (.returned (.tuple #[.int .i64 v, .agg #[vL, .int .i64 C.M], vD])) w' := by
  obtain ⟨A, c, A2, c2, he, r⟩ := h
  injection he with he
  injection he with he
  simp at he
  obtain ⟨rfl, rfl⟩ := he
  exact ⟨A, c, A2, c2, rfl, r⟩
theorem readV_no {c : Ca} {a : Int} (h : caAt c a = false) : readV c a = -1 := if_neg (by simp [h])
theorem readC_no {c : Ca} {a : Int} (h : caAt c a = false) : readC c a = Ca.zero := if_neg (by simp [h])
theorem readV_ok {c : Ca} {a : Int} (h : caAt c a = true) : readV c a = (lineR c.L c.D a).value := if_pos h
theorem readC_ok {c : Ca} {a : Int} (h : caAt c a = true) : readC c a = c.use (lineR c.L c.D a) := if_pos h

set_option maxHeartbeats 2000000 in
theorem specRead_any (L : List Ln) (A : Option Addr) (n c : Nat) (m : Int) (d : List Int) (A2 : Option Addr) (n2 c2 : Nat) (a : Int) (w : World) (hn : L.length = n) (hm : n ≤ 1048576) (hR : Rd w 3 A n (lnC L)) (hn2 : d.length = n2) (hm2 : n2 ≤ 1048576) (hR2 : Rd w 1 A2 n2 (intC d)) :
    Calls Try.prog 43 #[.agg #[.slice A n c, .int .i64 m], .slice A2 n2 c2, .int .i64 a] w (RCaR w (readV ⟨L, m, d⟩ a) (readC ⟨L, m, d⟩ a)) := by
  have HN := hid_ hn; clear hn
  have HN2 := hid_ hn2; clear hn2
  have HB0 := hid_ (((Below.refl w.heap.size w).alloc (Nat.le_refl _) (.cells #[.slice A n c, .int .i64 m] 29)).alloc (by simp) (.cells #[.slice none 0 0, .int .i64 0] 29))
  have HR := hid_ ((hR.alloc (.cells #[.slice A n c, .int .i64 m] 29)).alloc (.cells #[.slice none 0 0, .int .i64 0] 29)); clear hR
  have HR2 := hid_ ((hR2.alloc (.cells #[.slice A n c, .int .i64 m] 29)).alloc (.cells #[.slice none 0 0, .int .i64 0] 29)); clear hR2
  have HQ := hid_ (two_boxes w (.slice A n c) (.int .i64 m) 29 29)
  obtain ⟨wb, hwb⟩ : ∃ wb, (w.alloc (.cells #[.slice A n c, .int .i64 m] 29)).alloc (.cells #[.slice none 0 0, .int .i64 0] 29) = wb := ⟨_, rfl⟩
  have hbs : wb.heap.size = w.heap.size + 1 + 1 := by rw [← hwb]; simp
  have HBS := hid_ hbs; clear hbs
  rw [hwb] at HR HR2 HB0 HQ
  obtain ⟨q0, q1, -, -, -, -⟩ := HQ.out
  go_enter Try.func43, Try.ntmps43
  go_wp2_with fail
  clear hwb
  refine (l12Ok_any L A n c m d A2 n2 c2 a _ HN.out (by omega) HR.out HN2.out (by omega) HR2.out).mono ?_
  cases q : caAt ⟨L, m, d⟩ a
  · have HV := hid_ (readC_no q)
    have HV0 := hid_ (readV_no q)
    rintro e w1 ⟨rfl, hb1⟩
    have HB1 := hid_ (HB0.out.trans (hb1.mono HB0.out.size))
    have hs1 := hb1.size
    clear q0 q1
    obtain ⟨q0, q1, r0, r1, f0, f1⟩ := two_later HQ.out HBS.out hb1
    clear hb1
    have hlt1 : w.heap.size + 1 < w1.heap.size := by have := HBS.out; omega
    obtain ⟨k0, k1⟩ := bx_set (w := w1) (.slice none 0 0) (.int .i64 0) r0 r1
    go_wp2
    refine bodyPost_ret (v := .tuple #[.int .i64 (-1), .agg #[.slice none 0 0, .int .i64 0], .slice (some ⟨w1.heap.size, 0, none⟩) 0 0]) (by simp [results, Try.results43, go_sem, k0, k1, hlt1]) rfl ?_
    rw [HV.out, HV0.out]
    exact RCaR.of (C := Ca.zero) (RCaD.mk_ (C := Ca.zero) (World.ownsRow_nil _ _ _ _) (own_base (own_empty_at _ 3 1 w1.heap.size (by simp)) (by omega)) (((HB1.out.setCell (p := ⟨w.heap.size + 1, 0, none⟩) (by simp) _).setCell (p := ⟨w.heap.size + 1, 1, none⟩) (by simp) _).alloc (by simp; omega) _))
  · have HV := hid_ (readC_ok q)
    have HV0 := hid_ (readV_ok q)
    obtain ⟨hok, a0, a1⟩ := caAt_of q
    have HXA := hid_ (lineR_facts (ok_iff.1 hok) ⟨a0, a1⟩).1
    obtain ⟨mn, hmn⟩ := ok_most hok
    subst hmn
    have HOK := hid_ hok
    obtain ⟨an, rfl⟩ := Int.eq_ofNat_of_zero_le a0
    have han : an < n2 := by have := HN2.out; omega
    have hanz : (an : Int) < (n2 : Int) := by omega
    clear hok a0 a1 q
    rintro e w1 ⟨rfl, hb1⟩
    have HBw := hid_ hb1
    replace q0 := (hb1.cell (cell_lt q0)).trans q0
    replace q1 := (hb1.cell (cell_lt q1)).trans q1
    clear hb1
    go_wp2_with fail
    refine (l12Find_any L A n c mn an _ HN.out hm (HR.out.below HBw.out)).mono ?_
    rintro e w2 ⟨rfl, hb2⟩
    replace HBw := hid_ (HBw.out.trans (hb2.mono HBw.out.size))
    replace q0 := (hb2.cell (cell_lt q0)).trans q0
    replace q1 := (hb2.cell (cell_lt q1)).trans q1
    clear hb2
    obtain ⟨b2, o2, rfl, hd0⟩ := (HR2.out.below HBw.out).int an han HN2.out
    obtain ⟨x, hx⟩ : ∃ x, lineR L d (an : Int) = x := ⟨_, rfl⟩
    simp only [hx] at HV HV0 HXA
    have hsw := HBw.out.size
    have hlt0 : w.heap.size < w2.heap.size := by have := HBS.out; omega
    have hlt1 : w.heap.size + 1 < w2.heap.size := by have := HBS.out; omega
    have hb2lt : b2 < w2.heap.size := cell_lt hd0
    cases hf : findB L (an : Int)
    · have hx2 := lineR_no (d := d) hf
      rw [hx] at hx2
      have hgd : d.getD ((an : Int)).toNat 0 = d[an]'(by rw [HN2.out]; exact han) := by have := HN2.out; simp [this, han]
      rw [hgd] at hx2
      obtain ⟨dv, hdv⟩ : ∃ dv, d[an]'(by rw [HN2.out]; exact han) = dv := ⟨_, rfl⟩
      rw [hdv] at hx2 hd0
      have HX2 := hid_ hx2
      clear hx hx2 hgd hdv
      go_wp2_with fail
      have HA := hid_ (show 0 ≤ (Ln.at_ ⟨(an : Int), dv, false⟩) ∧ (Ln.at_ ⟨(an : Int), dv, false⟩) < d.length from by have h1 := HXA.out; rw [HX2.out] at h1; have h2 := HN2.out; rw [h1]; omega)
      have HB9 := hid_ ((Below.refl w2.heap.size w2).alloc (Nat.le_refl _) (.cells #[.int .i64 (an : Int), .int .i64 dv, .bool false] 38))
      have c91 : (w2.alloc (.cells #[.int .i64 (an : Int), .int .i64 dv, .bool false] 38)).cell? ⟨w2.heap.size, 1, none⟩ = some (.int .i64 dv) := by simp [go_sem]
      refine (l12Use_any L A n c mn d (some ⟨b2, o2, none⟩) n2 c2 ⟨(an : Int), dv, false⟩ _ HN.out hm ((HR.out.below HBw.out).alloc _) HN2.out hm2 ((HR2.out.below HBw.out).alloc _) HOK.out HA.out).mono ?_
      obtain ⟨C, hC⟩ : ∃ C, (Ca.mk L (mn : Int) d).use ⟨(an : Int), dv, false⟩ = C := ⟨_, rfl⟩
      have HVC := hid_ (show readC ⟨L, (mn : Int), d⟩ (an : Int) = C from HV.out.trans (by rw [HX2.out]; exact hC))
      rw [hC]
      clear hC HV
      rintro e w3 ⟨A3, c3, A4, c4, rfl, _, _, _, _, ho3, ho4, hb3⟩
      obtain ⟨n3, hn3⟩ : ∃ n3, C.L.length = n3 := ⟨_, rfl⟩
      obtain ⟨n4, hn4⟩ : ∃ n4, C.D.length = n4 := ⟨_, rfl⟩
      obtain ⟨m5, hm5⟩ : ∃ m5, C.M = m5 := ⟨_, rfl⟩
      simp only [hn3, hn4, hm5] at ho3 ho4 ⊢
      have HN3 := hid_ hn3; clear hn3
      have HN4 := hid_ hn4; clear hn4
      have HM5 := hid_ hm5; clear hm5
      have HO3 := hid_ (own_base ho3 HB9.out.size); clear ho3
      have HO4 := hid_ (own_base ho4 HB9.out.size); clear ho4
      replace c91 := (hb3.cell (cell_lt c91)).trans c91
      have HBw3 := hid_ (HBw.out.trans ((HB9.out.trans (hb3.mono HB9.out.size)).mono hsw))
      have hs3 : w2.heap.size < w3.heap.size := by have := hb3.size; simp at this; omega
      clear hb3 HB9 q0 q1 hd0
      obtain ⟨q0, q1, r0, r1, f0, f1⟩ := two_later HQ.out HBS.out HBw3.out
      have hlt13 : w.heap.size + 1 < w3.heap.size := by omega
      obtain ⟨k0, k1⟩ := bx_set (w := w3) (.slice A3 n3 c3) (.int .i64 m5) r0 r1
      go_wp2
      go_region
      go_wp2
      have HV0' := hid_ (HV0.out.trans (show x.value = dv by rw [HX2.out]))
      refine bodyPost_ret (v := .tuple #[.int .i64 dv, .agg #[.slice A3 n3 c3, .int .i64 m5], .slice A4 n4 c4]) (by simp [results, Try.results43, go_sem, k0, k1, hlt13]) rfl ?_
      rw [HVC.out, HV0'.out, ← HM5.out]
      exact RCaR.of ((RCaD.fin (C := C) (b := w.heap.size + 1) (B := w2.heap.size) (by omega) hlt1 (own_eq HO3.out HN3.out.symm rfl) (own_eq HO4.out HN4.out.symm rfl) (HB0.out.trans (HBw3.out.mono HB0.out.size)) (.slice A3 n3 c3) (.int .i64 C.M)).later ((Below.refl _ _).alloc (Nat.le_refl _) (.cells #[.slice A3 n3 c3, .int .i64 C.M] 29)).drew)
    · have hx2 := lineR_yes (d := d) hf
      rw [hx] at hx2
      obtain ⟨F, hF⟩ : ∃ F, findL L (an : Int) = F := ⟨_, rfl⟩
      rw [hF] at hx2 ⊢
      obtain ⟨fa, fv, fd⟩ := F
      have HX2 := hid_ hx2
      clear hx hx2 hF
      go_wp2_with fail
      have HA := hid_ (show 0 ≤ (Ln.at_ ⟨fa, fv, fd⟩) ∧ (Ln.at_ ⟨fa, fv, fd⟩) < d.length from by have h1 := HXA.out; rw [HX2.out] at h1; have h2 := HN2.out; rw [h1]; omega)
      have HB9 := hid_ ((Below.refl w2.heap.size w2).alloc (Nat.le_refl _) (.cells #[.int .i64 fa, .int .i64 fv, .bool fd] 38))
      have c91 : (w2.alloc (.cells #[.int .i64 fa, .int .i64 fv, .bool fd] 38)).cell? ⟨w2.heap.size, 1, none⟩ = some (.int .i64 fv) := by simp [go_sem]
      refine (l12Use_any L A n c mn d (some ⟨b2, o2, none⟩) n2 c2 ⟨fa, fv, fd⟩ _ HN.out hm ((HR.out.below HBw.out).alloc _) HN2.out hm2 ((HR2.out.below HBw.out).alloc _) HOK.out HA.out).mono ?_
      obtain ⟨C, hC⟩ : ∃ C, (Ca.mk L (mn : Int) d).use ⟨fa, fv, fd⟩ = C := ⟨_, rfl⟩
      have HVC := hid_ (show readC ⟨L, (mn : Int), d⟩ (an : Int) = C from HV.out.trans (by rw [HX2.out]; exact hC))
      rw [hC]
      clear hC HV
      rintro e w3 ⟨A3, c3, A4, c4, rfl, _, _, _, _, ho3, ho4, hb3⟩
      obtain ⟨n3, hn3⟩ : ∃ n3, C.L.length = n3 := ⟨_, rfl⟩
      obtain ⟨n4, hn4⟩ : ∃ n4, C.D.length = n4 := ⟨_, rfl⟩
      obtain ⟨m5, hm5⟩ : ∃ m5, C.M = m5 := ⟨_, rfl⟩
      simp only [hn3, hn4, hm5] at ho3 ho4 ⊢
      have HN3 := hid_ hn3; clear hn3
      have HN4 := hid_ hn4; clear hn4
      have HM5 := hid_ hm5; clear hm5
      have HO3 := hid_ (own_base ho3 HB9.out.size); clear ho3
      have HO4 := hid_ (own_base ho4 HB9.out.size); clear ho4
      replace c91 := (hb3.cell (cell_lt c91)).trans c91
      have HBw3 := hid_ (HBw.out.trans ((HB9.out.trans (hb3.mono HB9.out.size)).mono hsw))
      have hs3 : w2.heap.size < w3.heap.size := by have := hb3.size; simp at this; omega
      clear hb3 HB9 q0 q1 hd0
      obtain ⟨q0, q1, r0, r1, f0, f1⟩ := two_later HQ.out HBS.out HBw3.out
      have hlt13 : w.heap.size + 1 < w3.heap.size := by omega
      obtain ⟨k0, k1⟩ := bx_set (w := w3) (.slice A3 n3 c3) (.int .i64 m5) r0 r1
      go_wp2
      go_region
      go_wp2
      have HV0' := hid_ (HV0.out.trans (show x.value = fv by rw [HX2.out]))
      refine bodyPost_ret (v := .tuple #[.int .i64 fv, .agg #[.slice A3 n3 c3, .int .i64 m5], .slice A4 n4 c4]) (by simp [results, Try.results43, go_sem, k0, k1, hlt13]) rfl ?_
      rw [HVC.out, HV0'.out, ← HM5.out]
      exact RCaR.of ((RCaD.fin (C := C) (b := w.heap.size + 1) (B := w2.heap.size) (by omega) hlt1 (own_eq HO3.out HN3.out.symm rfl) (own_eq HO4.out HN4.out.symm rfl) (HB0.out.trans (HBw3.out.mono HB0.out.size)) (.slice A3 n3 c3) (.int .i64 C.M)).later ((Below.refl _ _).alloc (Nat.le_refl _) (.cells #[.slice A3 n3 c3, .int .i64 C.M] 29)).drew)
end Go.Proofs.Ytejnieoneknbbaa
