/-
  Caches: reading, the program's way.
-/
import Derived.Test.YtejnieoneknbbaaCaL
namespace Go.Proofs.Ytejnieoneknbbaa
open Go.ChangeShapes Go.WideShapes Go.ChangeAt Go.RowKit Go.BigFrame

theorem lnAt_spec (t : Int) : ∀ (L : List Ln) (n : Nat), (lnAt t n L = -1 ∧ ∀ f ∈ L, f.at_ ≠ t) ∨ ∃ k, ∃ h : k < L.length, lnAt t n L = ((n + k : Nat) : Int) ∧ L[k].at_ = t ∧ ∀ i (hi : i < L.length), i < k → L[i].at_ ≠ t := by
  intro L
  induction L with
  | nil => intro n; left; exact ⟨rfl, fun f hf => by cases hf⟩
  | cons x r ih =>
    intro n
    unfold lnAt
    by_cases h : x.at_ = t
    · right
      exact ⟨0, by simp, by rw [if_pos h]; simp, h, fun i _ hi => absurd hi (by omega)⟩
    · rw [if_neg h]
      rcases ih (n + 1) with ⟨h1, h2⟩ | ⟨k, hk, h1, h2, h3⟩
      · left
        exact ⟨h1, fun f hf => by
          rcases List.mem_cons.1 hf with rfl | hf
          · exact h
          · exact h2 f hf⟩
      · right
        refine ⟨k + 1, by simpa using hk, by rw [h1]; congr 1; omega, by simpa using h2, fun i hi hik => ?_⟩
        cases i with
        | zero => simpa using h
        | succ i => simpa using h3 i (by simpa using hi) (by omega)
theorem lnAt_cases (L : List Ln) (t : Int) : (lnAt t 0 L = -1 ∧ findB L t = false) ∨ ∃ k, ∃ h : k < L.length, lnAt t 0 L = (k : Int) ∧ findB L t = true ∧ findL L t = L[k] := by
  rcases lnAt_spec t L 0 with ⟨h1, h2⟩ | ⟨k, hk, h1, h2, h3⟩
  · left
    refine ⟨h1, ?_⟩
    have := find_no (L := L) (a := t) (fun i hi => h2 _ (List.getElem_mem hi))
    unfold findB; rw [this]; rfl
  · right
    have := find_at hk h2 h3
    exact ⟨k, hk, by rw [h1]; simp, by unfold findB; rw [this]; rfl, by unfold findL; rw [this]⟩

set_option maxHeartbeats 2000000 in
theorem implRead_any (L : List Ln) (A : Option Addr) (n c : Nat) (m : Int) (d : List Int) (A2 : Option Addr) (n2 c2 : Nat) (a : Int) (w : World) (hn : L.length = n) (hm : n ≤ 1048576) (hc : n ≤ c) (hcm : c ≤ maxLen) (hR : Rd w 3 A n (lnC L)) (hn2 : d.length = n2) (hm2 : n2 ≤ 1048576) (_ : n2 ≤ c2) (_ : c2 ≤ maxLen) (hR2 : Rd w 1 A2 n2 (intC d)) :
    Calls Try.prog 32 #[.agg #[.slice A n c, .int .i64 m], .slice A2 n2 c2, .int .i64 a] w (RCaR w (readV ⟨L, m, d⟩ a) (readC ⟨L, m, d⟩ a)) := by
  have HN := hid_ hn; clear hn
  have HN2 := hid_ hn2; clear hn2
  have HCM := hid_ hcm; clear hcm
  have HB0 := hid_ (((Below.refl w.heap.size w).alloc (Nat.le_refl _) (.cells #[.slice A n c, .int .i64 m] 29)).alloc (by simp) (.cells #[.slice none 0 0, .int .i64 0] 29))
  have HR := hid_ ((hR.alloc (.cells #[.slice A n c, .int .i64 m] 29)).alloc (.cells #[.slice none 0 0, .int .i64 0] 29)); clear hR
  have HR2 := hid_ ((hR2.alloc (.cells #[.slice A n c, .int .i64 m] 29)).alloc (.cells #[.slice none 0 0, .int .i64 0] 29)); clear hR2
  have HQ := hid_ (two_boxes w (.slice A n c) (.int .i64 m) 29 29)
  obtain ⟨wb, hwb⟩ : ∃ wb, (w.alloc (.cells #[.slice A n c, .int .i64 m] 29)).alloc (.cells #[.slice none 0 0, .int .i64 0] 29) = wb := ⟨_, rfl⟩
  have hbs : wb.heap.size = w.heap.size + 1 + 1 := by rw [← hwb]; simp
  have HBS := hid_ hbs; clear hbs
  rw [hwb] at HR HR2 HB0 HQ
  obtain ⟨q0, q1, -, -, -, -⟩ := HQ.out
  have HE := hid_ (show caAt ⟨L, m, d⟩ a = (Ca.ok ⟨L, m, d⟩ && inB a 0 ((n2 : Int) - 1)) by unfold caAt; rw [HN2.out])
  go_enter Try.func32, Try.ntmps32
  go_wp2_with fail
  clear hwb
  refine (isCached_any L A n c m d A2 n2 c2 _ HN.out (by omega) hc HCM.out HR.out HN2.out (by omega) HR2.out).mono ?_
  cases q : Ca.ok ⟨L, m, d⟩
  · have hat : caAt ⟨L, m, d⟩ a = false := by rw [HE.out, q]; rfl
    have HV := hid_ (readC_no hat)
    have HV0 := hid_ (readV_no hat)
    rintro e w1 ⟨rfl, hb1⟩
    have HB1 := hid_ (HB0.out.trans (hb1.mono HB0.out.size))
    have hs1 := hb1.size
    clear q0 q1
    obtain ⟨q0, q1, r0, r1, f0, f1⟩ := two_later HQ.out HBS.out hb1
    obtain ⟨k0, k1⟩ := bx_set (.slice none 0 0) (.int .i64 0) r0 r1
    clear hb1
    go_wp2
    refine bodyPost_ret (v := .tuple #[.int .i64 (-1), .agg #[.slice none 0 0, .int .i64 0], .slice none 0 0]) (by simp [results, Try.results32, go_sem, k0, k1]) rfl ?_
    rw [HV.out, HV0.out]
    exact RCaR.of (C := Ca.zero) (RCaD.fin (C := Ca.zero) (by omega) (show w.heap.size + 1 < w1.heap.size by have := HBS.out; omega) (World.ownsRow_nil _ _ _ _) (World.ownsRow_nil _ _ _ _) HB1.out _ _)
  · cases qa : inB a 0 ((n2 : Int) - 1)
    · have hat : caAt ⟨L, m, d⟩ a = false := by rw [HE.out, q, qa]; rfl
      have HV := hid_ (readC_no hat)
      have HV0 := hid_ (readV_no hat)
      rintro e w1 ⟨rfl, hb1⟩
      go_wp2_with fail
      refine (iwithin_any _ _ _ _).mono ?_
      rw [qa]
      rintro e w2 ⟨rfl, rfl⟩
      have HB1 := hid_ (HB0.out.trans (hb1.mono HB0.out.size))
      have hs1 := hb1.size
      clear q0 q1
      obtain ⟨q0, q1, r0, r1, f0, f1⟩ := two_later HQ.out HBS.out hb1
      obtain ⟨k0, k1⟩ := bx_set (.slice none 0 0) (.int .i64 0) r0 r1
      clear hb1
      go_wp2
      refine bodyPost_ret (v := .tuple #[.int .i64 (-1), .agg #[.slice none 0 0, .int .i64 0], .slice none 0 0]) (by simp [results, Try.results32, go_sem, k0, k1]) rfl ?_
      rw [HV.out, HV0.out]
      exact RCaR.of (C := Ca.zero) (RCaD.fin (C := Ca.zero) (by omega) (show w.heap.size + 1 < w1.heap.size by have := HBS.out; omega) (World.ownsRow_nil _ _ _ _) (World.ownsRow_nil _ _ _ _) HB1.out _ _)
    · have hat : caAt ⟨L, m, d⟩ a = true := by rw [HE.out, q, qa]; rfl
      have HV := hid_ (readC_ok hat)
      have HV0 := hid_ (readV_ok hat)
      obtain ⟨hok, a0, a1⟩ := caAt_of hat
      have HXA := hid_ (lineR_facts (ok_iff.1 hok) ⟨a0, a1⟩).1
      obtain ⟨mn, hmn⟩ := ok_most hok
      subst hmn
      have HOK := hid_ hok
      obtain ⟨an, rfl⟩ := Int.eq_ofNat_of_zero_le a0
      have han : an < n2 := by have := HN2.out; omega
      have hanz : (an : Int) < (n2 : Int) := by omega
      clear hok a0 a1 hat q
      rintro e w1 ⟨rfl, hb1⟩
      have HBw := hid_ hb1
      replace q0 := (hb1.cell (cell_lt q0)).trans q0
      replace q1 := (hb1.cell (cell_lt q1)).trans q1
      clear hb1
      go_wp2_with fail
      refine (iwithin_any _ _ _ _).mono ?_
      rw [qa]
      rintro e w2 ⟨rfl, rfl⟩
      clear qa
      have hsw := HBw.out.size
      have hlt0 : w.heap.size < w1.heap.size := by have := HBS.out; omega
      have hlt1 : w.heap.size + 1 < w1.heap.size := by have := HBS.out; omega
      obtain ⟨b2, o2, rfl, hd0⟩ := (HR2.out.below HBw.out).int an han HN2.out
      obtain ⟨dv, hdv⟩ : ∃ dv, d[an]'(by rw [HN2.out]; exact han) = dv := ⟨_, rfl⟩
      rw [hdv] at hd0
      have HDV := hid_ hdv; clear hdv
      have hb2lt : b2 < w1.heap.size := cell_lt hd0
      obtain ⟨x, hx⟩ : ∃ x, lineR L d (an : Int) = x := ⟨_, rfl⟩
      simp only [hx] at HV HV0 HXA
      have HX := hid_ hx; clear hx
      have HB9 := hid_ ((Below.refl w1.heap.size w1).alloc (Nat.le_refl _) (.cells #[.int .i64 (an : Int), .int .i64 dv, .bool false] 38))
      have HBw9 := hid_ (HBw.out.trans (HB9.out.mono hsw))
      go_wp2_with fail
      refine (lineAt_any L A n c an _ HN.out (by unfold maxLen; omega) (HR.out.below HBw9.out)).mono ?_
      rintro e w2 ⟨rfl, hb2⟩
      have c90 := (hb2.cell (p := ⟨w1.heap.size, 0, none⟩) (by simp)).trans (show (w1.alloc (.cells #[.int .i64 (an : Int), .int .i64 dv, .bool false] 38)).cell? ⟨w1.heap.size, 0, none⟩ = some (.int .i64 (an : Int)) by simp [go_sem])
      have c91 := (hb2.cell (p := ⟨w1.heap.size, 1, none⟩) (by simp)).trans (show (w1.alloc (.cells #[.int .i64 (an : Int), .int .i64 dv, .bool false] 38)).cell? ⟨w1.heap.size, 1, none⟩ = some (.int .i64 dv) by simp [go_sem])
      have c92 := (hb2.cell (p := ⟨w1.heap.size, 2, none⟩) (by simp)).trans (show (w1.alloc (.cells #[.int .i64 (an : Int), .int .i64 dv, .bool false] 38)).cell? ⟨w1.heap.size, 2, none⟩ = some (.bool false) by simp [go_sem])
      have z0 := (hb2.frozen (p := ⟨w1.heap.size, 0, none⟩) (by simp)).trans (show (w1.alloc (.cells #[.int .i64 (an : Int), .int .i64 dv, .bool false] 38)).frozen? ⟨w1.heap.size, 0, none⟩ = false by simp [go_sem])
      have z1 := (hb2.frozen (p := ⟨w1.heap.size, 1, none⟩) (by simp)).trans (show (w1.alloc (.cells #[.int .i64 (an : Int), .int .i64 dv, .bool false] 38)).frozen? ⟨w1.heap.size, 1, none⟩ = false by simp [go_sem])
      have z2 := (hb2.frozen (p := ⟨w1.heap.size, 2, none⟩) (by simp)).trans (show (w1.alloc (.cells #[.int .i64 (an : Int), .int .i64 dv, .bool false] 38)).frozen? ⟨w1.heap.size, 2, none⟩ = false by simp [go_sem])
      have HBc2 := hid_ (HBw9.out.trans (hb2.mono HBw9.out.size))
      have hlt9 : w1.heap.size < w2.heap.size := cell_lt c90
      replace q0 := (hb2.cell (p := ⟨w.heap.size, 0, none⟩) (by simp; omega)).trans ((World.cell?_alloc_past _ _ _ hlt0).trans q0)
      replace q1 := (hb2.cell (p := ⟨w.heap.size, 1, none⟩) (by simp; omega)).trans ((World.cell?_alloc_past _ _ _ hlt0).trans q1)
      clear hb2 hd0
      rcases lnAt_cases L (an : Int) with ⟨hi, hf⟩ | ⟨k, hk, hi, hf, hfl⟩
      · have HX2 := hid_ (show x = ⟨(an : Int), dv, false⟩ from by
          rw [← HX.out, lineR_no hf, ← HDV.out]
          have := HN2.out
          simp [this, han])
        rw [hi]
        clear hi hf z0 z1 z2
        have HBc := HBc2
        have hltc : w.heap.size + 1 < w2.heap.size := by omega
        go_wp2_with fail
        clear c90 c92
        have HA := hid_ (show 0 ≤ (Ln.at_ ⟨(an : Int), dv, false⟩) ∧ (Ln.at_ ⟨(an : Int), dv, false⟩) < d.length from by have h1 := HXA.out; rw [HX2.out] at h1; have h2 := HN2.out; rw [h1]; omega)
        refine (used_any L _ n c mn d (some ⟨b2, o2, none⟩) n2 c2 ⟨(an : Int), dv, false⟩ _ HN.out hm (HR.out.below HBc.out) HN2.out hm2 (HR2.out.below HBc.out) HOK.out HA.out).mono ?_
        obtain ⟨C, hC⟩ : ∃ C, (Ca.mk L (mn : Int) d).use ⟨(an : Int), dv, false⟩ = C := ⟨_, rfl⟩
        have HVC := hid_ (show readC ⟨L, (mn : Int), d⟩ (an : Int) = C from HV.out.trans (by rw [HX2.out]; exact hC))
        rw [hC]
        clear hC HV
        rintro e w3 ⟨A3, c3, A4, c4, rfl, _, _, _, _, ho3, ho4, hb3⟩
        obtain ⟨n3, hn3⟩ : ∃ n3, C.L.length = n3 := ⟨_, rfl⟩
        obtain ⟨n4, hn4⟩ : ∃ n4, C.D.length = n4 := ⟨_, rfl⟩
        obtain ⟨m5, hm5⟩ : ∃ m5, C.M = m5 := ⟨_, rfl⟩
        simp only [hn3, hn4, hm5] at ho3 ho4 ⊢
        have HN3 := hid_ hn3; clear hn3
        have HN4 := hid_ hn4; clear hn4
        have HM5 := hid_ hm5; clear hm5
        have HO3 := hid_ ho3; clear ho3
        have HO4 := hid_ ho4; clear ho4
        have c91' := (hb3.cell (cell_lt c91)).trans c91
        have HBw3 := hid_ (HBc.out.trans (hb3.mono HBc.out.size))
        have hs3 := hb3.size
        have hlt9' : w1.heap.size < w3.heap.size := cell_lt c91'
        clear hb3 c91
        clear q0 q1
        obtain ⟨q0, q1, r0, r1, f0, f1⟩ := two_later HQ.out HBS.out HBw3.out
        have hlt13 : w.heap.size + 1 < w3.heap.size := by omega
        obtain ⟨k0, k1⟩ := bx_set (w := w3) (.slice A3 n3 c3) (.int .i64 m5) r0 r1
        go_wp2
        go_region
        go_wp2
        have HV0' := hid_ (HV0.out.trans (show x.value = dv by rw [HX2.out]))
        refine bodyPost_ret (v := .tuple #[.int .i64 dv, .agg #[.slice A3 n3 c3, .int .i64 m5], .slice A4 n4 c4]) (by simp [results, Try.results32, go_sem, k0, k1, hlt13]) rfl ?_
        rw [HVC.out, HV0'.out, ← HM5.out]
        exact RCaR.of ((RCaD.fin (C := C) (b := w.heap.size + 1) (by omega) hltc (own_eq HO3.out HN3.out.symm rfl) (own_eq HO4.out HN4.out.symm rfl) (HB0.out.trans (HBw3.out.mono HB0.out.size)) (.slice A3 n3 c3) (.int .i64 C.M)).later ((Below.refl _ _).alloc (Nat.le_refl _) (.cells #[.slice A3 n3 c3, .int .i64 C.M] 29)).drew)
      · rw [hi]
        obtain ⟨b4, o4, rfl, h0, h1, h2⟩ := (HR.out.below HBc2.out).ln k (by rw [← HN.out]; exact hk) HN.out
        have hkn : (k : Int) < (n : Int) := by have := HN.out; omega
        have hx3 : x = L[k] := by rw [← HX.out, lineR_yes hf, hfl]
        obtain ⟨F, hF⟩ : ∃ F, L[k] = F := ⟨_, rfl⟩
        rw [hF] at hx3 h0 h1 h2
        obtain ⟨fa, fv, fd⟩ := F
        simp only at h0 h1 h2
        have HX2 := hid_ hx3
        clear hi hf hfl hF hx3
        have HBc := hid_ (((HBc2.out.setCell (show wb.heap.size ≤ (⟨w1.heap.size, 0, none⟩ : Addr).block from hsw) (.int .i64 fa)).setCell (show wb.heap.size ≤ (⟨w1.heap.size, 1, none⟩ : Addr).block from hsw) (.int .i64 fv)).setCell (show wb.heap.size ≤ (⟨w1.heap.size, 2, none⟩ : Addr).block from hsw) (.bool fd))
        have e91 : (((w2.setCell ⟨w1.heap.size, 0, none⟩ (.int .i64 fa)).setCell ⟨w1.heap.size, 1, none⟩ (.int .i64 fv)).setCell ⟨w1.heap.size, 2, none⟩ (.bool fd)).cell? ⟨w1.heap.size, 1, none⟩ = some (.int .i64 fv) := by
          rw [World.cell?_setCell_other _ _ _ _ (by simp)]
          exact World.cell?_setCell_same _ _ _ (by rw [World.cell?_setCell_other _ _ _ _ (by simp)]; exact c91)
        have hne1 : ¬ w1.heap.size = w.heap.size := by omega
        have hltc : w.heap.size + 1 < (((w2.setCell ⟨w1.heap.size, 0, none⟩ (.int .i64 fa)).setCell ⟨w1.heap.size, 1, none⟩ (.int .i64 fv)).setCell ⟨w1.heap.size, 2, none⟩ (.bool fd)).heap.size := by simp; omega
        go_wp2_with fail
        clear c90 c91 c92
        have c91 := e91
        clear e91
        have HA := hid_ (show 0 ≤ (Ln.at_ ⟨fa, fv, fd⟩) ∧ (Ln.at_ ⟨fa, fv, fd⟩) < d.length from by have h1 := HXA.out; rw [HX2.out] at h1; have h2 := HN2.out; rw [h1]; omega)
        refine (used_any L _ n c mn d (some ⟨b2, o2, none⟩) n2 c2 ⟨fa, fv, fd⟩ _ HN.out hm (HR.out.below HBc.out) HN2.out hm2 (HR2.out.below HBc.out) HOK.out HA.out).mono ?_
        obtain ⟨C, hC⟩ : ∃ C, (Ca.mk L (mn : Int) d).use ⟨fa, fv, fd⟩ = C := ⟨_, rfl⟩
        have HVC := hid_ (show readC ⟨L, (mn : Int), d⟩ (an : Int) = C from HV.out.trans (by rw [HX2.out]; exact hC))
        rw [hC]
        clear hC HV
        rintro e w3 ⟨A3, c3, A4, c4, rfl, _, _, _, _, ho3, ho4, hb3⟩
        obtain ⟨n3, hn3⟩ : ∃ n3, C.L.length = n3 := ⟨_, rfl⟩
        obtain ⟨n4, hn4⟩ : ∃ n4, C.D.length = n4 := ⟨_, rfl⟩
        obtain ⟨m5, hm5⟩ : ∃ m5, C.M = m5 := ⟨_, rfl⟩
        simp only [hn3, hn4, hm5] at ho3 ho4 ⊢
        have HN3 := hid_ hn3; clear hn3
        have HN4 := hid_ hn4; clear hn4
        have HM5 := hid_ hm5; clear hm5
        have HO3 := hid_ ho3; clear ho3
        have HO4 := hid_ ho4; clear ho4
        have c91' := (hb3.cell (cell_lt c91)).trans c91
        have HBw3 := hid_ (HBc.out.trans (hb3.mono HBc.out.size))
        have hs3 := hb3.size
        have hlt9' : w1.heap.size < w3.heap.size := cell_lt c91'
        clear hb3 c91
        clear q0 q1
        obtain ⟨q0, q1, r0, r1, f0, f1⟩ := two_later HQ.out HBS.out HBw3.out
        have hlt13 : w.heap.size + 1 < w3.heap.size := by omega
        obtain ⟨k0, k1⟩ := bx_set (w := w3) (.slice A3 n3 c3) (.int .i64 m5) r0 r1
        go_wp2
        go_region
        go_wp2
        have HV0' := hid_ (HV0.out.trans (show x.value = fv by rw [HX2.out]))
        refine bodyPost_ret (v := .tuple #[.int .i64 fv, .agg #[.slice A3 n3 c3, .int .i64 m5], .slice A4 n4 c4]) (by simp [results, Try.results32, go_sem, k0, k1, hlt13]) rfl ?_
        rw [HVC.out, HV0'.out, ← HM5.out]
        exact RCaR.of ((RCaD.fin (C := C) (b := w.heap.size + 1) (by omega) hltc (own_eq HO3.out HN3.out.symm rfl) (own_eq HO4.out HN4.out.symm rfl) (HB0.out.trans (HBw3.out.mono HB0.out.size)) (.slice A3 n3 c3) (.int .i64 C.M)).later ((Below.refl _ _).alloc (Nat.le_refl _) (.cells #[.slice A3 n3 c3, .int .i64 C.M] 29)).drew)
end Go.Proofs.Ytejnieoneknbbaa
