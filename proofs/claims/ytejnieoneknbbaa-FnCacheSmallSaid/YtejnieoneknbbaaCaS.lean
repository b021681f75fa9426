/-
  Caches: the law on reading. The value is that of the view; the view is the same as before, if the lines that are not dirty have the values of the disk; and the sector is then the first line.
-/
import Derived.Test.YtejnieoneknbbaaCaO
import Derived.Test.YtejnieoneknbbaaCaM
import Derived.Test.YtejnieoneknbbaaCkF
namespace Go.Proofs.Ytejnieoneknbbaa
open Go.ChangeShapes Go.WideShapes Go.ChangeAt Go.RowKit Go.BigFrame Go.Deep

theorem RCaR.plain {w w' : World} {e : Ending} {v : Int} {C : Ca} (h : RCaR w v C e w') : ∃ (A : Option Addr) (n c : Nat) (A2 : Option Addr) (n2 c2 : Nat), e = .returned (.tuple #[.int .i64 v, .agg #[.slice A n c, .int .i64 C.M], .slice A2 n2 c2]) ∧ C.L.length = n ∧ C.D.length = n2 ∧ n ≤ c ∧ c ≤ maxLen ∧ n2 ≤ c2 ∧ c2 ≤ maxLen ∧ Rd w' 3 A n (lnC C.L) ∧ Rd w' 1 A2 n2 (intC C.D) ∧ Below w.heap.size w w' := by
  obtain ⟨A, c, A2, c2, rfl, hc, hcm, hc2, hcm2, hoL, hoD, hb⟩ := h
  exact ⟨A, _, c, A2, _, c2, rfl, rfl, rfl, hc, hcm, hc2, hcm2, own_rd hoL, own_rd hoD, hb⟩
theorem use_len (C : Ca) (x : Ln) : (C.use x).L.length ≤ C.L.length + 1 ∧ (C.use x).D.length ≤ C.D.length := by
  unfold Ca.use
  simp only [List.length_take, useD_length]
  have := useAll_length C.L x
  omega
theorem read_len (C : Ca) (a : Int) : (readC C a).L.length ≤ C.L.length + 1 ∧ (readC C a).D.length ≤ C.D.length := by
  unfold readC
  split
  · exact use_len _ _
  · simp [Ca.zero]
theorem cok_cv {C : Ca} (h : COk C) : cvB C.L C.M C.D.length = true := by
  have := ok_iff.2 h
  unfold Ca.ok at this
  simp only [Bool.and_eq_true] at this
  exact this.2
/-- what the law says of reading -/
theorem read_facts (L : List Ln) (m : Int) (d : List Int) (a : Int) {Y : Ca} {y : Int} (hY : readC ⟨L, m, d⟩ a = Y) (hy : readV ⟨L, m, d⟩ a = y) : y = -1 ∨ (0 ≤ y ∧ 0 ≤ a ∧ a < d.length ∧ (viewC ⟨L, m, d⟩).length = d.length ∧ (viewC ⟨L, m, d⟩)[a.toNat]? = some y ∧ Y.D.length = d.length ∧ (∃ h : 0 < Y.L.length, Y.L[0].at_ = a ∧ Y.L[0].value = y) ∧ cvB Y.L Y.M Y.D.length = true ∧ (∀ x ∈ L, 0 ≤ x.at_ ∧ x.at_ < d.length) ∧ (∀ x ∈ Y.L, 0 ≤ x.at_ ∧ x.at_ < Y.D.length) ∧ (cleanB L d = true → viewC Y = viewC ⟨L, m, d⟩ ∧ cleanB Y.L Y.D = true)) := by
  cases q : caAt ⟨L, m, d⟩ a
  · left; rw [← hy]; exact readV_no q
  · obtain ⟨hk, a0, a1⟩ := caAt_parts q
    obtain ⟨r1, r2, r3, r4, r5, ⟨x, r, r6, r7, r8⟩, r9⟩ := read_law q
    rw [hY] at r4 r5 r6 r9
    rw [hy] at r2 r3 r8
    refine .inr ⟨r3, a0, a1, r1, r2, r5, ⟨by rw [r6]; simp, by simp only [r6]; exact r7, by simp only [r6]; exact r8⟩, cok_cv r4, fun x hx => (hk.lns x hx).1, fun x hx => (r4.lns x hx).1, fun hc => ?_⟩
    obtain ⟨s1, s2⟩ := r9 ((clean_iff (fun x hx => (hk.lns x hx).1)).1 hc)
    exact ⟨s1, (clean_iff (fun x hx => (r4.lns x hx).1)).2 s2⟩

set_option maxRecDepth 100000 in
set_option maxHeartbeats 1600000 in
theorem lawCaRead_walk (z : List Int) (A : Option Addr) (n c : Nat) (w : World) (_hl : z.length = n) (hc : n ≤ c) (hcm : c ≤ maxLen) (_ : True) (hB : Bys w w.heap.size A n) :
    Calls Try.prog 11 #[.slice A n c] w fun e w' => e = .returned (.bool true) ∧ Below w.heap.size w w' := by
  clear _hl
  have HB := hid_ hB; clear hB
  have HC := hid_ hcm
  have hm : n ≤ 9223372036854775807 := by unfold maxLen at hcm; omega
  clear hcm
  by_cases hbig : (1048576 : Int) < (n : Int)
  · go_enter Try.func11, Try.ntmps11
    go_wp2
    go_returns
    exact ⟨rfl, Below.refl _ _⟩
  have hn20 : n ≤ 1048576 := by omega
  go_enter Try.func11, Try.ntmps11
  go_wp2_with fail
  refine (drawCR_any A n c _ hn20 hc HC.out HB.out).mono ?_
  clear HB HC
  rintro e w1 ⟨L, m, d, A, n1, c, A2, n2, c2, a, rfl, hn1, hn2, hL, hd, hc, hcm, hc2, hcm2, hrl, hrd, hb1⟩
  have BB := hid_ hb1; clear hb1
  have HRl := hid_ hrl; clear hrl
  have HRd := hid_ hrd; clear hrd
  have HCl := hid_ hcm; clear hcm
  have HCd := hid_ hcm2; clear hcm2
  have hlx := read_len ⟨L, m, d⟩ a
  obtain ⟨Y, hY⟩ : ∃ Y, readC ⟨L, m, d⟩ a = Y := ⟨_, rfl⟩
  obtain ⟨y, hy⟩ : ∃ y, readV ⟨L, m, d⟩ a = y := ⟨_, rfl⟩
  obtain ⟨V, hV⟩ : ∃ V, viewC ⟨L, m, d⟩ = V := ⟨_, rfl⟩
  have hf := read_facts L m d a hY hy
  simp only [hY, hn1, hn2] at hlx
  rw [hn2, hV] at hf
  have HY := hid_ hY; clear hY
  have Hy := hid_ hy; clear hy
  have HV := hid_ hV; clear hV
  obtain ⟨m3, hm3⟩ : ∃ m3, Y.M = m3 := ⟨_, rfl⟩
  have HE := hid_ (show Ca.mk Y.L m3 Y.D = Y by rw [← hm3])
  rw [hm3] at hf
  have HF := hid_ hf; clear hf
  have HN1 := hid_ hn1; clear hn1
  have HN2 := hid_ hn2; clear hn2
  have HM3 := hid_ hm3; clear hm3
  obtain ⟨W0, hW0⟩ : ∃ W, World.alloc w1 (.cells #[.slice A n1 c, .int .i64 m] 29) = W := ⟨_, rfl⟩
  have hbW0 : Below (World.heap w1).size w1 W0 := by rw [← hW0]; exact (Below.refl _ _).alloc (Nat.le_refl _) _
  have HX0 := hid_ (show OutBox W0 (World.heap w1).size (.slice A n1 c) (m) by rw [← hW0]; exact BoxC.new _ _ _)
  have c00 := HX0.out.c0
  have c01 := HX0.out.c1
  have hs_hbW0 := hbW0.size
  replace BB := hid_ (BB.out.trans (hbW0.mono BB.out.size))
  replace HRl := hid_ (HRl.out.below hbW0)
  replace HRd := hid_ (HRd.out.below hbW0)
  clear hbW0
  go_wp2_with fail
  clear hW0
  refine (implRead_any L A n1 c m d A2 n2 c2 a _ HN1.out (by omega) hc HCl.out HRl.out HN2.out (by omega) hc2 HCd.out HRd.out).mono ?_
  rw [HY.out, Hy.out]
  rintro e w2 hx
  obtain ⟨A3, n3, c3, A4, n4, c4, rfl, hn3, hn4, hc3, hcm3, hc4, hcm4, hr3, hr4, hb2⟩ := hx.plain
  clear hx
  rw [hn3, hn4] at hlx
  have HN3 := hid_ hn3; clear hn3
  have HN4 := hid_ hn4; clear hn4
  have HR3 := hid_ hr3; clear hr3
  have HR4 := hid_ hr4; clear hr4
  have HC3 := hid_ hcm3; clear hcm3
  have HC4 := hid_ hcm4; clear hcm4
  rw [HM3.out]
  have hs_hb2 := hb2.size
  replace BB := hid_ (BB.out.trans (hb2.mono BB.out.size))
  replace HRl := hid_ (HRl.out.below hb2)
  replace HRd := hid_ (HRd.out.below hb2)
  replace HX0 := hid_ (HX0.out.block (hb2.block _ HX0.out.lt))
  replace c00 := HX0.out.c0
  replace c01 := HX0.out.c1
  clear hb2
  obtain ⟨W1, hW1⟩ : ∃ W, World.alloc w2 (.cells #[.slice A3 n3 c3, .int .i64 m3] 29) = W := ⟨_, rfl⟩
  have hbW1 : Below (World.heap w2).size w2 W1 := by rw [← hW1]; exact (Below.refl _ _).alloc (Nat.le_refl _) _
  have HX1 := hid_ (show OutBox W1 (World.heap w2).size (.slice A3 n3 c3) (m3) by rw [← hW1]; exact BoxC.new _ _ _)
  have c10 := HX1.out.c0
  have c11 := HX1.out.c1
  have hs_hbW1 := hbW1.size
  replace BB := hid_ (BB.out.trans (hbW1.mono BB.out.size))
  replace HRl := hid_ (HRl.out.below hbW1)
  replace HRd := hid_ (HRd.out.below hbW1)
  replace HX0 := hid_ (HX0.out.block (hbW1.block _ HX0.out.lt))
  replace c00 := HX0.out.c0
  replace c01 := HX0.out.c1
  replace HR3 := hid_ (HR3.out.below hbW1)
  replace HR4 := hid_ (HR4.out.below hbW1)
  clear hbW1
  go_wp2_with fail
  clear hW1
  refine (specRead_any L A n1 c m d A2 n2 c2 a _ HN1.out (by omega) HRl.out HN2.out (by omega) HRd.out).mono ?_
  rw [HY.out, Hy.out]
  rintro e w3 hx
  obtain ⟨A5, n5, c5, A6, n6, c6, rfl, hn5, hn6, -, -, -, -, hr5, hr6, hb3⟩ := hx.plain
  clear hx
  obtain rfl : n5 = n3 := hn5.symm.trans HN3.out
  obtain rfl : n6 = n4 := hn6.symm.trans HN4.out
  clear hn5 hn6
  have HR5 := hid_ hr5; clear hr5
  have HR6 := hid_ hr6; clear hr6
  rw [HM3.out]
  have hs_hb3 := hb3.size
  replace BB := hid_ (BB.out.trans (hb3.mono BB.out.size))
  replace HRl := hid_ (HRl.out.below hb3)
  replace HRd := hid_ (HRd.out.below hb3)
  replace HX0 := hid_ (HX0.out.block (hb3.block _ HX0.out.lt))
  replace c00 := HX0.out.c0
  replace c01 := HX0.out.c1
  replace HX1 := hid_ (HX1.out.block (hb3.block _ HX1.out.lt))
  replace c10 := HX1.out.c0
  replace c11 := HX1.out.c1
  replace HR3 := hid_ (HR3.out.below hb3)
  replace HR4 := hid_ (HR4.out.below hb3)
  clear hb3
  obtain ⟨W2, hW2⟩ : ∃ W, World.alloc w3 (.cells #[.slice A5 n5 c5, .int .i64 m3] 29) = W := ⟨_, rfl⟩
  have hbW2 : Below (World.heap w3).size w3 W2 := by rw [← hW2]; exact (Below.refl _ _).alloc (Nat.le_refl _) _
  have HX2 := hid_ (show OutBox W2 (World.heap w3).size (.slice A5 n5 c5) (m3) by rw [← hW2]; exact BoxC.new _ _ _)
  have c20 := HX2.out.c0
  have c21 := HX2.out.c1
  have hs_hbW2 := hbW2.size
  replace BB := hid_ (BB.out.trans (hbW2.mono BB.out.size))
  replace HRl := hid_ (HRl.out.below hbW2)
  replace HRd := hid_ (HRd.out.below hbW2)
  replace HX0 := hid_ (HX0.out.block (hbW2.block _ HX0.out.lt))
  replace c00 := HX0.out.c0
  replace c01 := HX0.out.c1
  replace HX1 := hid_ (HX1.out.block (hbW2.block _ HX1.out.lt))
  replace c10 := HX1.out.c0
  replace c11 := HX1.out.c1
  replace HR3 := hid_ (HR3.out.below hbW2)
  replace HR4 := hid_ (HR4.out.below hbW2)
  replace HR5 := hid_ (HR5.out.below hbW2)
  replace HR6 := hid_ (HR6.out.below hbW2)
  clear hbW2
  go_wp2_with fail
  clear hW2
  refine (sameCache_self Y.L A3 A5 n5 c3 c5 m3 _ HN3.out (by omega) HR3.out HR5.out).mono ?_
  rintro e w4 ⟨rfl, hb4⟩
  have hs_hb4 := hb4.size
  replace BB := hid_ (BB.out.trans (hb4.mono BB.out.size))
  replace HRl := hid_ (HRl.out.below hb4)
  replace HRd := hid_ (HRd.out.below hb4)
  replace HX0 := hid_ (HX0.out.block (hb4.block _ HX0.out.lt))
  replace c00 := HX0.out.c0
  replace c01 := HX0.out.c1
  replace HX1 := hid_ (HX1.out.block (hb4.block _ HX1.out.lt))
  replace c10 := HX1.out.c0
  replace c11 := HX1.out.c1
  replace HR3 := hid_ (HR3.out.below hb4)
  replace HR4 := hid_ (HR4.out.below hb4)
  replace HR6 := hid_ (HR6.out.below hb4)
  clear hb4
  go_wp2_with fail
  refine (sameInts_self Y.D A4 A6 _ _ _ _ _ HN4.out HN4.out (by unfold maxLen; omega) HR4.out HR6.out).mono ?_
  rintro e w5 ⟨rfl, hb_w5⟩
  have hs_hb_w5 := hb_w5.size
  replace BB := hid_ (BB.out.trans (hb_w5.mono BB.out.size))
  replace HRl := hid_ (HRl.out.below hb_w5)
  replace HRd := hid_ (HRd.out.below hb_w5)
  replace HX0 := hid_ (HX0.out.block (hb_w5.block _ HX0.out.lt))
  replace c00 := HX0.out.c0
  replace c01 := HX0.out.c1
  replace HX1 := hid_ (HX1.out.block (hb_w5.block _ HX1.out.lt))
  replace c10 := HX1.out.c0
  replace c11 := HX1.out.c1
  replace HR3 := hid_ (HR3.out.below hb_w5)
  replace HR4 := hid_ (HR4.out.below hb_w5)
  clear hb_w5
  clear HR5 HR6 HX2 c20 c21
  by_cases h0 : y = -1
  · subst h0
    go_wp2_with fail
    go_wp2_with fail
    refine (alive_any _).mono ?_
    rintro e w6 ⟨rfl, hbal⟩
    replace BB := hid_ (BB.out.trans (hbal.mono BB.out.size))
    go_wp2
    go_returns
    exact ⟨rfl, BB.out⟩
  obtain ⟨y0, a0, a1, f1, f2, f3, ⟨f4, f5, f6⟩, f7, f8, f9, f10⟩ := HF.out.resolve_left h0
  obtain ⟨an, rfl⟩ := Int.eq_ofNat_of_zero_le a0
  have han : an < n2 := by omega
  have hanz : (an : Int) < (n2 : Int) := by omega
  have hy0 : ¬ y < 0 := by omega
  have hf4 : 0 < n5 := by rw [← HN3.out]; exact f4
  have hf4z : (0 : Int) < (n5 : Int) := by omega
  obtain rfl : n6 = n2 := HN4.out.symm.trans f3
  rw [HN4.out] at f7
  obtain ⟨x0, hx0⟩ : ∃ x, Y.L[0]'f4 = x := ⟨_, rfl⟩
  rw [hx0] at f5 f6
  have HF1 := hid_ f1; clear f1
  have hve : V[an]'(by rw [HF1.out]; exact han) = y := by
    rw [Int.toNat_natCast, List.getElem?_eq_getElem (by rw [HF1.out]; exact han)] at f2
    injection f2
  have HX0' := hid_ hx0; clear hx0
  have HF7 := hid_ f7; clear f7
  have HF8 := hid_ f8; clear f8
  have HF9 := hid_ f9; clear f9
  have HF10 := hid_ f10; clear f10
  have HVE := hid_ hve; clear hve
  have HF5 := hid_ f5; clear f5
  have HF6 := hid_ f6; clear f6
  have hn5b : n5 ≤ 11 := by omega
  clear HF f2 f3 h0 a0 a1 hlx HY Hy
  go_wp2_with fail
  refine (implView_any L A n1 c m d A2 n6 c2 _ HN1.out (by omega) hc HCl.out HRl.out HN2.out (by omega) hc2 HCd.out HRd.out).mono ?_
  rw [HV.out, HF1.out]
  rintro e w6 ⟨Av, cv, rfl, -, -, hov, hbv⟩
  have HRv := hid_ (own_rd hov); clear hov
  have hs_hbv := hbv.size
  replace BB := hid_ (BB.out.trans (hbv.mono BB.out.size))
  replace HRl := hid_ (HRl.out.below hbv)
  replace HRd := hid_ (HRd.out.below hbv)
  replace HX0 := hid_ (HX0.out.block (hbv.block _ HX0.out.lt))
  replace c00 := HX0.out.c0
  replace c01 := HX0.out.c1
  replace HX1 := hid_ (HX1.out.block (hbv.block _ HX1.out.lt))
  replace c10 := HX1.out.c0
  replace c11 := HX1.out.c1
  replace HR3 := hid_ (HR3.out.below hbv)
  replace HR4 := hid_ (HR4.out.below hbv)
  clear hbv
  obtain ⟨bv, ov, rfl, hcv⟩ := HRv.out.int an han HF1.out
  rw [HVE.out] at hcv
  obtain ⟨b3, o3, rfl, h30, h31, h32⟩ := HR3.out.ln_at 0 hf4 HN3.out x0 HX0'.out
  rw [HF5.out] at h30
  rw [HF6.out] at h31
  simp only [Nat.zero_mul, Nat.add_zero] at h30 h31
  clear h32
  go_wp2_with fail
  refine (implCV_any Y.L (some ⟨b3, o3, none⟩) n5 c3 m3 (n6 : Int) _ HN3.out (by omega) hc3 HC3.out HR3.out).mono ?_
  rw [HF7.out]
  rintro e w7 ⟨rfl, hb7⟩
  clear hcv h30 h31
  have hs_hb7 := hb7.size
  replace BB := hid_ (BB.out.trans (hb7.mono BB.out.size))
  replace HRl := hid_ (HRl.out.below hb7)
  replace HRd := hid_ (HRd.out.below hb7)
  replace HX0 := hid_ (HX0.out.block (hb7.block _ HX0.out.lt))
  replace c00 := HX0.out.c0
  replace c01 := HX0.out.c1
  replace HX1 := hid_ (HX1.out.block (hb7.block _ HX1.out.lt))
  replace c10 := HX1.out.c0
  replace c11 := HX1.out.c1
  replace HR3 := hid_ (HR3.out.below hb7)
  replace HR4 := hid_ (HR4.out.below hb7)
  replace HRv := hid_ (HRv.out.below hb7)
  clear hb7
  go_wp2_with fail
  refine (clean_any L A n1 c m d A2 n6 c2 _ HN1.out (by omega) HRl.out HN2.out (by omega) HRd.out (by have := HF8.out; rwa [HN2.out])).mono ?_
  obtain ⟨cb, hcb⟩ : ∃ cb, cleanB L d = cb := ⟨_, rfl⟩
  rw [hcb]
  rw [hcb] at HF10
  clear hcb
  rintro e w8 ⟨rfl, hb8⟩
  have hs_hb8 := hb8.size
  replace BB := hid_ (BB.out.trans (hb8.mono BB.out.size))
  replace HRl := hid_ (HRl.out.below hb8)
  replace HRd := hid_ (HRd.out.below hb8)
  replace HX0 := hid_ (HX0.out.block (hb8.block _ HX0.out.lt))
  replace c00 := HX0.out.c0
  replace c01 := HX0.out.c1
  replace HX1 := hid_ (HX1.out.block (hb8.block _ HX1.out.lt))
  replace c10 := HX1.out.c0
  replace c11 := HX1.out.c1
  replace HR3 := hid_ (HR3.out.below hb8)
  replace HR4 := hid_ (HR4.out.below hb8)
  replace HRv := hid_ (HRv.out.below hb8)
  clear hb8
  cases cb
  · go_wp2
    go_returns
    exact ⟨rfl, BB.out⟩
  · obtain ⟨hv1, hv2⟩ := HF10.out rfl
    have HV2 := hid_ hv2; clear hv2
    go_wp2_with fail
    refine (implView_any Y.L (some ⟨b3, o3, none⟩) n5 c3 m3 Y.D A4 n6 c4 _ HN3.out (by omega) hc3 HC3.out HR3.out HN4.out (by omega) hc4 HC4.out HR4.out).mono ?_
    rw [HE.out, hv1, HF1.out]
    clear hv1
    rintro e w9 ⟨Au, cu, rfl, -, -, hou, hbu⟩
    have HRu := hid_ (own_rd hou); clear hou
    have hs_hbu := hbu.size
    replace BB := hid_ (BB.out.trans (hbu.mono BB.out.size))
    replace HX1 := hid_ (HX1.out.block (hbu.block _ HX1.out.lt))
    replace c10 := HX1.out.c0
    replace c11 := HX1.out.c1
    replace HR3 := hid_ (HR3.out.below hbu)
    replace HR4 := hid_ (HR4.out.below hbu)
    replace HRv := hid_ (HRv.out.below hbu)
    clear hbu
    go_wp2_with fail
    refine (sameInts_self V Au (some ⟨bv, ov, none⟩) _ _ _ _ _ HF1.out HF1.out (by unfold maxLen; omega) HRu.out HRv.out).mono ?_
    rintro e w10 ⟨rfl, hb_w10⟩
    have hs_hb_w10 := hb_w10.size
    replace BB := hid_ (BB.out.trans (hb_w10.mono BB.out.size))
    replace HX1 := hid_ (HX1.out.block (hb_w10.block _ HX1.out.lt))
    replace c10 := HX1.out.c0
    replace c11 := HX1.out.c1
    replace HR3 := hid_ (HR3.out.below hb_w10)
    replace HR4 := hid_ (HR4.out.below hb_w10)
    clear hb_w10
    go_wp2_with fail
    refine (clean_any Y.L (some ⟨b3, o3, none⟩) n5 c3 m3 Y.D A4 n6 c4 _ HN3.out (by omega) HR3.out HN4.out (by omega) HR4.out HF9.out).mono ?_
    rw [HV2.out]
    rintro e w11 ⟨rfl, hb11⟩
    go_wp2
    go_returns
    exact ⟨rfl, BB.out.trans (hb11.mono BB.out.size)⟩

set_option maxRecDepth 100000 in
theorem fnCacheRead_lifted (os : Os) (started : os.Started) (H : Type) (enc : TypeId × Value → H) :
    ReturnsInHanded {} Try.checked os 11 .any (Rows.fnCacheReadSpec.pre6 enc Try.prog Try.f11 Rows.fnCacheReadRow.domain false) (Rows.fnCacheReadSpec.post enc Try.prog Try.f11 false true false false) := by
  refine returnsInHanded_of_change (C := Try.checked) own_ started (by kernel_rfl) Try.func11
    (ChangeSpec.witness6 (enc := enc) (C := Try.checked) false ⟨#[], #[.slice none 0 0], []⟩ 8 (by kernel_rfl) (by kernel_rfl) (by kernel_rfl) (by kernel_rfl)) ?_
  intro W base args ds gs before hval0 hW hcnd _
  have hval : ∀ (j : Nat) t v, Try.f11.params[j]? = some t → args[j]? = some v → Value.okWide Try.prog W .any base t v := hval0
  have hW' := hW
  obtain ⟨p, q, hA0, hV, rfl, hfz, hnd⟩ := hW
  have hA : DataW.TrodAll enc Try.prog W 0 (fun _ => true) true Try.f11.params.toList args.toList ds p := hA0
  rw [Try.params11] at hA hval
  obtain ⟨v0, vs0, d0, ds0, p0, q0, hargs, rfl, rfl, h0, r0⟩ := trodAll_cons hA
  obtain ⟨rfl, rfl, rfl⟩ := trodAll_nil r0
  obtain rfl : args = #[v0] := by cases args; simp_all
  obtain ⟨rfl, rfl⟩ := trodVars_none hV
  obtain ⟨a0, len0, cap0, rfl⟩ := okWide_slice Try.underlying33 (hval 0 33 v0 rfl rfl)
  have k0 := h0
  have lt0 : ∀ x ∈ p0, x.block < W.heap.size := by obtain ⟨m, hm⟩ := k0; exact DataW.trod_lt m _ _ _ hm
  obtain ⟨z0, e0, lc0, cm0, w0, rd0⟩ := open_bytes h0
  clear hA0 hval0
  refine (lawCaRead_walk z0 a0 len0 cap0 W e0 lc0 cm0 w0 rd0).mono fun e W' ⟨he, bel⟩ => ?_
  subst he
  exact ⟨_, rfl, _, _, _, [], _, [], hW', trodAll_mk1 (shut_bool Try.underlying4 _), (trodAll_cons_mk (Below.trod laidOut_ (by kernel_rfl) (of_decide_eq_true (by kernel_rfl)) k0 bel lt0) trodAll_mk0), rfl, bel.frame _, fun h => by cases h⟩

theorem fnCacheRead_holds : Rows.FnCacheReadSaid :=
  OpenClaim.holds_of_wide 11 Try.f11 rfl rfl rfl rfl rfl rfl rfl ⟨rfl, rfl, rfl, rfl, rfl⟩ rfl rfl rfl rfl rfl (by kernel_rfl) Try.func11 (by kernel_rfl)
    (of_decide_eq_true (by kernel_rfl)) (by unfold Func.isWrapper; first | (rw [if_pos (by decide +kernel)]; kernel_rfl) | (rw [if_neg (by decide +kernel)]; exact ⟨rfl, rfl⟩))
    (fun os started H enc _ => fnCacheRead_lifted os started H enc)

end Go.Proofs.Ytejnieoneknbbaa
