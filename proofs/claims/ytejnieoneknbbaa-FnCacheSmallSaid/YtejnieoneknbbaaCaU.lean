/-
  Caches: the law on writing. The view is then the view before with the value at the sector, if the lines that are not dirty have the values of the disk; reading returns the value.
-/
import Derived.Test.YtejnieoneknbbaaCaS
import Derived.Test.YtejnieoneknbbaaCaJ
import Derived.Test.YtejnieoneknbbaaWrS
namespace Go.Proofs.Ytejnieoneknbbaa
open Go.ChangeShapes Go.WideShapes Go.ChangeAt Go.RowKit Go.BigFrame Go.Deep

theorem write_len (C : Ca) (a v : Int) : (writeC C a v).L.length ≤ C.L.length + 1 ∧ (writeC C a v).D.length ≤ C.D.length := by
  unfold writeC
  split
  · exact use_len _ _
  · simp [Ca.zero]
theorem view_disk {C : Ca} (h : COk C) : diskB (viewC C) = true := by
  unfold diskB
  simp only [Bool.and_eq_true, decide_eq_true_eq]
  refine ⟨by rw [viewC_length h]; exact h.len, ?_⟩
  unfold allB
  rw [List.all_eq_true]
  intro v hv
  rw [inB_iff]
  obtain ⟨i, hi⟩ := List.mem_iff_getElem?.1 hv
  rw [viewC_seen h] at hi
  unfold seen at hi
  cases e : C.L.find? (fun x => x.at_ == (i : Int)) with
  | none => rw [e] at hi; exact h.val _ (List.mem_of_getElem? hi)
  | some x =>
    rw [e] at hi
    injection hi with hi
    subst hi
    exact (h.lns _ (List.mem_of_find?_eq_some e)).2
/-- what the law says of writing -/
theorem write_facts (L : List Ln) (m : Int) (d : List Int) (a v : Int) {Y : Ca} (hY : writeC ⟨L, m, d⟩ a v = Y) : (Y.M = 0 ∧ Y.D.length = 0) ∨ (Y.M ≠ 0 ∧ 0 ≤ a ∧ a < d.length ∧ (0 ≤ v ∧ v ≤ 255) ∧ (viewC ⟨L, m, d⟩).length = d.length ∧ diskB (viewC ⟨L, m, d⟩) = true ∧ Y.D.length = d.length ∧ readV Y a = v ∧ cvB Y.L Y.M Y.D.length = true ∧ (∀ x ∈ L, 0 ≤ x.at_ ∧ x.at_ < d.length) ∧ (∀ x ∈ Y.L, 0 ≤ x.at_ ∧ x.at_ < Y.D.length) ∧ (cleanB L d = true → viewC Y = (viewC ⟨L, m, d⟩).set a.toNat v ∧ cleanB Y.L Y.D = true)) := by
  subst hY
  cases q : (caAt ⟨L, m, d⟩ a && inB v 0 255)
  · left
    have : writeC ⟨L, m, d⟩ a v = Ca.zero := if_neg (by simp only [q]; decide)
    rw [this]; exact ⟨rfl, rfl⟩
  · have hM : (writeC ⟨L, m, d⟩ a v).M = m := by unfold writeC; rw [if_pos q]; rfl
    rw [Bool.and_eq_true] at q
    obtain ⟨q1, q2⟩ := q
    have hv := inB_iff.1 q2
    obtain ⟨hk, a0, a1⟩ := caAt_parts q1
    obtain ⟨r1, r2, r3, r4, r5⟩ := write_law q1 hv
    have hm := hk.m0
    simp only at hm
    refine .inr ⟨by rw [hM]; omega, a0, a1, hv, viewC_length hk, view_disk hk, r2, r4, cok_cv r1, fun x hx => (hk.lns x hx).1, fun x hx => (r1.lns x hx).1, fun hc => ?_⟩
    obtain ⟨s1, s2⟩ := r5 ((clean_iff (fun x hx => (hk.lns x hx).1)).1 hc)
    exact ⟨s1, (clean_iff (fun x hx => (r1.lns x hx).1)).2 s2⟩
theorem rd_one (w : World) (v : Int) : Rd (w.alloc (.cells #[.int .i64 v] 3)) 1 (some ⟨w.heap.size, 0, none⟩) 1 (intC [v]) :=
  ⟨rfl, fun _ => ⟨_, _, rfl, fun j u hu => by
    have := news_alloc w [.int .i64 v] 3 j u hu
    rwa [add_mid] at this⟩⟩

set_option maxRecDepth 100000 in
set_option maxHeartbeats 1600000 in
theorem lawCaWrite_walk (z : List Int) (A : Option Addr) (n c : Nat) (w : World) (_hl : z.length = n) (hc : n ≤ c) (hcm : c ≤ maxLen) (_ : True) (hB : Bys w w.heap.size A n) :
    Calls Try.prog 13 #[.slice A n c] w fun e w' => e = .returned (.bool true) ∧ Below w.heap.size w w' := by
  clear _hl
  have HB := hid_ hB; clear hB
  have HC := hid_ hcm
  have hm : n ≤ 9223372036854775807 := by unfold maxLen at hcm; omega
  clear hcm
  by_cases hbig : (1048576 : Int) < (n : Int)
  · go_enter Try.func13, Try.ntmps13
    go_wp2
    go_returns
    exact ⟨rfl, Below.refl _ _⟩
  have hn20 : n ≤ 1048576 := by omega
  go_enter Try.func13, Try.ntmps13
  go_wp2_with fail
  refine (drawCX_any A n c _ hn20 hc HC.out HB.out).mono ?_
  clear HB HC
  rintro e w1 ⟨L, m, d, A, n1, c, A2, n2, c2, a, v, rfl, hn1, hn2, hL, hd, hc, hcm, hc2, hcm2, hrl, hrd, hb1⟩
  have BB := hid_ hb1; clear hb1
  have HRl := hid_ hrl; clear hrl
  have HRd := hid_ hrd; clear hrd
  have HCl := hid_ hcm; clear hcm
  have HCd := hid_ hcm2; clear hcm2
  have hlx := write_len ⟨L, m, d⟩ a v
  obtain ⟨Y, hY⟩ : ∃ Y, writeC ⟨L, m, d⟩ a v = Y := ⟨_, rfl⟩
  obtain ⟨V, hV⟩ : ∃ V, viewC ⟨L, m, d⟩ = V := ⟨_, rfl⟩
  have hf := write_facts L m d a v hY
  simp only [hY, hn1, hn2] at hlx
  rw [hn2, hV] at hf
  have HY := hid_ hY; clear hY
  have HV := hid_ hV; clear hV
  obtain ⟨m3, hm3⟩ : ∃ m3, Y.M = m3 := ⟨_, rfl⟩
  have HE := hid_ (show Ca.mk Y.L m3 Y.D = Y by rw [← hm3])
  rw [hm3] at hf
  have HF := hid_ hf; clear hf
  have HN1 := hid_ hn1; clear hn1
  have HN2 := hid_ hn2; clear hn2
  have HM3 := hid_ hm3; clear hm3
  obtain ⟨W0, hW0⟩ : ∃ W, World.alloc w1 (.cells #[.slice A n1 c, .int .i64 m] 29) = W := ⟨_, rfl⟩
  have hbW0 : Below (World.heap w1).size w1 W0 := by rw [← hW0]; exact (Below.refl _ _).alloc (Nat.le_refl _) _
  have HX0 := hid_ (show OutBox W0 (World.heap w1).size (.slice A n1 c) (m) by rw [← hW0]; exact BoxC.new _ _ _)
  have c00 := HX0.out.c0
  have c01 := HX0.out.c1
  have hs_hbW0 := hbW0.size
  replace BB := hid_ (BB.out.trans (hbW0.mono BB.out.size))
  replace HRl := hid_ (HRl.out.below hbW0)
  replace HRd := hid_ (HRd.out.below hbW0)
  clear hbW0
  go_wp2_with fail
  clear hW0
  refine (implWrite_any L A n1 c m d A2 n2 c2 a v _ HN1.out (by omega) hc HCl.out HRl.out HN2.out (by omega) hc2 HCd.out HRd.out).mono ?_
  rw [HY.out]
  rintro e w2 hx
  obtain ⟨A3, n3, c3, A4, n4, c4, rfl, hn3, hn4, hc3, hcm3, hc4, hcm4, hr3, hr4, hb2⟩ := hx.plain
  clear hx
  rw [hn3, hn4] at hlx
  have HN3 := hid_ hn3; clear hn3
  have HN4 := hid_ hn4; clear hn4
  have HR3 := hid_ hr3; clear hr3
  have HR4 := hid_ hr4; clear hr4
  have HC3 := hid_ hcm3; clear hcm3
  have HC4 := hid_ hcm4; clear hcm4
  rw [HM3.out]
  have hs_hb2 := hb2.size
  replace BB := hid_ (BB.out.trans (hb2.mono BB.out.size))
  replace HRl := hid_ (HRl.out.below hb2)
  replace HRd := hid_ (HRd.out.below hb2)
  replace HX0 := hid_ (HX0.out.block (hb2.block _ HX0.out.lt))
  replace c00 := HX0.out.c0
  replace c01 := HX0.out.c1
  clear hb2
  obtain ⟨W1, hW1⟩ : ∃ W, World.alloc w2 (.cells #[.slice A3 n3 c3, .int .i64 m3] 29) = W := ⟨_, rfl⟩
  have hbW1 : Below (World.heap w2).size w2 W1 := by rw [← hW1]; exact (Below.refl _ _).alloc (Nat.le_refl _) _
  have HX1 := hid_ (show OutBox W1 (World.heap w2).size (.slice A3 n3 c3) (m3) by rw [← hW1]; exact BoxC.new _ _ _)
  have c10 := HX1.out.c0
  have c11 := HX1.out.c1
  have hs_hbW1 := hbW1.size
  replace BB := hid_ (BB.out.trans (hbW1.mono BB.out.size))
  replace HRl := hid_ (HRl.out.below hbW1)
  replace HRd := hid_ (HRd.out.below hbW1)
  replace HX0 := hid_ (HX0.out.block (hbW1.block _ HX0.out.lt))
  replace c00 := HX0.out.c0
  replace c01 := HX0.out.c1
  replace HR3 := hid_ (HR3.out.below hbW1)
  replace HR4 := hid_ (HR4.out.below hbW1)
  clear hbW1
  go_wp2_with fail
  clear hW1
  refine (specWrite_any L A n1 c m d A2 n2 c2 a v _ HN1.out (by omega) HRl.out HN2.out (by omega) HRd.out).mono ?_
  rw [HY.out]
  rintro e w3 hx
  obtain ⟨A5, n5, c5, A6, n6, c6, rfl, hn5, hn6, -, -, -, -, hr5, hr6, hb3⟩ := hx.plain
  clear hx
  obtain rfl : n5 = n3 := hn5.symm.trans HN3.out
  obtain rfl : n6 = n4 := hn6.symm.trans HN4.out
  clear hn5 hn6
  have HR5 := hid_ hr5; clear hr5
  have HR6 := hid_ hr6; clear hr6
  rw [HM3.out]
  have hs_hb3 := hb3.size
  replace BB := hid_ (BB.out.trans (hb3.mono BB.out.size))
  replace HRl := hid_ (HRl.out.below hb3)
  replace HRd := hid_ (HRd.out.below hb3)
  replace HX0 := hid_ (HX0.out.block (hb3.block _ HX0.out.lt))
  replace c00 := HX0.out.c0
  replace c01 := HX0.out.c1
  replace HX1 := hid_ (HX1.out.block (hb3.block _ HX1.out.lt))
  replace c10 := HX1.out.c0
  replace c11 := HX1.out.c1
  replace HR3 := hid_ (HR3.out.below hb3)
  replace HR4 := hid_ (HR4.out.below hb3)
  clear hb3
  obtain ⟨W2, hW2⟩ : ∃ W, World.alloc w3 (.cells #[.slice A5 n5 c5, .int .i64 m3] 29) = W := ⟨_, rfl⟩
  have hbW2 : Below (World.heap w3).size w3 W2 := by rw [← hW2]; exact (Below.refl _ _).alloc (Nat.le_refl _) _
  have HX2 := hid_ (show OutBox W2 (World.heap w3).size (.slice A5 n5 c5) (m3) by rw [← hW2]; exact BoxC.new _ _ _)
  have c20 := HX2.out.c0
  have c21 := HX2.out.c1
  have hs_hbW2 := hbW2.size
  replace BB := hid_ (BB.out.trans (hbW2.mono BB.out.size))
  replace HRl := hid_ (HRl.out.below hbW2)
  replace HRd := hid_ (HRd.out.below hbW2)
  replace HX0 := hid_ (HX0.out.block (hbW2.block _ HX0.out.lt))
  replace c00 := HX0.out.c0
  replace c01 := HX0.out.c1
  replace HX1 := hid_ (HX1.out.block (hbW2.block _ HX1.out.lt))
  replace c10 := HX1.out.c0
  replace c11 := HX1.out.c1
  replace HR3 := hid_ (HR3.out.below hbW2)
  replace HR4 := hid_ (HR4.out.below hbW2)
  replace HR5 := hid_ (HR5.out.below hbW2)
  replace HR6 := hid_ (HR6.out.below hbW2)
  clear hbW2
  go_wp2_with fail
  clear hW2
  refine (sameCache_self Y.L A3 A5 n5 c3 c5 m3 _ HN3.out (by omega) HR3.out HR5.out).mono ?_
  rintro e w4 ⟨rfl, hb4⟩
  have hs_hb4 := hb4.size
  replace BB := hid_ (BB.out.trans (hb4.mono BB.out.size))
  replace HRl := hid_ (HRl.out.below hb4)
  replace HRd := hid_ (HRd.out.below hb4)
  replace HX0 := hid_ (HX0.out.block (hb4.block _ HX0.out.lt))
  replace c00 := HX0.out.c0
  replace c01 := HX0.out.c1
  replace HX1 := hid_ (HX1.out.block (hb4.block _ HX1.out.lt))
  replace c10 := HX1.out.c0
  replace c11 := HX1.out.c1
  replace HR3 := hid_ (HR3.out.below hb4)
  replace HR4 := hid_ (HR4.out.below hb4)
  replace HR6 := hid_ (HR6.out.below hb4)
  clear hb4
  go_wp2_with fail
  refine (sameInts_self Y.D A4 A6 _ _ _ _ _ HN4.out HN4.out (by unfold maxLen; omega) HR4.out HR6.out).mono ?_
  rintro e w5 ⟨rfl, hb_w5⟩
  have hs_hb_w5 := hb_w5.size
  replace BB := hid_ (BB.out.trans (hb_w5.mono BB.out.size))
  replace HRl := hid_ (HRl.out.below hb_w5)
  replace HRd := hid_ (HRd.out.below hb_w5)
  replace HX0 := hid_ (HX0.out.block (hb_w5.block _ HX0.out.lt))
  replace c00 := HX0.out.c0
  replace c01 := HX0.out.c1
  replace HX1 := hid_ (HX1.out.block (hb_w5.block _ HX1.out.lt))
  replace c10 := HX1.out.c0
  replace c11 := HX1.out.c1
  replace HR3 := hid_ (HR3.out.below hb_w5)
  replace HR4 := hid_ (HR4.out.below hb_w5)
  clear hb_w5
  clear HR5 HR6 HX2 c20 c21
  by_cases h0 : m3 = 0
  · subst h0
    obtain ⟨-, hz4⟩ := HF.out.resolve_right (fun h => h.1 rfl)
    rw [HN4.out] at hz4
    subst hz4
    go_wp2_with fail
    go_wp2_with fail
    refine (alive_any _).mono ?_
    rintro e w6 ⟨rfl, hbal⟩
    replace BB := hid_ (BB.out.trans (hbal.mono BB.out.size))
    go_wp2
    go_returns
    exact ⟨rfl, BB.out⟩
  obtain ⟨-, a0, a1, v01, f1, f2, f3, f4, f5, f6, f7, f8⟩ := HF.out.resolve_left (fun h => h0 h.1)
  obtain ⟨an, rfl⟩ := Int.eq_ofNat_of_zero_le a0
  have han : an < n2 := by omega
  obtain rfl : n6 = n2 := HN4.out.symm.trans f3
  rw [HN4.out] at f5
  have hn5b : n5 ≤ 11 := by omega
  have HF1 := hid_ f1; clear f1
  have HF2 := hid_ f2; clear f2
  have HF4 := hid_ f4; clear f4
  have HF5 := hid_ f5; clear f5
  have HF6 := hid_ f6; clear f6
  have HF7 := hid_ f7; clear f7
  have HF8 := hid_ f8; clear f8
  have hz : (m3 == 0) = false := by rw [beq_eq_false_iff_ne]; exact h0
  clear HF f3 a0 a1 hlx HY h0
  go_wp2_with fail
  refine (implView_any L A n1 c m d A2 n6 c2 _ HN1.out (by omega) hc HCl.out HRl.out HN2.out (by omega) hc2 HCd.out HRd.out).mono ?_
  rw [HV.out, HF1.out]
  rintro e w6 ⟨Av, cv, rfl, -, -, hov, hbv⟩
  have HRv := hid_ (own_rd hov); clear hov
  have hs_hbv := hbv.size
  replace BB := hid_ (BB.out.trans (hbv.mono BB.out.size))
  replace HRl := hid_ (HRl.out.below hbv)
  replace HRd := hid_ (HRd.out.below hbv)
  replace HX0 := hid_ (HX0.out.block (hbv.block _ HX0.out.lt))
  replace c00 := HX0.out.c0
  replace c01 := HX0.out.c1
  replace HX1 := hid_ (HX1.out.block (hbv.block _ HX1.out.lt))
  replace c10 := HX1.out.c0
  replace c11 := HX1.out.c1
  replace HR3 := hid_ (HR3.out.below hbv)
  replace HR4 := hid_ (HR4.out.below hbv)
  clear hbv
  obtain ⟨W6, hW6⟩ : ∃ W, w6.alloc (.cells #[.int .i64 v] 3) = W := ⟨_, rfl⟩
  have hbW6 : Below w6.heap.size w6 W6 := by rw [← hW6]; exact (Below.refl _ _).alloc (Nat.le_refl _) _
  have HR1 := hid_ (show Rd W6 1 (some ⟨w6.heap.size, 0, none⟩) 1 (intC [v]) by rw [← hW6]; exact rd_one w6 v)
  have hs_hbW6 := hbW6.size
  replace BB := hid_ (BB.out.trans (hbW6.mono BB.out.size))
  replace HRl := hid_ (HRl.out.below hbW6)
  replace HRd := hid_ (HRd.out.below hbW6)
  replace HX0 := hid_ (HX0.out.block (hbW6.block _ HX0.out.lt))
  replace c00 := HX0.out.c0
  replace c01 := HX0.out.c1
  replace HX1 := hid_ (HX1.out.block (hbW6.block _ HX1.out.lt))
  replace c10 := HX1.out.c0
  replace c11 := HX1.out.c1
  replace HR3 := hid_ (HR3.out.below hbW6)
  replace HR4 := hid_ (HR4.out.below hbW6)
  replace HRv := hid_ (HRv.out.below hbW6)
  clear hbW6
  go_wp2_with fail
  clear hW6
  refine (implWS_any V Av n6 cv an v (some ⟨w6.heap.size, 0, none⟩) 1 _ HF1.out (by omega) HRv.out HR1.out HF2.out v01 han).mono ?_
  rintro e w7 ⟨At, ct, rfl, hrt, hb7⟩
  have HRt := hid_ hrt; clear hrt
  have hs_hb7 := hb7.size
  replace BB := hid_ (BB.out.trans (hb7.mono BB.out.size))
  replace HRl := hid_ (HRl.out.below hb7)
  replace HRd := hid_ (HRd.out.below hb7)
  replace HX0 := hid_ (HX0.out.block (hb7.block _ HX0.out.lt))
  replace c00 := HX0.out.c0
  replace c01 := HX0.out.c1
  replace HX1 := hid_ (HX1.out.block (hb7.block _ HX1.out.lt))
  replace c10 := HX1.out.c0
  replace c11 := HX1.out.c1
  replace HR3 := hid_ (HR3.out.below hb7)
  replace HR4 := hid_ (HR4.out.below hb7)
  clear hb7
  clear HR1 HRv
  go_wp2_with fail
  refine (implRead_any Y.L A3 n5 c3 m3 Y.D A4 n6 c4 (an : Int) _ HN3.out (by omega) hc3 HC3.out HR3.out HN4.out (by omega) hc4 HC4.out HR4.out).mono ?_
  rw [HE.out, HF4.out]
  obtain ⟨Z, hZ⟩ : ∃ Z, readC Y (an : Int) = Z := ⟨_, rfl⟩
  rw [hZ]
  clear hZ
  rintro e w8 hx
  obtain ⟨A7, n7, c7, A8, n8, c8, rfl, -, -, -, -, -, -, -, -, hb8⟩ := hx.plain
  clear hx
  have hs_hb8 := hb8.size
  replace BB := hid_ (BB.out.trans (hb8.mono BB.out.size))
  replace HRl := hid_ (HRl.out.below hb8)
  replace HRd := hid_ (HRd.out.below hb8)
  replace HX0 := hid_ (HX0.out.block (hb8.block _ HX0.out.lt))
  replace c00 := HX0.out.c0
  replace c01 := HX0.out.c1
  replace HX1 := hid_ (HX1.out.block (hb8.block _ HX1.out.lt))
  replace c10 := HX1.out.c0
  replace c11 := HX1.out.c1
  replace HR3 := hid_ (HR3.out.below hb8)
  replace HR4 := hid_ (HR4.out.below hb8)
  replace HRt := hid_ (HRt.out.below hb8)
  clear hb8
  obtain ⟨W8, hW3⟩ : ∃ W, World.alloc w8 (.cells #[.slice A7 n7 c7, .int .i64 Z.M] 29) = W := ⟨_, rfl⟩
  have hbW3 : Below (World.heap w8).size w8 W8 := by rw [← hW3]; exact (Below.refl _ _).alloc (Nat.le_refl _) _
  have HX3 := hid_ (show OutBox W8 (World.heap w8).size (.slice A7 n7 c7) (Z.M) by rw [← hW3]; exact BoxC.new _ _ _)
  have c30 := HX3.out.c0
  have c31 := HX3.out.c1
  have hs_hbW3 := hbW3.size
  replace BB := hid_ (BB.out.trans (hbW3.mono BB.out.size))
  replace HRl := hid_ (HRl.out.below hbW3)
  replace HRd := hid_ (HRd.out.below hbW3)
  replace HX0 := hid_ (HX0.out.block (hbW3.block _ HX0.out.lt))
  replace c00 := HX0.out.c0
  replace c01 := HX0.out.c1
  replace HX1 := hid_ (HX1.out.block (hbW3.block _ HX1.out.lt))
  replace c10 := HX1.out.c0
  replace c11 := HX1.out.c1
  replace HR3 := hid_ (HR3.out.below hbW3)
  replace HR4 := hid_ (HR4.out.below hbW3)
  replace HRt := hid_ (HRt.out.below hbW3)
  clear hbW3
  go_wp2_with fail
  clear hW3
  refine (implCV_any Y.L A3 n5 c3 m3 (n6 : Int) _ HN3.out (by omega) hc3 HC3.out HR3.out).mono ?_
  rw [HF5.out]
  rintro e w9 ⟨rfl, hb9⟩
  have hs_hb9 := hb9.size
  replace BB := hid_ (BB.out.trans (hb9.mono BB.out.size))
  replace HRl := hid_ (HRl.out.below hb9)
  replace HRd := hid_ (HRd.out.below hb9)
  replace HX0 := hid_ (HX0.out.block (hb9.block _ HX0.out.lt))
  replace c00 := HX0.out.c0
  replace c01 := HX0.out.c1
  replace HX1 := hid_ (HX1.out.block (hb9.block _ HX1.out.lt))
  replace c10 := HX1.out.c0
  replace c11 := HX1.out.c1
  replace HR3 := hid_ (HR3.out.below hb9)
  replace HR4 := hid_ (HR4.out.below hb9)
  replace HRt := hid_ (HRt.out.below hb9)
  clear hb9
  go_wp2_with fail
  refine (clean_any L A n1 c m d A2 n6 c2 _ HN1.out (by omega) HRl.out HN2.out (by omega) HRd.out (by have := HF6.out; rwa [HN2.out])).mono ?_
  obtain ⟨cb, hcb⟩ : ∃ cb, cleanB L d = cb := ⟨_, rfl⟩
  rw [hcb]
  rw [hcb] at HF8
  clear hcb
  rintro e w10 ⟨rfl, hb10⟩
  have hs_hb10 := hb10.size
  replace BB := hid_ (BB.out.trans (hb10.mono BB.out.size))
  replace HX1 := hid_ (HX1.out.block (hb10.block _ HX1.out.lt))
  replace c10 := HX1.out.c0
  replace c11 := HX1.out.c1
  replace HR3 := hid_ (HR3.out.below hb10)
  replace HR4 := hid_ (HR4.out.below hb10)
  replace HRt := hid_ (HRt.out.below hb10)
  clear hb10
  cases cb
  · go_wp2
    go_returns
    exact ⟨rfl, BB.out⟩
  · obtain ⟨hv1, hv2⟩ := HF8.out rfl
    rw [Int.toNat_natCast] at hv1
    have HV2 := hid_ hv2; clear hv2
    have hls : (V.set an v).length = n6 := by rw [List.length_set]; exact HF1.out
    obtain ⟨X, hX⟩ : ∃ X, V.set an v = X := ⟨_, rfl⟩
    rw [hX] at hv1 hls HRt
    have HLS := hid_ hls; clear hls hX
    go_wp2_with fail
    refine (implView_any Y.L A3 n5 c3 m3 Y.D A4 n6 c4 _ HN3.out (by omega) hc3 HC3.out HR3.out HN4.out (by omega) hc4 HC4.out HR4.out).mono ?_
    rw [HE.out, hv1, HLS.out]
    clear hv1
    rintro e w11 ⟨Au, cu, rfl, -, -, hou, hbu⟩
    have HRu := hid_ (own_rd hou); clear hou
    have hs_hbu := hbu.size
    replace BB := hid_ (BB.out.trans (hbu.mono BB.out.size))
    replace HX1 := hid_ (HX1.out.block (hbu.block _ HX1.out.lt))
    replace c10 := HX1.out.c0
    replace c11 := HX1.out.c1
    replace HR3 := hid_ (HR3.out.below hbu)
    replace HR4 := hid_ (HR4.out.below hbu)
    replace HRt := hid_ (HRt.out.below hbu)
    clear hbu
    go_wp2_with fail
    refine (sameInts_self X Au At _ _ _ _ _ HLS.out HLS.out (by unfold maxLen; omega) HRu.out HRt.out).mono ?_
    rintro e w12 ⟨rfl, hb_w12⟩
    have hs_hb_w12 := hb_w12.size
    replace BB := hid_ (BB.out.trans (hb_w12.mono BB.out.size))
    replace HX1 := hid_ (HX1.out.block (hb_w12.block _ HX1.out.lt))
    replace c10 := HX1.out.c0
    replace c11 := HX1.out.c1
    replace HR3 := hid_ (HR3.out.below hb_w12)
    replace HR4 := hid_ (HR4.out.below hb_w12)
    clear hb_w12
    go_wp2_with fail
    refine (clean_any Y.L A3 n5 c3 m3 Y.D A4 n6 c4 _ HN3.out (by omega) HR3.out HN4.out (by omega) HR4.out HF7.out).mono ?_
    rw [HV2.out]
    rintro e w13 ⟨rfl, hb13⟩
    go_wp2
    go_returns
    exact ⟨rfl, BB.out.trans (hb13.mono BB.out.size)⟩

set_option maxRecDepth 100000 in
theorem fnCacheWrite_lifted (os : Os) (started : os.Started) (H : Type) (enc : TypeId × Value → H) :
    ReturnsInHanded {} Try.checked os 13 .any (Rows.fnCacheWriteSpec.pre6 enc Try.prog Try.f13 Rows.fnCacheWriteRow.domain false) (Rows.fnCacheWriteSpec.post enc Try.prog Try.f13 false true false false) := by
  refine returnsInHanded_of_change (C := Try.checked) own_ started (by kernel_rfl) Try.func13
    (ChangeSpec.witness6 (enc := enc) (C := Try.checked) false ⟨#[], #[.slice none 0 0], []⟩ 8 (by kernel_rfl) (by kernel_rfl) (by kernel_rfl) (by kernel_rfl)) ?_
  intro W base args ds gs before hval0 hW hcnd _
  have hval : ∀ (j : Nat) t v, Try.f13.params[j]? = some t → args[j]? = some v → Value.okWide Try.prog W .any base t v := hval0
  have hW' := hW
  obtain ⟨p, q, hA0, hV, rfl, hfz, hnd⟩ := hW
  have hA : DataW.TrodAll enc Try.prog W 0 (fun _ => true) true Try.f13.params.toList args.toList ds p := hA0
  rw [Try.params13] at hA hval
  obtain ⟨v0, vs0, d0, ds0, p0, q0, hargs, rfl, rfl, h0, r0⟩ := trodAll_cons hA
  obtain ⟨rfl, rfl, rfl⟩ := trodAll_nil r0
  obtain rfl : args = #[v0] := by cases args; simp_all
  obtain ⟨rfl, rfl⟩ := trodVars_none hV
  obtain ⟨a0, len0, cap0, rfl⟩ := okWide_slice Try.underlying33 (hval 0 33 v0 rfl rfl)
  have k0 := h0
  have lt0 : ∀ x ∈ p0, x.block < W.heap.size := by obtain ⟨m, hm⟩ := k0; exact DataW.trod_lt m _ _ _ hm
  obtain ⟨z0, e0, lc0, cm0, w0, rd0⟩ := open_bytes h0
  clear hA0 hval0
  refine (lawCaWrite_walk z0 a0 len0 cap0 W e0 lc0 cm0 w0 rd0).mono fun e W' ⟨he, bel⟩ => ?_
  subst he
  exact ⟨_, rfl, _, _, _, [], _, [], hW', trodAll_mk1 (shut_bool Try.underlying4 _), (trodAll_cons_mk (Below.trod laidOut_ (by kernel_rfl) (of_decide_eq_true (by kernel_rfl)) k0 bel lt0) trodAll_mk0), rfl, bel.frame _, fun h => by cases h⟩

theorem fnCacheWrite_holds : Rows.FnCacheWriteSaid :=
  OpenClaim.holds_of_wide 13 Try.f13 rfl rfl rfl rfl rfl rfl rfl ⟨rfl, rfl, rfl, rfl, rfl⟩ rfl rfl rfl rfl rfl (by kernel_rfl) Try.func13 (by kernel_rfl)
    (of_decide_eq_true (by kernel_rfl)) (by unfold Func.isWrapper; first | (rw [if_pos (by decide +kernel)]; kernel_rfl) | (rw [if_neg (by decide +kernel)]; exact ⟨rfl, rfl⟩))
    (fun os started H enc _ => fnCacheWrite_lifted os started H enc)

end Go.Proofs.Ytejnieoneknbbaa
