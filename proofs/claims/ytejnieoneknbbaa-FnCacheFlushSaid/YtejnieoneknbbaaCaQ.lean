/-
  Caches: the law on flushing. The disk is then what was seen, if the lines that are not dirty have the values of the disk; no line is dirty; and flushing again changes nothing.
-/
import Derived.Test.YtejnieoneknbbaaCaO
import Derived.Test.YtejnieoneknbbaaCaG
namespace Go.Proofs.Ytejnieoneknbbaa
open Go.ChangeShapes Go.WideShapes Go.ChangeAt Go.RowKit Go.BigFrame Go.Deep

theorem flush_len (L : List Ln) (m : Int) (d : List Int) : (flushC ⟨L, m, d⟩).L.length ≤ L.length ∧ (flushC ⟨L, m, d⟩).D.length ≤ d.length := by
  unfold flushC
  split
  · simp [flushD_length]
  · simp [Ca.zero]
/-- what the law says of a flushed cache -/
theorem flush_facts (L : List Ln) (m : Int) (d : List Int) {X : Ca} (hX : flushC ⟨L, m, d⟩ = X) : (X.M = 0 ∧ X.D.length = 0) ∨ (X.M ≠ 0 ∧ (∀ k (h : k < X.L.length), X.L[k].dirty = false) ∧ flushC X = X ∧ (∀ x ∈ L, 0 ≤ x.at_ ∧ x.at_ < d.length) ∧ (cleanB L d = true → viewC ⟨L, m, d⟩ = X.D)) := by
  subst hX
  cases q : Ca.ok ⟨L, m, d⟩
  · left
    have : flushC ⟨L, m, d⟩ = Ca.zero := if_neg (by simp [q])
    rw [this]; exact ⟨rfl, rfl⟩
  · have hk := ok_iff.1 q
    obtain ⟨h1, h2, h3, h4, h5⟩ := flush_law hk
    have hm := hk.m0
    refine .inr ⟨by rw [h2]; show m ≠ 0; simp only at hm; omega, fun k h => h3 _ (List.getElem_mem h), h4, fun x hx => (hk.lns x hx).1, fun hc => ?_⟩
    exact (h5 ((clean_iff (fun x hx => (hk.lns x hx).1)).1 hc)).symm

set_option maxRecDepth 100000 in
set_option maxHeartbeats 1600000 in
theorem lawCaFlush_walk (z : List Int) (A : Option Addr) (n c : Nat) (w : World) (_hl : z.length = n) (hc : n ≤ c) (hcm : c ≤ maxLen) (_ : True) (hB : Bys w w.heap.size A n) :
    Calls Try.prog 8 #[.slice A n c] w fun e w' => e = .returned (.bool true) ∧ Below w.heap.size w w' := by
  clear _hl
  have HB := hid_ hB; clear hB
  have HC := hid_ hcm
  have hm : n ≤ 9223372036854775807 := by unfold maxLen at hcm; omega
  clear hcm
  by_cases hbig : (1048576 : Int) < (n : Int)
  · go_enter Try.func8, Try.ntmps8
    go_wp2
    go_returns
    exact ⟨rfl, Below.refl _ _⟩
  have hn20 : n ≤ 1048576 := by omega
  go_enter Try.func8, Try.ntmps8
  go_wp2_with fail
  refine (drawCF_any A n c _ hn20 hc HC.out HB.out).mono ?_
  clear HB HC
  rintro e w1 hdraw
  obtain ⟨L, m, d, A, n1, c, A2, n2, c2, rfl, hn1, hn2, hL, hd, hc, hcm, hc2, hcm2, hrl, hrd, hb1⟩ := hdraw.plain
  clear hdraw
  have BB := hid_ hb1; clear hb1
  have HRl := hid_ hrl; clear hrl
  have HRd := hid_ hrd; clear hrd
  have HCl := hid_ hcm; clear hcm
  have HCd := hid_ hcm2; clear hcm2
  have hlx := flush_len L m d
  obtain ⟨X, hX⟩ : ∃ X, flushC ⟨L, m, d⟩ = X := ⟨_, rfl⟩
  have HF := hid_ (flush_facts L m d hX)
  rw [hX, hn1, hn2] at hlx
  have HX := hid_ hX; clear hX
  obtain ⟨m3, hm3⟩ : ∃ m3, X.M = m3 := ⟨_, rfl⟩
  have HE := hid_ (show Ca.mk X.L m3 X.D = X by rw [← hm3])
  rw [hm3] at HF
  have HN1 := hid_ hn1; clear hn1
  have HN2 := hid_ hn2; clear hn2
  have HM3 := hid_ hm3; clear hm3
  obtain ⟨W0, hW0⟩ : ∃ W, World.alloc w1 (.cells #[.slice A n1 c, .int .i64 m] 29) = W := ⟨_, rfl⟩
  have hbW0 : Below (World.heap w1).size w1 W0 := by rw [← hW0]; exact (Below.refl _ _).alloc (Nat.le_refl _) _
  have HX0 := hid_ (show OutBox W0 (World.heap w1).size (.slice A n1 c) (m) by rw [← hW0]; exact BoxC.new _ _ _)
  have c00 := HX0.out.c0
  have c01 := HX0.out.c1
  have hs_hbW0 := hbW0.size
  replace BB := hid_ (BB.out.trans (hbW0.mono BB.out.size))
  replace HRl := hid_ (HRl.out.below hbW0)
  replace HRd := hid_ (HRd.out.below hbW0)
  clear hbW0
  go_wp2_with fail
  clear hW0
  refine (implFlush_any L A n1 c m d A2 n2 c2 _ HN1.out (by omega) hc HCl.out HRl.out HN2.out (by omega) hc2 HCd.out HRd.out).mono ?_
  rw [HX.out]
  rintro e w2 hx
  obtain ⟨A3, n3, c3, A4, n4, c4, rfl, hn3, hn4, hc3, hcm3, hc4, hcm4, hr3, hr4, hb2⟩ := hx.plain
  clear hx
  rw [hn3, hn4] at hlx
  have HN3 := hid_ hn3; clear hn3
  have HN4 := hid_ hn4; clear hn4
  have HR3 := hid_ hr3; clear hr3
  have HR4 := hid_ hr4; clear hr4
  have HC3 := hid_ hcm3; clear hcm3
  have HC4 := hid_ hcm4; clear hcm4
  rw [HM3.out]
  rw [HN4.out] at HF
  have hs_hb2 := hb2.size
  replace BB := hid_ (BB.out.trans (hb2.mono BB.out.size))
  replace HRl := hid_ (HRl.out.below hb2)
  replace HRd := hid_ (HRd.out.below hb2)
  replace HX0 := hid_ (HX0.out.block (hb2.block _ HX0.out.lt))
  replace c00 := HX0.out.c0
  replace c01 := HX0.out.c1
  clear hb2
  obtain ⟨W1, hW1⟩ : ∃ W, World.alloc w2 (.cells #[.slice A3 n3 c3, .int .i64 m3] 29) = W := ⟨_, rfl⟩
  have hbW1 : Below (World.heap w2).size w2 W1 := by rw [← hW1]; exact (Below.refl _ _).alloc (Nat.le_refl _) _
  have HX1 := hid_ (show OutBox W1 (World.heap w2).size (.slice A3 n3 c3) (m3) by rw [← hW1]; exact BoxC.new _ _ _)
  have c10 := HX1.out.c0
  have c11 := HX1.out.c1
  have hs_hbW1 := hbW1.size
  replace BB := hid_ (BB.out.trans (hbW1.mono BB.out.size))
  replace HRl := hid_ (HRl.out.below hbW1)
  replace HRd := hid_ (HRd.out.below hbW1)
  replace HX0 := hid_ (HX0.out.block (hbW1.block _ HX0.out.lt))
  replace c00 := HX0.out.c0
  replace c01 := HX0.out.c1
  replace HR3 := hid_ (HR3.out.below hbW1)
  replace HR4 := hid_ (HR4.out.below hbW1)
  clear hbW1
  go_wp2_with fail
  clear hW1
  refine (specFlush_any L A n1 c m d A2 n2 c2 _ HN1.out (by omega) HRl.out HN2.out (by omega) HRd.out).mono ?_
  rw [HX.out]
  rintro e w3 hx
  obtain ⟨A5, n5, c5, A6, n6, c6, rfl, hn5, hn6, -, -, -, -, hr5, hr6, hb3⟩ := hx.plain
  clear hx
  obtain rfl : n5 = n3 := hn5.symm.trans HN3.out
  obtain rfl : n6 = n4 := hn6.symm.trans HN4.out
  clear hn5 hn6
  have HR5 := hid_ hr5; clear hr5
  have HR6 := hid_ hr6; clear hr6
  rw [HM3.out]
  have hs_hb3 := hb3.size
  replace BB := hid_ (BB.out.trans (hb3.mono BB.out.size))
  replace HRl := hid_ (HRl.out.below hb3)
  replace HRd := hid_ (HRd.out.below hb3)
  replace HX0 := hid_ (HX0.out.block (hb3.block _ HX0.out.lt))
  replace c00 := HX0.out.c0
  replace c01 := HX0.out.c1
  replace HX1 := hid_ (HX1.out.block (hb3.block _ HX1.out.lt))
  replace c10 := HX1.out.c0
  replace c11 := HX1.out.c1
  replace HR3 := hid_ (HR3.out.below hb3)
  replace HR4 := hid_ (HR4.out.below hb3)
  clear hb3
  obtain ⟨W2, hW2⟩ : ∃ W, World.alloc w3 (.cells #[.slice A5 n5 c5, .int .i64 m3] 29) = W := ⟨_, rfl⟩
  have hbW2 : Below (World.heap w3).size w3 W2 := by rw [← hW2]; exact (Below.refl _ _).alloc (Nat.le_refl _) _
  have HX2 := hid_ (show OutBox W2 (World.heap w3).size (.slice A5 n5 c5) (m3) by rw [← hW2]; exact BoxC.new _ _ _)
  have c20 := HX2.out.c0
  have c21 := HX2.out.c1
  have hs_hbW2 := hbW2.size
  replace BB := hid_ (BB.out.trans (hbW2.mono BB.out.size))
  replace HRl := hid_ (HRl.out.below hbW2)
  replace HRd := hid_ (HRd.out.below hbW2)
  replace HX0 := hid_ (HX0.out.block (hbW2.block _ HX0.out.lt))
  replace c00 := HX0.out.c0
  replace c01 := HX0.out.c1
  replace HX1 := hid_ (HX1.out.block (hbW2.block _ HX1.out.lt))
  replace c10 := HX1.out.c0
  replace c11 := HX1.out.c1
  replace HR3 := hid_ (HR3.out.below hbW2)
  replace HR4 := hid_ (HR4.out.below hbW2)
  replace HR5 := hid_ (HR5.out.below hbW2)
  replace HR6 := hid_ (HR6.out.below hbW2)
  clear hbW2
  go_wp2_with fail
  clear hW2
  refine (sameCache_self X.L A3 A5 n5 c3 c5 m3 _ HN3.out (by omega) HR3.out HR5.out).mono ?_
  rintro e w4 ⟨rfl, hb4⟩
  have hs_hb4 := hb4.size
  replace BB := hid_ (BB.out.trans (hb4.mono BB.out.size))
  replace HRl := hid_ (HRl.out.below hb4)
  replace HRd := hid_ (HRd.out.below hb4)
  replace HX0 := hid_ (HX0.out.block (hb4.block _ HX0.out.lt))
  replace c00 := HX0.out.c0
  replace c01 := HX0.out.c1
  replace HX1 := hid_ (HX1.out.block (hb4.block _ HX1.out.lt))
  replace c10 := HX1.out.c0
  replace c11 := HX1.out.c1
  replace HR3 := hid_ (HR3.out.below hb4)
  replace HR4 := hid_ (HR4.out.below hb4)
  replace HR6 := hid_ (HR6.out.below hb4)
  clear hb4
  go_wp2_with fail
  refine (sameInts_self X.D A4 A6 _ _ _ _ _ HN4.out HN4.out (by unfold maxLen; omega) HR4.out HR6.out).mono ?_
  rintro e w5 ⟨rfl, hb_w5⟩
  have hs_hb_w5 := hb_w5.size
  replace BB := hid_ (BB.out.trans (hb_w5.mono BB.out.size))
  replace HRl := hid_ (HRl.out.below hb_w5)
  replace HRd := hid_ (HRd.out.below hb_w5)
  replace HX0 := hid_ (HX0.out.block (hb_w5.block _ HX0.out.lt))
  replace c00 := HX0.out.c0
  replace c01 := HX0.out.c1
  replace HX1 := hid_ (HX1.out.block (hb_w5.block _ HX1.out.lt))
  replace c10 := HX1.out.c0
  replace c11 := HX1.out.c1
  replace HR3 := hid_ (HR3.out.below hb_w5)
  replace HR4 := hid_ (HR4.out.below hb_w5)
  clear hb_w5
  clear HR5 HR6 HX2 c20 c21
  by_cases h0 : m3 = 0
  · subst h0
    obtain ⟨-, hz4⟩ := HF.out.resolve_right (fun h => h.1 rfl)
    subst hz4
    go_wp2_with fail
    go_wp2_with fail
    refine (alive_any _).mono ?_
    rintro e w6 ⟨rfl, hbal⟩
    replace BB := hid_ (BB.out.trans (hbal.mono BB.out.size))
    go_wp2
    go_returns
    exact ⟨rfl, BB.out⟩
  obtain ⟨-, e1, e2, e3, e4⟩ := HF.out.resolve_left (fun h => h0 h.1)
  have HE1 := hid_ e1; clear e1
  have HE2 := hid_ e2; clear e2
  have HE3 := hid_ e3; clear e3
  have HE4 := hid_ e4; clear e4
  clear HF HX
  have hz : (m3 == 0) = false := by rw [beq_eq_false_iff_ne]; exact h0
  go_wp2
  go_loopw [9] (fun v wr => ∃ k : Nat, k ≤ n5 ∧ v = .int .i64 k ∧ Below w5.heap.size w5 wr) (fun v _ => n5 - (intOf v).toNat)
  case atStart => exact ⟨0, Nat.zero_le _, rfl, Below.refl _ _⟩
  case round =>
    obtain ⟨k, hk, rfl, hb⟩ := hrel
    by_cases hlt : k < n5
    · have hlt' : k < X.L.length := by rw [HN3.out]; exact hlt
      have y0 := (hb.cell (cell_lt c10)).trans c10
      obtain ⟨x, hx⟩ : ∃ x, X.L[k]'hlt' = x := ⟨_, rfl⟩
      obtain ⟨b, o, rfl, h0', h1', h2'⟩ := (HR3.out.below hb).ln_at k hlt HN3.out x hx
      have hxd := HE1.out k hlt'
      rw [hx] at hxd
      rw [hxd] at h2'
      clear hx hxd h0' h1' c10 c11 c00 c01
      have hlz : (k : Int) < (n5 : Int) := by omega
      go_wp2
      go_roundw
      case rel => exact ⟨k + 1, by omega, by go_num, hb⟩
      case measure => exact meas_ hlt
    · obtain rfl : k = n5 := by omega
      have hs_hb := hb.size
      replace BB := hid_ (BB.out.trans (hb.mono BB.out.size))
      replace HRl := hid_ (HRl.out.below hb)
      replace HRd := hid_ (HRd.out.below hb)
      replace HX0 := hid_ (HX0.out.block (hb.block _ HX0.out.lt))
      replace c00 := HX0.out.c0
      replace c01 := HX0.out.c1
      replace HX1 := hid_ (HX1.out.block (hb.block _ HX1.out.lt))
      replace c10 := HX1.out.c0
      replace c11 := HX1.out.c1
      replace HR3 := hid_ (HR3.out.below hb)
      replace HR4 := hid_ (HR4.out.below hb)
      clear hb
      go_wp2_with fail
      refine (implFlush_any X.L A3 k c3 m3 X.D A4 n6 c4 _ HN3.out (by omega) hc3 HC3.out HR3.out HN4.out (by omega) hc4 HC4.out HR4.out).mono ?_
      rw [HE.out, HE2.out]
      rintro e w7 hx
      obtain ⟨A7, n7, c7, A8, n8, c8, rfl, hn7, hn8, -, -, -, -, hr7, hr8, hb7⟩ := hx.plain
      clear hx
      obtain rfl : n7 = k := hn7.symm.trans HN3.out
      obtain rfl : n8 = n6 := hn8.symm.trans HN4.out
      clear hn7 hn8
      have HR7 := hid_ hr7; clear hr7
      have HR8 := hid_ hr8; clear hr8
      rw [HM3.out]
      have hs_hb7 := hb7.size
      replace BB := hid_ (BB.out.trans (hb7.mono BB.out.size))
      replace HRl := hid_ (HRl.out.below hb7)
      replace HRd := hid_ (HRd.out.below hb7)
      replace HX0 := hid_ (HX0.out.block (hb7.block _ HX0.out.lt))
      replace c00 := HX0.out.c0
      replace c01 := HX0.out.c1
      replace HX1 := hid_ (HX1.out.block (hb7.block _ HX1.out.lt))
      replace c10 := HX1.out.c0
      replace c11 := HX1.out.c1
      replace HR3 := hid_ (HR3.out.below hb7)
      replace HR4 := hid_ (HR4.out.below hb7)
      clear hb7
      obtain ⟨W4, hW4⟩ : ∃ W, World.alloc w7 (.cells #[.slice A7 n7 c7, .int .i64 m3] 29) = W := ⟨_, rfl⟩
      have hbW4 : Below (World.heap w7).size w7 W4 := by rw [← hW4]; exact (Below.refl _ _).alloc (Nat.le_refl _) _
      have HX4 := hid_ (show OutBox W4 (World.heap w7).size (.slice A7 n7 c7) (m3) by rw [← hW4]; exact BoxC.new _ _ _)
      have c40 := HX4.out.c0
      have c41 := HX4.out.c1
      have hs_hbW4 := hbW4.size
      replace BB := hid_ (BB.out.trans (hbW4.mono BB.out.size))
      replace HRl := hid_ (HRl.out.below hbW4)
      replace HRd := hid_ (HRd.out.below hbW4)
      replace HX0 := hid_ (HX0.out.block (hbW4.block _ HX0.out.lt))
      replace c00 := HX0.out.c0
      replace c01 := HX0.out.c1
      replace HX1 := hid_ (HX1.out.block (hbW4.block _ HX1.out.lt))
      replace c10 := HX1.out.c0
      replace c11 := HX1.out.c1
      replace HR3 := hid_ (HR3.out.below hbW4)
      replace HR4 := hid_ (HR4.out.below hbW4)
      replace HR7 := hid_ (HR7.out.below hbW4)
      replace HR8 := hid_ (HR8.out.below hbW4)
      clear hbW4
      go_wp2_with fail
      clear hW4
      refine (sameCache_self X.L A7 A3 n7 c7 c3 m3 _ HN3.out (by omega) HR7.out HR3.out).mono ?_
      rintro e w8 ⟨rfl, hb8⟩
      have hs_hb8 := hb8.size
      replace BB := hid_ (BB.out.trans (hb8.mono BB.out.size))
      replace HRl := hid_ (HRl.out.below hb8)
      replace HRd := hid_ (HRd.out.below hb8)
      replace HX0 := hid_ (HX0.out.block (hb8.block _ HX0.out.lt))
      replace c00 := HX0.out.c0
      replace c01 := HX0.out.c1
      replace HR4 := hid_ (HR4.out.below hb8)
      replace HR8 := hid_ (HR8.out.below hb8)
      clear hb8
      go_wp2_with fail
      refine (sameInts_self X.D A8 A4 _ _ _ _ _ HN4.out HN4.out (by unfold maxLen; omega) HR8.out HR4.out).mono ?_
      rintro e w9 ⟨rfl, hb_w9⟩
      have hs_hb_w9 := hb_w9.size
      replace BB := hid_ (BB.out.trans (hb_w9.mono BB.out.size))
      replace HRl := hid_ (HRl.out.below hb_w9)
      replace HRd := hid_ (HRd.out.below hb_w9)
      replace HX0 := hid_ (HX0.out.block (hb_w9.block _ HX0.out.lt))
      replace c00 := HX0.out.c0
      replace c01 := HX0.out.c1
      replace HR4 := hid_ (HR4.out.below hb_w9)
      clear hb_w9
      go_wp2_with fail
      refine (clean_any L A n1 c m d A2 n2 c2 _ HN1.out (by omega) HRl.out HN2.out (by omega) HRd.out HE3.out).mono ?_
      obtain ⟨cb, hcb⟩ : ∃ cb, cleanB L d = cb := ⟨_, rfl⟩
      rw [hcb]
      rw [hcb] at HE4
      clear hcb
      rintro e w10 ⟨rfl, hb10⟩
      have hs_hb10 := hb10.size
      replace BB := hid_ (BB.out.trans (hb10.mono BB.out.size))
      replace HRl := hid_ (HRl.out.below hb10)
      replace HRd := hid_ (HRd.out.below hb10)
      replace HX0 := hid_ (HX0.out.block (hb10.block _ HX0.out.lt))
      replace c00 := HX0.out.c0
      replace c01 := HX0.out.c1
      replace HR4 := hid_ (HR4.out.below hb10)
      clear hb10
      cases cb
      · go_wp2
        go_returns
        exact ⟨rfl, BB.out⟩
      · have hve := HE4.out rfl
        go_wp2_with fail
        refine (implView_any L A n1 c m d A2 n2 c2 _ HN1.out (by omega) hc HCl.out HRl.out HN2.out (by omega) hc2 HCd.out HRd.out).mono ?_
        rw [hve, HN4.out]
        clear hve
        rintro e w11 ⟨Av, cv, rfl, -, -, hov, hbv⟩
        have HRv := hid_ (own_rd hov); clear hov
        have hs_hbv := hbv.size
        replace BB := hid_ (BB.out.trans (hbv.mono BB.out.size))
        replace HR4 := hid_ (HR4.out.below hbv)
        clear hbv
        go_wp2_with fail
        refine (sameInts_self X.D A4 Av _ _ _ _ _ HN4.out HN4.out (by unfold maxLen; omega) HR4.out HRv.out).mono ?_
        rintro e w12 ⟨rfl, hb_w12⟩
        have hs_hb_w12 := hb_w12.size
        replace BB := hid_ (BB.out.trans (hb_w12.mono BB.out.size))
        replace HR4 := hid_ (HR4.out.below hb_w12)
        clear hb_w12
        go_wp2
        go_returns
        exact ⟨rfl, BB.out⟩

set_option maxRecDepth 100000 in
theorem fnCacheFlush_lifted (os : Os) (started : os.Started) (H : Type) (enc : TypeId × Value → H) :
    ReturnsInHanded {} Try.checked os 8 .any (Rows.fnCacheFlushSpec.pre6 enc Try.prog Try.f8 Rows.fnCacheFlushRow.domain false) (Rows.fnCacheFlushSpec.post enc Try.prog Try.f8 false true false false) := by
  refine returnsInHanded_of_change (C := Try.checked) own_ started (by kernel_rfl) Try.func8
    (ChangeSpec.witness6 (enc := enc) (C := Try.checked) false ⟨#[], #[.slice none 0 0], []⟩ 8 (by kernel_rfl) (by kernel_rfl) (by kernel_rfl) (by kernel_rfl)) ?_
  intro W base args ds gs before hval0 hW hcnd _
  have hval : ∀ (j : Nat) t v, Try.f8.params[j]? = some t → args[j]? = some v → Value.okWide Try.prog W .any base t v := hval0
  have hW' := hW
  obtain ⟨p, q, hA0, hV, rfl, hfz, hnd⟩ := hW
  have hA : DataW.TrodAll enc Try.prog W 0 (fun _ => true) true Try.f8.params.toList args.toList ds p := hA0
  rw [Try.params8] at hA hval
  obtain ⟨v0, vs0, d0, ds0, p0, q0, hargs, rfl, rfl, h0, r0⟩ := trodAll_cons hA
  obtain ⟨rfl, rfl, rfl⟩ := trodAll_nil r0
  obtain rfl : args = #[v0] := by cases args; simp_all
  obtain ⟨rfl, rfl⟩ := trodVars_none hV
  obtain ⟨a0, len0, cap0, rfl⟩ := okWide_slice Try.underlying33 (hval 0 33 v0 rfl rfl)
  have k0 := h0
  have lt0 : ∀ x ∈ p0, x.block < W.heap.size := by obtain ⟨m, hm⟩ := k0; exact DataW.trod_lt m _ _ _ hm
  obtain ⟨z0, e0, lc0, cm0, w0, rd0⟩ := open_bytes h0
  clear hA0 hval0
  refine (lawCaFlush_walk z0 a0 len0 cap0 W e0 lc0 cm0 w0 rd0).mono fun e W' ⟨he, bel⟩ => ?_
  subst he
  exact ⟨_, rfl, _, _, _, [], _, [], hW', trodAll_mk1 (shut_bool Try.underlying4 _), (trodAll_cons_mk (Below.trod laidOut_ (by kernel_rfl) (of_decide_eq_true (by kernel_rfl)) k0 bel lt0) trodAll_mk0), rfl, bel.frame _, fun h => by cases h⟩

theorem fnCacheFlush_holds : Rows.FnCacheFlushSaid :=
  OpenClaim.holds_of_wide 8 Try.f8 rfl rfl rfl rfl rfl rfl rfl ⟨rfl, rfl, rfl, rfl, rfl⟩ rfl rfl rfl rfl rfl (by kernel_rfl) Try.func8 (by kernel_rfl)
    (of_decide_eq_true (by kernel_rfl)) (by unfold Func.isWrapper; first | (rw [if_pos (by decide +kernel)]; kernel_rfl) | (rw [if_neg (by decide +kernel)]; exact ⟨rfl, rfl⟩))
    (fun os started H enc _ => fnCacheFlush_lifted os started H enc)

end Go.Proofs.Ytejnieoneknbbaa
