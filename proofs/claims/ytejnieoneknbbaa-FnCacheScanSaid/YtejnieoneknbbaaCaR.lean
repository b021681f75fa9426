/-
  Caches: the law on scans. Reading all sectors one after the other yields the view, if the lines that are not dirty have the values of the disk.
-/
import Derived.Test.YtejnieoneknbbaaCaO
import Derived.Test.YtejnieoneknbbaaCaM
import Derived.Test.YtejnieoneknbbaaSemS
namespace Go.Proofs.Ytejnieoneknbbaa
open Go.ChangeShapes Go.WideShapes Go.ChangeAt Go.RowKit Go.BigFrame Go.Deep

theorem DrawnCD.plainO {w w' : World} {e : Ending} (h : DrawnCD w e w') : ∃ (L : List Ln) (m : Int) (d : List Int) (A : Option Addr) (n c : Nat) (A2 : Option Addr) (n2 c2 : Nat), e = .returned (.tuple #[.agg #[.slice A n c, .int .i64 m], .slice A2 n2 c2]) ∧ L.length = n ∧ d.length = n2 ∧ n ≤ 10 ∧ n2 ≤ 65 ∧ n ≤ c ∧ c ≤ maxLen ∧ n2 ≤ c2 ∧ c2 ≤ maxLen ∧ w'.ownsRow w.heap.size 38 3 (.slice A n c) n (lnC L) ∧ w'.ownsRow w.heap.size 3 1 (.slice A2 n2 c2) n2 (intC d) ∧ Below w.heap.size w w' := by
  obtain ⟨⟨L, m, d⟩, hL, hd, A, c, A2, c2, rfl, hc, hcm, hc2, hcm2, hoL, hoD, hb⟩ := h
  simp only at *
  exact ⟨L, m, d, A, _, c, A2, _, c2, rfl, rfl, rfl, hL, by rcases hd with h | h <;> omega, hc, hcm, hc2, hcm2, hoL, hoD, hb⟩
/-- the cache and the disk show V, and a line that is not dirty has the disk's value -/
def ScanOk (V : List Int) (C : Ca) : Prop := COk C ∧ Clean C.L C.D ∧ viewC C = V
theorem scan_facts (L : List Ln) (m : Int) (d : List Int) {V : List Int} (hV : viewC ⟨L, m, d⟩ = V) : V.length = 0 ∨ (V.length ≠ 0 ∧ (∀ x ∈ L, 0 ≤ x.at_ ∧ x.at_ < d.length) ∧ (cleanB L d = true → ScanOk V ⟨L, m, d⟩)) := by
  by_cases h0 : V.length = 0
  · exact .inl h0
  · cases q : Ca.ok ⟨L, m, d⟩
    · exfalso; rw [viewC_no q] at hV; subst hV; exact h0 rfl
    · have hk := ok_iff.1 q
      exact .inr ⟨h0, fun x hx => (hk.lns x hx).1, fun hc => ⟨hk, (clean_iff (fun x hx => (hk.lns x hx).1)).1 hc, hV⟩⟩
theorem viewC_len (L : List Ln) (m : Int) (d : List Int) : (viewC ⟨L, m, d⟩).length ≤ d.length := by
  rcases view_facts L m d with h | h
  · omega
  · omega
/-- a round -/
theorem scan_step {V : List Int} {C : Ca} (h : ScanOk V C) {k : Nat} (hk : k < V.length) : ScanOk V (readC C k) ∧ V[k] = readV C k ∧ C.L.length ≤ 8 ∧ C.D.length ≤ 64 := by
  obtain ⟨h1, h2, h3⟩ := h
  have hl : V.length = C.D.length := by rw [← h3]; exact viewC_length h1
  have hat : caAt C (k : Int) = true := caAt_mk h1 (by omega) (by omega)
  obtain ⟨r1, r2, r3, r4, r5, r6, r7⟩ := read_law hat
  obtain ⟨s1, s2⟩ := r7 h2
  refine ⟨⟨r4, s2, s1.trans h3⟩, ?_, ?_, h1.len⟩
  · rw [h3, Int.toNat_natCast, List.getElem?_eq_getElem hk] at r2
    injection r2
  · have := h1.most; have := h1.m1; omega
def ScanAt (w : World) (β nv : Nat) (V : List Int) (vv vk vd : Value) (wr : World) : Prop :=
  ∃ (k : Nat) (C : Ca) (vL : Value), k ≤ nv ∧ vk = .int .i64 (k : Int) ∧ ScanOk V C ∧ OutBox wr β vL C.M ∧ wr.ownsRow w.heap.size 38 3 vL C.L.length (lnC C.L) ∧ wr.ownsRow w.heap.size 3 1 vd C.D.length (intC C.D) ∧ wr.ownsRow w.heap.size 3 1 vv nv (intC V) ∧ Below w.heap.size w wr

set_option maxRecDepth 100000 in
set_option maxHeartbeats 1600000 in
theorem lawCaScan_walk (z : List Int) (A : Option Addr) (n c : Nat) (w : World) (_hl : z.length = n) (hc : n ≤ c) (hcm : c ≤ maxLen) (_ : True) (hB : Bys w w.heap.size A n) :
    Calls Try.prog 7 #[.slice A n c] w fun e w' => e = .returned (.bool true) ∧ Below w.heap.size w w' := by
  clear _hl
  have HB := hid_ hB; clear hB
  have HC := hid_ hcm
  have hm : n ≤ 9223372036854775807 := by unfold maxLen at hcm; omega
  clear hcm
  by_cases hbig : (1048576 : Int) < (n : Int)
  · go_enter Try.func7, Try.ntmps7
    go_wp2
    go_returns
    exact ⟨rfl, Below.refl _ _⟩
  have hn20 : n ≤ 1048576 := by omega
  go_enter Try.func7, Try.ntmps7
  go_wp2_with fail
  refine (drawCW_any A n c _ hn20 hc HC.out HB.out).mono ?_
  clear HB HC
  rintro e w1 hdraw
  obtain ⟨L, m, d, A, n1, c, A2, n2, c2, rfl, hn1, hn2, hL, hd, hc, hcm, hc2, hcm2, hol, hod, hb1⟩ := hdraw.plainO
  clear hdraw
  have BB := hid_ hb1; clear hb1
  have HOl := hid_ hol; clear hol
  have HOd := hid_ hod; clear hod
  have HCl := hid_ hcm; clear hcm
  have HCd := hid_ hcm2; clear hcm2
  have hlv := viewC_len L m d
  obtain ⟨V, hV⟩ : ∃ V, viewC ⟨L, m, d⟩ = V := ⟨_, rfl⟩
  have HF := hid_ (scan_facts L m d hV)
  obtain ⟨nv, hnv⟩ : ∃ nv, V.length = nv := ⟨_, rfl⟩
  rw [hV, hnv, hn2] at hlv
  rw [hnv] at HF
  have HV := hid_ hV; clear hV
  have HN1 := hid_ hn1; clear hn1
  have HN2 := hid_ hn2; clear hn2
  have HNV := hid_ hnv; clear hnv
  have hsw := BB.out.size
  obtain ⟨W0, hW0⟩ : ∃ W, World.alloc w1 (.cells #[.slice A n1 c, .int .i64 m] 29) = W := ⟨_, rfl⟩
  have hbW0 : Below (World.heap w1).size w1 W0 := by rw [← hW0]; exact (Below.refl _ _).alloc (Nat.le_refl _) _
  have HX0 := hid_ (show OutBox W0 (World.heap w1).size (.slice A n1 c) (m) by rw [← hW0]; exact BoxC.new _ _ _)
  have c00 := HX0.out.c0
  have c01 := HX0.out.c1
  have hs_hbW0 := hbW0.size
  replace BB := hid_ (BB.out.trans (hbW0.mono BB.out.size))
  replace HOl := hid_ (own_below HOl.out hbW0)
  replace HOd := hid_ (own_below HOd.out hbW0)
  clear hbW0
  go_wp2_with fail
  clear hW0
  refine (implView_any L A n1 c m d A2 n2 c2 _ HN1.out (by omega) hc HCl.out (own_rd HOl.out) HN2.out (by omega) hc2 HCd.out (own_rd HOd.out)).mono ?_
  rw [HV.out, HNV.out]
  rintro e w2 ⟨Av, cv, rfl, hcv, hcmv, hov, hbv⟩
  have HOv := hid_ (own_base hov (show w.heap.size ≤ W0.heap.size by omega)); clear hov
  have hs_hbv := hbv.size
  replace BB := hid_ (BB.out.trans (hbv.mono BB.out.size))
  replace HOl := hid_ (own_below HOl.out hbv)
  replace HOd := hid_ (own_below HOd.out hbv)
  replace HX0 := hid_ (HX0.out.block (hbv.block _ HX0.out.lt))
  replace c00 := HX0.out.c0
  replace c01 := HX0.out.c1
  clear hbv
  go_wp2_with fail
  refine (specView_any L A n1 c m d A2 n2 c2 _ HN1.out (by omega) (own_rd HOl.out) HN2.out (by omega) (own_rd HOd.out)).mono ?_
  rw [HV.out, HNV.out]
  rintro e w3 ⟨Au, cu, rfl, -, -, hou, hbu⟩
  have HRu := hid_ (own_rd hou); clear hou
  have hs_hbu := hbu.size
  replace BB := hid_ (BB.out.trans (hbu.mono BB.out.size))
  replace HOl := hid_ (own_below HOl.out hbu)
  replace HOd := hid_ (own_below HOd.out hbu)
  replace HOv := hid_ (own_below HOv.out hbu)
  replace HX0 := hid_ (HX0.out.block (hbu.block _ HX0.out.lt))
  replace c00 := HX0.out.c0
  replace c01 := HX0.out.c1
  clear hbu
  go_wp2_with fail
  refine (sameInts_self V Av Au _ _ _ _ _ HNV.out HNV.out (by unfold maxLen; omega) (own_rd HOv.out) HRu.out).mono ?_
  rintro e w4 ⟨rfl, hb_w4⟩
  have hs_hb_w4 := hb_w4.size
  replace BB := hid_ (BB.out.trans (hb_w4.mono BB.out.size))
  replace HOl := hid_ (own_below HOl.out hb_w4)
  replace HOd := hid_ (own_below HOd.out hb_w4)
  replace HOv := hid_ (own_below HOv.out hb_w4)
  replace HX0 := hid_ (HX0.out.block (hb_w4.block _ HX0.out.lt))
  replace c00 := HX0.out.c0
  replace c01 := HX0.out.c1
  clear hb_w4
  clear HRu
  by_cases h0 : nv = 0
  · subst h0
    go_wp2_with fail
    go_wp2_with fail
    refine (alive_any _).mono ?_
    rintro e w5 ⟨rfl, hbal⟩
    replace BB := hid_ (BB.out.trans (hbal.mono BB.out.size))
    go_wp2
    go_returns
    exact ⟨rfl, BB.out⟩
  obtain ⟨-, e1, e2⟩ := HF.out.resolve_left h0
  have HE1 := hid_ e1; clear e1
  clear HF HV
  have hz : ((nv : Int) == 0) = false := by rw [beq_eq_false_iff_ne]; omega
  go_wp2_with fail
  refine (clean_any L A n1 c m d A2 n2 c2 _ HN1.out (by omega) (own_rd HOl.out) HN2.out (by omega) (own_rd HOd.out) HE1.out).mono ?_
  obtain ⟨cb, hcb⟩ : ∃ cb, cleanB L d = cb := ⟨_, rfl⟩
  rw [hcb]
  rw [hcb] at e2
  clear hcb
  rintro e w5 ⟨rfl, hb5⟩
  have hs_hb5 := hb5.size
  replace BB := hid_ (BB.out.trans (hb5.mono BB.out.size))
  replace HOl := hid_ (own_below HOl.out hb5)
  replace HOd := hid_ (own_below HOd.out hb5)
  replace HOv := hid_ (own_below HOv.out hb5)
  replace HX0 := hid_ (HX0.out.block (hb5.block _ HX0.out.lt))
  replace c00 := HX0.out.c0
  replace c01 := HX0.out.c1
  clear hb5
  cases cb
  · clear e2
    go_wp2_with fail
    go_wp2_with fail
    refine (alive_any _).mono ?_
    rintro e w6 ⟨rfl, hbal⟩
    replace BB := hid_ (BB.out.trans (hbal.mono BB.out.size))
    go_wp2
    go_returns
    exact ⟨rfl, BB.out⟩
  have HS := hid_ (e2 rfl); clear e2
  go_wp2
  go_loopw [6, 4] (fun vk vd wr => ScanAt w w1.heap.size nv V (.slice Av nv cv) vk vd wr) (fun vk _ _ => nv - (intOf vk).toNat)
  case atStart => exact ⟨0, ⟨L, m, d⟩, .slice A n1 c, Nat.zero_le _, rfl, HS.out, HX0.out, own_eq HOl.out HN1.out.symm rfl, own_eq HOd.out HN2.out.symm rfl, HOv.out, BB.out⟩
  case round =>
    unfold ScanAt at hrel
    obtain ⟨k, C, vL, hk, rfl, hs, hx, hol, hod, hov, hb⟩ := hrel
    clear HS HOl HOd HOv BB HX0 c00 c01
    have HS := hid_ hs; clear hs
    have HX := hid_ hx; clear hx
    have HOv := hid_ hov; clear hov
    obtain ⟨A3, c3, rfl, hc3, hcm3⟩ := own_shape hol
    obtain ⟨A4, c4, rfl, hc4, hcm4⟩ := own_shape hod
    obtain ⟨L3, m3, d3⟩ := C
    simp only at hol hod hc3 hc4
    have HXX := hid_ (show OutBox wr w1.heap.size (.slice A3 L3.length c3) m3 from HX.out)
    clear HX
    obtain ⟨n3, hn3⟩ : ∃ n, L3.length = n := ⟨_, rfl⟩
    obtain ⟨n4, hn4⟩ : ∃ n, d3.length = n := ⟨_, rfl⟩
    rw [hn3] at hol hc3 HXX
    rw [hn4] at hod hc4
    simp only [hn3, hn4]
    have HN3 := hid_ hn3; clear hn3
    have HN4 := hid_ hn4; clear hn4
    have HOl := hid_ hol; clear hol
    have HOd := hid_ hod; clear hod
    have HC3 := hid_ hcm3; clear hcm3
    have HC4 := hid_ hcm4; clear hcm4
    have BB := hid_ hb; clear hb
    have q0 := HXX.out.c0
    have q1 := HXX.out.c1
    by_cases hlt : k < nv
    · obtain ⟨f1, f2, f3, f4⟩ := scan_step HS.out (show k < V.length by rw [HNV.out]; exact hlt)
      have hn38 : n3 ≤ 8 := by rw [← HN3.out]; exact f3
      have hn464 : n4 ≤ 64 := by rw [← HN4.out]; exact f4
      clear f3 f4
      obtain ⟨Y, hY⟩ : ∃ Y, readC ⟨L3, m3, d3⟩ (k : Int) = Y := ⟨_, rfl⟩
      obtain ⟨y, hy⟩ : ∃ y, readV ⟨L3, m3, d3⟩ (k : Int) = y := ⟨_, rfl⟩
      rw [hY] at f1
      rw [hy] at f2
      have HF1 := hid_ f1; clear f1
      have HF2 := hid_ f2; clear f2
      have HY := hid_ hY; clear hY
      have Hy := hid_ hy; clear hy
      have hlz : (k : Int) < (nv : Int) := by omega
      go_wp2_with fail
      refine (implRead_any L3 A3 n3 c3 m3 d3 A4 n4 c4 (k : Int) _ HN3.out (by omega) hc3 HC3.out (own_rd HOl.out) HN4.out (by omega) hc4 HC4.out (own_rd HOd.out)).mono ?_
      rw [HY.out, Hy.out]
      rintro e w6 ⟨A5, c5, A6, c6, rfl, -, -, -, -, ho5, ho6, hb6⟩
      obtain ⟨n5, hn5⟩ : ∃ n, Y.L.length = n := ⟨_, rfl⟩
      obtain ⟨n6, hn6⟩ : ∃ n, Y.D.length = n := ⟨_, rfl⟩
      obtain ⟨m5, hm5⟩ : ∃ m, Y.M = m := ⟨_, rfl⟩
      rw [hn5] at ho5 ⊢
      rw [hn6] at ho6 ⊢
      rw [hm5]
      have HN5 := hid_ hn5; clear hn5
      have HN6 := hid_ hn6; clear hn6
      have HM5 := hid_ hm5; clear hm5
      have hsr := BB.out.size
      have HXY := hid_ (HXX.out.block (hb6.block _ HXX.out.lt))
      have HO5 := hid_ (own_base ho5 hsr); clear ho5
      have HO6 := hid_ (own_base ho6 hsr); clear ho6
      have HOw := hid_ (own_below HOv.out hb6)
      have BB6 := hid_ (BB.out.trans (hb6.mono hsr))
      have hs6 := hb6.size
      have hβ := HXY.out.lt
      clear hb6 HXX HOl HOd HOv BB q0 q1 HY Hy HS
      obtain ⟨W7, hW7⟩ : ∃ W, w6.alloc (.cells #[.slice A5 n5 c5, .int .i64 m5] 29) = W := ⟨_, rfl⟩
      have hb7 : Below w6.heap.size w6 W7 := by rw [← hW7]; exact (Below.refl _ _).alloc (Nat.le_refl _) _
      have HX7 := hid_ (show OutBox W7 w6.heap.size (.slice A5 n5 c5) m5 by rw [← hW7]; exact BoxC.new _ _ _)
      have HX8 := hid_ (HXY.out.block (hb7.block _ HXY.out.lt))
      have HO5' := hid_ (own_below HO5.out hb7)
      have HO6' := hid_ (own_below HO6.out hb7)
      have HOw' := hid_ (own_below HOw.out hb7)
      have BB7 := hid_ (BB6.out.trans (hb7.mono BB6.out.size))
      have hs7 := hb7.size
      clear hb7 HXY HO5 HO6 HOw BB6
      have p0 := HX7.out.c0
      have p1 := HX7.out.c1
      have p2 := HX8.out.c0
      have p3 := HX8.out.c1
      have p4 := HX8.out.f (o := 0)
      have p5 := HX8.out.f (o := 1)
      obtain ⟨bv, ov, rfl, hcv'⟩ := (own_rd HOw'.out).int k hlt HNV.out
      rw [HF2.out] at hcv'
      have hne5 := HX8.out.ne HO5'.out (by decide)
      have hne6 := HX8.out.ne HO6'.out (by decide)
      have hnev := HX8.out.ne HOw'.out (by decide)
      have HXN := hid_ (HX8.out.store (v0 := .slice A5 n5 c5) (c0 := m5))
      go_wp2
      clear hW7
      go_roundw
      case rel =>
        refine ⟨k + 1, Y, .slice A5 n5 c5, by omega, by go_num, HF1.out, by rw [HM5.out]; exact HXN.out, own_eq (own_set (own_set HO5'.out hne5) hne5) HN5.out.symm rfl, own_eq (own_set (own_set HO6'.out hne6) hne6) HN6.out.symm rfl, own_set (own_set HOw'.out hnev) hnev, (BB7.out.setCell (show w.heap.size ≤ w1.heap.size from hsw) _).setCell (show w.heap.size ≤ w1.heap.size from hsw) _⟩
      case measure => exact meas_ hlt
    · obtain rfl : k = nv := by omega
      have hve := HS.out.2.2
      have hkk := HS.out.1
      have hn38 : n3 ≤ 8 := by rw [← HN3.out]; have := hkk.most; have := hkk.m1; simp only at *; omega
      have hn464 : n4 ≤ 64 := by rw [← HN4.out]; exact hkk.len
      have HVE := hid_ hve; clear hve hkk
      go_wp2_with fail
      refine (implView_any L3 A3 n3 c3 m3 d3 A4 n4 c4 _ HN3.out (by omega) hc3 HC3.out (own_rd HOl.out) HN4.out (by omega) hc4 HC4.out (own_rd HOd.out)).mono ?_
      rw [HVE.out, HNV.out]
      rintro e w6 ⟨At, ct, rfl, -, -, hot, hbt⟩
      have HRt := hid_ (own_rd hot); clear hot
      have hs_hbt := hbt.size
      replace BB := hid_ (BB.out.trans (hbt.mono BB.out.size))
      replace HOv := hid_ (own_below HOv.out hbt)
      clear hbt
      go_wp2_with fail
      refine (sameInts_self V At Av _ _ _ _ _ HNV.out HNV.out (by unfold maxLen; omega) HRt.out (own_rd HOv.out)).mono ?_
      rintro e w7 ⟨rfl, hb7⟩
      go_wp2
      go_returns
      exact ⟨rfl, BB.out.trans (hb7.mono BB.out.size)⟩

set_option maxRecDepth 100000 in
theorem fnCacheScan_lifted (os : Os) (started : os.Started) (H : Type) (enc : TypeId × Value → H) :
    ReturnsInHanded {} Try.checked os 7 .any (Rows.fnCacheScanSpec.pre6 enc Try.prog Try.f7 Rows.fnCacheScanRow.domain false) (Rows.fnCacheScanSpec.post enc Try.prog Try.f7 false true false false) := by
  refine returnsInHanded_of_change (C := Try.checked) own_ started (by kernel_rfl) Try.func7
    (ChangeSpec.witness6 (enc := enc) (C := Try.checked) false ⟨#[], #[.slice none 0 0], []⟩ 8 (by kernel_rfl) (by kernel_rfl) (by kernel_rfl) (by kernel_rfl)) ?_
  intro W base args ds gs before hval0 hW hcnd _
  have hval : ∀ (j : Nat) t v, Try.f7.params[j]? = some t → args[j]? = some v → Value.okWide Try.prog W .any base t v := hval0
  have hW' := hW
  obtain ⟨p, q, hA0, hV, rfl, hfz, hnd⟩ := hW
  have hA : DataW.TrodAll enc Try.prog W 0 (fun _ => true) true Try.f7.params.toList args.toList ds p := hA0
  rw [Try.params7] at hA hval
  obtain ⟨v0, vs0, d0, ds0, p0, q0, hargs, rfl, rfl, h0, r0⟩ := trodAll_cons hA
  obtain ⟨rfl, rfl, rfl⟩ := trodAll_nil r0
  obtain rfl : args = #[v0] := by cases args; simp_all
  obtain ⟨rfl, rfl⟩ := trodVars_none hV
  obtain ⟨a0, len0, cap0, rfl⟩ := okWide_slice Try.underlying33 (hval 0 33 v0 rfl rfl)
  have k0 := h0
  have lt0 : ∀ x ∈ p0, x.block < W.heap.size := by obtain ⟨m, hm⟩ := k0; exact DataW.trod_lt m _ _ _ hm
  obtain ⟨z0, e0, lc0, cm0, w0, rd0⟩ := open_bytes h0
  clear hA0 hval0
  refine (lawCaScan_walk z0 a0 len0 cap0 W e0 lc0 cm0 w0 rd0).mono fun e W' ⟨he, bel⟩ => ?_
  subst he
  exact ⟨_, rfl, _, _, _, [], _, [], hW', trodAll_mk1 (shut_bool Try.underlying4 _), (trodAll_cons_mk (Below.trod laidOut_ (by kernel_rfl) (of_decide_eq_true (by kernel_rfl)) k0 bel lt0) trodAll_mk0), rfl, bel.frame _, fun h => by cases h⟩

theorem fnCacheScan_holds : Rows.FnCacheScanSaid :=
  OpenClaim.holds_of_wide 7 Try.f7 rfl rfl rfl rfl rfl rfl rfl ⟨rfl, rfl, rfl, rfl, rfl⟩ rfl rfl rfl rfl rfl (by kernel_rfl) Try.func7 (by kernel_rfl)
    (of_decide_eq_true (by kernel_rfl)) (by unfold Func.isWrapper; first | (rw [if_pos (by decide +kernel)]; kernel_rfl) | (rw [if_neg (by decide +kernel)]; exact ⟨rfl, rfl⟩))
    (fun os started H enc _ => fnCacheScan_lifted os started H enc)

end Go.Proofs.Ytejnieoneknbbaa
