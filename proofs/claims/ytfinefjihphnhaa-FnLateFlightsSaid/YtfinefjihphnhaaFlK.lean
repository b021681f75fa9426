/-
  Flights: the walk of the law on late flights.
-/
import Derived.Test.YtfinefjihphnhaaFlI
import Derived.Test.YtfinefjihphnhaaFlH
namespace Go.Proofs.Ytfinefjihphnhaa
open Go.ChangeShapes Go.WideShapes Go.ChangeAt Go.RowKit Go.BigFrame Go.Deep

theorem sameInts_self (l : List Int) (A A' : Option Addr) (n n' c c' : Nat) (w : World) (hn : l.length = n) (hn' : l.length = n') (hm : n ≤ maxLen) (hR : Rd w 1 A n (intC l)) (hR' : Rd w 1 A' n' (intC l)) :
    Calls Try.prog 31 #[.slice A n c, .slice A' n' c'] w fun e w' => e = .returned (.bool true) ∧ Below w.heap.size w w' := by
  have hm' : n' ≤ maxLen := by omega
  simpa using sameInts_any l l A A' n n' c c' w hn hn' hm hm' hR hR'

theorem sub_cons {x y : Int} {a b : List Int} (h : (x :: a).Sublist (y :: b)) : (x = y → a.Sublist b) ∧ (x ≠ y → (x :: a).Sublist b) := by
  constructor
  · intro _
    cases h with
    | cons _ h => exact (List.sublist_cons_self _ _).trans h
    | cons_cons _ h => exact h
  · intro ne
    cases h with
    | cons _ h => exact h
    | cons_cons _ h => exact absurd rfl ne
theorem sub_step {X L : List Int} {i j : Nat} (hi : i < X.length) (hj : j < L.length) (h : (X.drop i).Sublist (L.drop j)) :
    (X[i] = L[j] → (X.drop (i + 1)).Sublist (L.drop (j + 1))) ∧ (X[i] ≠ L[j] → (X.drop i).Sublist (L.drop (j + 1))) := by
  rw [List.drop_eq_getElem_cons hi, List.drop_eq_getElem_cons hj] at h
  rw [List.drop_eq_getElem_cons hi]
  exact sub_cons h
theorem sub_end {X L : List Int} {i j : Nat} (h : (X.drop i).Sublist (L.drop j)) (hj : L.length ≤ j) (hi : i ≤ X.length) : i = X.length := by
  have := h.length_le
  rw [List.length_drop, List.length_drop] at this
  omega
set_option maxHeartbeats 8000000 in
theorem lawLF_walk (z : List Int) (A : Option Addr) (n c : Nat) (w : World) (hl : z.length = n) (hc : n ≤ c) (hcm : c ≤ maxLen) (_ : True) (hB : Bys w w.heap.size A n) :
    Calls Try.prog 8 #[.slice A n c] w fun e w' => e = .returned (.bool true) ∧ Below w.heap.size w w' := by
  clear hl
  have HB := hid_ hB; clear hB
  have HC := hid_ hcm
  have hm : n ≤ 9223372036854775807 := by unfold maxLen at hcm; omega
  clear hcm
  by_cases hbig : (1048576 : Int) < (n : Int)
  · go_enter Try.func8, Try.ntmps8
    go_wp2
    go_returns
    exact ⟨rfl, Below.refl _ _⟩
  have hn20 : n ≤ 1048576 := by omega
  go_enter Try.func8, Try.ntmps8
  go_wp2_with fail
  refine (drawLF_any A n c _ hn20 hc HC.out HB.out).mono ?_
  clear HB HC
  rintro e w1 ⟨l, Al, cl, now, lim, rfl, hx, hy, hf⟩
  obtain ⟨hl, hcl, hcml, hdr, hol, BB⟩ := hf
  replace BB := hid_ BB
  have HRl := hid_ (own_rd hol); clear hol hdr
  have HCl := hid_ hcml; clear hcml
  have HL := lateR_length l now lim
  obtain ⟨X, hX⟩ : ∃ X, lateR l now lim = X := ⟨_, rfl⟩
  have HF := hid_ (lateR_facts hX)
  rw [hX] at HL
  have HX := hid_ hX; clear hX
  go_wp2_with fail
  refine (implLate_any l Al l.length cl now lim _ rfl (by omega) hcl HCl.out HRl.out).mono ?_
  rw [HX.out]
  rintro e w2 ⟨Ao, co, rfl, -, -, hoo, hbo⟩
  have HRo := hid_ (own_rd hoo); clear hoo
  have hs_hbo := hbo.size
  replace BB := hid_ (BB.out.trans (hbo.mono BB.out.size))
  replace HRl := hid_ (HRl.out.below hbo)
  clear hbo
  go_wp2_with fail
  refine (specLate_any l Al l.length cl now lim _ rfl (by omega) HRl.out).mono ?_
  rw [HX.out]
  rintro e w3 ⟨Ap, cp, rfl, -, -, hop, hbp⟩
  have HRp := hid_ (own_rd hop); clear hop
  have hs_hbp := hbp.size
  replace BB := hid_ (BB.out.trans (hbp.mono BB.out.size))
  replace HRl := hid_ (HRl.out.below hbp)
  replace HRo := hid_ (HRo.out.below hbp)
  clear hbp
  go_wp2_with fail
  refine (sameInts_self X Ao Ap _ _ _ _ _ rfl rfl (by unfold maxLen; omega) HRo.out HRp.out).mono ?_
  rintro e w4 ⟨rfl, hb_w4⟩
  have hs_hb_w4 := hb_w4.size
  replace BB := hid_ (BB.out.trans (hb_w4.mono BB.out.size))
  replace HRl := hid_ (HRl.out.below hb_w4)
  replace HRo := hid_ (HRo.out.below hb_w4)
  clear hb_w4
  clear HRp
  by_cases h0 : X.length = 0
  · have hX0 : X = [] := List.eq_nil_of_length_eq_zero h0
    subst hX0
    simp only [List.length_nil] at *
    go_wp2_with fail
    go_wp2_with fail
    refine (alive_any _).mono ?_
    rintro e w5 ⟨rfl, hbal⟩
    replace BB := hid_ (BB.out.trans (hbal.mono BB.out.size))
    go_wp2
    go_returns
    exact ⟨rfl, BB.out⟩
  · have hpos : 0 < X.length := by omega
    obtain ⟨f1, f2, f3, f4⟩ := HF.out hpos
    have hz : ((X.length : Int) == 0) = false := by rw [beq_eq_false_iff_ne]; omega
    clear HF
    have HL1 := lateR_length l (min 100000 (now + 1)) lim
    have HL2 := lateR_length l now (max 1 (lim - 1))
    obtain ⟨m1, hm1⟩ : ∃ m1, min 100000 (now + 1) = m1 := ⟨_, rfl⟩
    obtain ⟨m2, hm2⟩ : ∃ m2, max 1 (lim - 1) = m2 := ⟨_, rfl⟩
    rw [hm1] at f3 HL1
    rw [hm2] at f4 HL2
    obtain ⟨L1, hL1⟩ : ∃ L1, lateR l m1 lim = L1 := ⟨_, rfl⟩
    obtain ⟨L2, hL2⟩ : ∃ L2, lateR l now m2 = L2 := ⟨_, rfl⟩
    rw [hL1] at f3 HL1
    rw [hL2] at f4 HL2
    have F3 := hid_ f3; clear f3
    have E1 := hid_ (show ∀ z, z = m1 → lateR l z lim = L1 from fun z hz => by rw [hz]; exact hL1)
    have E2 := hid_ (show ∀ z, z = m2 → lateR l now z = L2 from fun z hz => by rw [hz]; exact hL2)
    clear hL1 hL2
    have HM1 := hid_ hm1; clear hm1
    have HM2 := hid_ hm2; clear hm2
    have hm1 := HM1.out
    have hm2 := HM2.out
    clear HM1 HM2
    rcases (by omega : (now + 1 < 100000 ∧ m1 = now + 1) ∨ (¬ now + 1 < 100000 ∧ m1 = 100000)) with ⟨q1, rfl⟩ | ⟨q1, rfl⟩ <;>
    rcases (by omega : (1 < lim - 1 ∧ m2 = lim - 1) ∨ (¬ 1 < lim - 1 ∧ m2 = 1)) with ⟨q2, rfl⟩ | ⟨q2, rfl⟩
    all_goals
      clear hm1 hm2
      go_wp2_with fail
      refine (implLate_any l Al l.length cl _ lim _ rfl (by omega) hcl HCl.out HRl.out).mono ?_
      rw [E1.out]
      rotate_left
      · omega
      rintro e w5 ⟨A5, c5, rfl, -, -, ho5, hb5⟩
      have HR5 := hid_ (own_rd ho5); clear ho5
      have hs_hb5 := hb5.size
      replace BB := hid_ (BB.out.trans (hb5.mono BB.out.size))
      replace HRl := hid_ (HRl.out.below hb5)
      replace HRo := hid_ (HRo.out.below hb5)
      clear hb5
      go_wp2_with fail
      refine (implLate_any l Al l.length cl now _ _ rfl (by omega) hcl HCl.out HRl.out).mono ?_
      rw [E2.out]
      rotate_left
      · omega
      rintro e w6 ⟨A6, c6, rfl, -, -, -, hb6⟩
      have hs_hb6 := hb6.size
      replace BB := hid_ (BB.out.trans (hb6.mono BB.out.size))
      replace HRl := hid_ (HRl.out.below hb6)
      replace HRo := hid_ (HRo.out.below hb6)
      replace HR5 := hid_ (HR5.out.below hb6)
      clear hb6
      clear E1 E2
      go_wp2
      go_loopw [9, 10] (fun u i wr => ∃ a b : Nat, a ≤ X.length ∧ b ≤ L1.length ∧ u = .int .i64 a ∧ i = .int .i64 b ∧ (X.drop a).Sublist (L1.drop b) ∧ Below w6.heap.size w6 wr) (fun _ i _ => L1.length - (intOf i).toNat)
      case atStart => exact ⟨0, 0, Nat.zero_le _, Nat.zero_le _, rfl, rfl, F3.out, Below.refl _ _⟩
      case round =>
        obtain ⟨a, b, ha, hb', rfl, rfl, hs, hb⟩ := hrel
        have HS := hid_ hs; clear hs
        by_cases hj : b < L1.length
        · by_cases hi : a < X.length
          · obtain ⟨bo, oo, rfl, hx0⟩ := (HRo.out.below hb).int a hi rfl
            obtain ⟨b5, o5, rfl, hy0⟩ := (HR5.out.below hb).int b hj rfl
            obtain ⟨s1, s2⟩ := sub_step hi hj HS.out
            have HS1 := hid_ s1; clear s1
            have HS2 := hid_ s2; clear s2
            by_cases q : X[a] = L1[b]
            · have hs1 := hid_ (HS1.out q)
              have hq : (L1[b] == X[a]) = true := by simp [q]
              clear q
              go_wp2
              go_quiet (fail)
              go_wp2
              go_roundw
              case rel => exact ⟨a + 1, b + 1, by omega, by omega, by go_num, by go_num, hs1.out, bdN hb _⟩
              case measure => exact meas_ hj
            · have hs1 := hid_ (HS2.out q)
              have hq : (L1[b] == X[a]) = false := by rw [beq_eq_false_iff_ne]; exact fun h => q h.symm
              clear q
              go_wp2
              go_quiet (fail)
              go_wp2
              go_roundw
              case rel => exact ⟨a, b + 1, by omega, by omega, by go_num, by go_num, hs1.out, bdN hb _⟩
              case measure => exact meas_ hj
          · obtain rfl : a = X.length := by omega
            have hd : decide (X.length ≤ L2.length) = true := by simpa using f4
            have hdd : ((X.length : Int) == (X.length : Int)) = true := by simp
            clear HS
            go_wp2
            go_returns
            exact ⟨ret_bool (by simp), BB.out.trans (hb.mono BB.out.size)⟩
        · obtain rfl : a = X.length := sub_end HS.out (by omega) ha
          have hd : decide (X.length ≤ L2.length) = true := by simpa using f4
          have hdd : ((X.length : Int) == (X.length : Int)) = true := by simp
          clear HS
          go_wp2
          go_returns
          exact ⟨ret_bool (by simp), BB.out.trans (hb.mono BB.out.size)⟩

set_option maxRecDepth 100000 in
theorem fnLateFlights_lifted (os : Os) (started : os.Started) (H : Type) (enc : TypeId × Value → H) :
    ReturnsInHanded {} Try.checked os 8 .any (Rows.fnLateFlightsSpec.pre6 enc Try.prog Try.f8 Rows.fnLateFlightsRow.domain false) (Rows.fnLateFlightsSpec.post enc Try.prog Try.f8 false true false false) := by
  refine returnsInHanded_of_change (C := Try.checked) own_ started (by kernel_rfl) Try.func8
    (ChangeSpec.witness6 (enc := enc) (C := Try.checked) false ⟨#[], #[.slice none 0 0], []⟩ 8 (by kernel_rfl) (by kernel_rfl) (by kernel_rfl) (by kernel_rfl)) ?_
  intro W base args ds gs before hval0 hW hcnd _
  have hval : ∀ (j : Nat) t v, Try.f8.params[j]? = some t → args[j]? = some v → Value.okWide Try.prog W .any base t v := hval0
  have hW' := hW
  obtain ⟨p, q, hA0, hV, rfl, hfz, hnd⟩ := hW
  have hA : DataW.TrodAll enc Try.prog W 0 (fun _ => true) true Try.f8.params.toList args.toList ds p := hA0
  rw [Try.params8] at hA hval
  obtain ⟨v0, vs0, d0, ds0, p0, q0, hargs, rfl, rfl, h0, r0⟩ := trodAll_cons hA
  obtain ⟨rfl, rfl, rfl⟩ := trodAll_nil r0
  obtain rfl : args = #[v0] := by cases args; simp_all
  obtain ⟨rfl, rfl⟩ := trodVars_none hV
  obtain ⟨a0, len0, cap0, rfl⟩ := okWide_slice Try.underlying31 (hval 0 31 v0 rfl rfl)
  have k0 := h0
  have lt0 : ∀ x ∈ p0, x.block < W.heap.size := by obtain ⟨m, hm⟩ := k0; exact DataW.trod_lt m _ _ _ hm
  obtain ⟨z0, e0, lc0, cm0, w0, rd0⟩ := open_bytes h0
  clear hA0 hval0
  refine (lawLF_walk z0 a0 len0 cap0 W e0 lc0 cm0 w0 rd0).mono fun e W' ⟨he, bel⟩ => ?_
  subst he
  exact ⟨_, rfl, _, _, _, [], _, [], hW', trodAll_mk1 (shut_bool Try.underlying4 _), (trodAll_cons_mk (Below.trod laidOut_ (by kernel_rfl) (of_decide_eq_true (by kernel_rfl)) k0 bel lt0) trodAll_mk0), rfl, bel.frame _, fun h => by cases h⟩

theorem fnLateFlights_holds : Rows.FnLateFlightsSaid :=
  OpenClaim.holds_of_wide 8 Try.f8 rfl rfl rfl rfl rfl rfl rfl ⟨rfl, rfl, rfl, rfl, rfl⟩ rfl rfl rfl rfl rfl (by kernel_rfl) Try.func8 (by kernel_rfl)
    (of_decide_eq_true (by kernel_rfl)) (by unfold Func.isWrapper; first | (rw [if_pos (by decide +kernel)]; kernel_rfl) | (rw [if_neg (by decide +kernel)]; exact ⟨rfl, rfl⟩))
    (fun os started H enc _ => fnLateFlights_lifted os started H enc)

end Go.Proofs.Ytfinefjihphnhaa
