/-
  Schedulers: the law on the order of one sweep.
-/
import Derived.Test.YtfelfopcmkeimaaScM
namespace Go.Proofs.Ytfelfopcmkeimaa
open Go.ChangeShapes Go.WideShapes Go.ChangeAt Go.RowKit Go.BigFrame Go.Deep

theorem sweep_zero (l : List Rq) : sweepR l 0 = sortR l := by
  cases hv : rv l
  · rw [sweepR_no (Or.inl hv), sortR_no hv]
  · rw [sweepR_ok hv (by decide), sortR_ok hv]
    have hx : ∀ x ∈ sortN l l.length, 0 ≤ atK l x := fun x hx => by
      have hb := sortN_mem.1 hx
      rw [atK_get l x hb.1 (by omega)]
      exact (rv_get hv _ _).1.1
    unfold sweepO
    have ha : ahead l 0 (sortN l l.length) = sortN l l.length := by
      unfold ahead
      rw [List.filter_eq_self]
      intro x hx'
      simpa using hx x hx'
    have hb : behind l 0 (sortN l l.length) = [] := by
      unfold behind
      rw [List.filter_eq_nil_iff]
      intro x hx'
      have := hx x hx'
      simpa using this
    rw [ha, hb, List.append_nil]
theorem pair_le {l : List Rq} {o : List Int} (h : o.Pairwise (lx l)) (k : Nat) (hk : k + 1 < o.length) : atK l (o[k]'(by omega)) ≤ atK l o[k + 1] :=
  lx_le (List.pairwise_iff_getElem.1 h k (k + 1) (by omega) hk (by omega))
theorem sweep_facts {l : List Rq} {head : Int} {X : List Int} (hX : sweepR l head = X) (h : 0 < X.length) :
    rv l = true ∧ X.length = l.length ∧ (∀ x ∈ X, 0 ≤ x ∧ x < l.length) ∧ ∃ m : Nat, ∀ k (hk : k + 1 < X.length), (k + 1 ≠ m → atK l (X[k]'(by omega)) ≤ atK l X[k + 1]) ∧ (k + 1 = m → atK l X[k + 1] < head) := by
  cases hv : rv l
  · rw [sweepR_no (Or.inl hv)] at hX; subst hX; simp at h
  · cases hh : inB head 0 100000
    · rw [sweepR_no (Or.inr hh)] at hX; subst hX; simp at h
    · rw [sweepR_ok hv hh] at hX
      subst hX
      have hs := sortN_sorted l l.length
      refine ⟨rfl, (sweepO_length l head _).trans (sortN_length l _), fun x hx => sortN_mem.1 (sweepO_mem hx), (ahead l head (sortN l l.length)).length, fun k hk => ?_⟩
      have hA : (ahead l head (sortN l l.length)).Pairwise (lx l) := hs.filter _
      have hB : (behind l head (sortN l l.length)).Pairwise (lx l) := hs.filter _
      have hBm : ∀ x ∈ behind l head (sortN l l.length), atK l x < head := fun x hx => by
        unfold behind at hx
        have := (List.mem_filter.1 hx).2
        simpa using this
      unfold sweepO at hk ⊢
      generalize ahead l head (sortN l l.length) = A at *
      generalize behind l head (sortN l l.length) = B at *
      rw [List.length_append] at hk
      refine ⟨fun hne => ?_, fun he => ?_⟩
      · rcases Nat.lt_or_ge (k + 1) A.length with q | q
        · rw [List.getElem_append_left q, List.getElem_append_left (by omega)]
          exact pair_le hA k q
        · rw [List.getElem_append_right q, List.getElem_append_right (by omega)]
          have e : k + 1 - A.length = (k - A.length) + 1 := by omega
          have := pair_le hB (k - A.length) (by omega)
          simpa only [e] using this
      · rw [List.getElem_append_right (by omega)]
        exact hBm _ (List.getElem_mem _)

theorem ints_at2 {w : World} {b o n : Nat} {X : List Int} (h : Rd w 1 (some ⟨b, o, none⟩) n (intC X)) (hn : X.length = n) (m : Nat) (hX : ∀ x ∈ X, 0 ≤ x ∧ x < m) (i : Nat) (hi : i < n) :
    ∃ x, w.cell? ⟨b, o + i, none⟩ = some (.int .i64 ((x : Nat) : Int)) ∧ x < m ∧ X[i]'(by omega) = ((x : Nat) : Int) := by
  obtain ⟨b', o', x, e, h1, h2, h3⟩ := ints_at h hn m hX i hi
  injection e with e
  injection e with e1 e2
  subst e1; subst e2
  exact ⟨x, h1, h2, h3⟩
theorem addr_at {w : World} {A : Option Addr} {n k : Nat} {xs : List Value} (h : Rd w k A n xs) (hn : 0 < n) : ∃ b o, A = some ⟨b, o, none⟩ := by
  obtain ⟨b, o, e, _⟩ := h.2 hn
  exact ⟨b, o, e⟩

set_option maxHeartbeats 1600000 in
theorem lawSweep_walk (z : List Int) (A : Option Addr) (n c : Nat) (w : World) (hl : z.length = n) (hc : n ≤ c) (hcm : c ≤ maxLen) (_ : True) (hB : Bys w w.heap.size A n) :
    Calls Try.prog 3 #[.slice A n c] w fun e w' => e = .returned (.bool true) ∧ Below w.heap.size w w' := by
  clear hl
  have HB := hid_ hB; clear hB
  have HC := hid_ hcm
  have hm : n ≤ 9223372036854775807 := by unfold maxLen at hcm; omega
  clear hcm
  by_cases hbig : (1048576 : Int) < (n : Int)
  · go_enter Try.func3, Try.ntmps3
    go_wp2
    go_returns
    exact ⟨rfl, Below.refl _ _⟩
  have hn20 : n ≤ 1048576 := by omega
  go_enter Try.func3, Try.ntmps3
  go_wp2_with fail
  refine (drawSw_any A n c _ hn20 hc HC.out HB.out).mono ?_
  clear HB HC
  rintro e w1 ⟨l, Al, cl, head, rfl, hl, hcl, hcml, hdr, hh, hol, BB⟩
  replace BB := hid_ BB
  have HRl := hid_ (own_rd hol); clear hol
  have HCl := hid_ hcml; clear hcml
  clear hdr
  have HL := sweepR_length l head
  have HL2 := sortR_length l
  have HF := hid_ (fun (X : List Int) (hX : sweepR l head = X) h => sweep_facts hX h)
  have HZ := hid_ (sweep_zero l)
  go_wp2_with fail
  refine (implSwR_any l Al l.length cl head _ rfl (by omega) hcl HCl.out HRl.out).mono ?_
  obtain ⟨X, hX⟩ : ∃ X, sweepR l head = X := ⟨_, rfl⟩
  replace HF := hid_ (HF.out X hX)
  rw [hX] at HL ⊢
  have HX := hid_ hX; clear hX
  rintro e w2 ⟨Ao, co, rfl, hco, hcmo, hoo, hbo⟩
  have HRo := hid_ (own_rd hoo); clear hoo
  clear hcmo hco
  have hs_hbo := hbo.size
  replace BB := hid_ (BB.out.trans (hbo.mono BB.out.size))
  replace HRl := hid_ (HRl.out.below hbo)
  clear hbo
  go_wp2_with fail
  refine (specSwR_any l Al l.length cl head _ rfl (by omega) HRl.out).mono ?_
  rw [HX.out]
  rintro e w3 ⟨Ap, cp, rfl, hcp, hcmp, hop, hbp⟩
  have HRp := hid_ (own_rd hop); clear hop
  clear hcmp hcp
  have hs_hbp := hbp.size
  replace BB := hid_ (BB.out.trans (hbp.mono BB.out.size))
  replace HRl := hid_ (HRl.out.below hbp)
  replace HRo := hid_ (HRo.out.below hbp)
  clear hbp
  go_wp2_with fail
  refine (sameInts_self X Ao Ap _ _ _ _ _ rfl rfl (by unfold maxLen; omega) HRo.out HRp.out).mono ?_
  rintro e w4 ⟨rfl, hb_w4⟩
  have hs_hb_w4 := hb_w4.size
  replace BB := hid_ (BB.out.trans (hb_w4.mono BB.out.size))
  replace HRl := hid_ (HRl.out.below hb_w4)
  replace HRo := hid_ (HRo.out.below hb_w4)
  clear hb_w4
  clear HRp
  by_cases h0 : X.length = 0
  · have hX0 : X = [] := List.eq_nil_of_length_eq_zero h0
    subst hX0
    simp only [List.length_nil] at *
    go_wp2_with fail
    go_wp2_with fail
    refine (alive_any _).mono ?_
    rintro e w5 ⟨rfl, hbal⟩
    replace BB := hid_ (BB.out.trans (hbal.mono BB.out.size))
    go_wp2
    go_returns
    exact ⟨rfl, BB.out⟩
  · have hpos : 0 < X.length := by omega
    obtain ⟨f1, f2, f3, m, f4⟩ := HF.out hpos
    have F3 := hid_ f3; clear f3
    have F4 := hid_ f4; clear f4
    clear f1
    have F2 := hid_ f2; clear f2
    have hz : ((X.length : Int) == 0) = false := by rw [beq_eq_false_iff_ne]; omega
    obtain ⟨b2, o2, rfl⟩ := addr_at HRo.out hpos
    obtain ⟨b1, o1, rfl⟩ := addr_at HRl.out (by rw [← F2.out]; exact hpos)
    go_wp2
    go_loopw [6, 7] (fun vt vk wr => ∃ (kp : Nat) (T : Int), kp + 1 ≤ X.length ∧ vk = .int .i64 ((kp : Int) + 1) ∧ vt = .int .i64 T ∧ 0 ≤ T ∧ T ≤ 1 ∧ (kp + 1 ≤ m → T = 0) ∧ Below w4.heap.size w4 wr) (fun _ vk _ => X.length - (intOf vk).toNat)
    case atStart => exact ⟨0, 0, by omega, rfl, rfl, by omega, by omega, fun _ => rfl, Below.refl _ _⟩
    case round =>
      obtain ⟨kp, T, hk, rfl, rfl, hT0, hT1, hTm, hbw⟩ := hrel
      have HTm := hid_ hTm; clear hTm
      by_cases hlt : kp + 1 < X.length
      · obtain ⟨x, hx0, hxn, hxe⟩ := ints_at2 (HRo.out.below hbw) rfl l.length F3.out (kp + 1) hlt
        obtain ⟨y, hy0, hyn, hye⟩ := ints_at2 (HRo.out.below hbw) rfl l.length F3.out kp (by omega)
        have hax := rq_at (HRl.out.below hbw) x hxn rfl
        have hay := rq_at (HRl.out.below hbw) y hyn rfl
        have hF := F4.out kp hlt
        rw [hxe, hye] at hF
        clear hxe hye
        obtain ⟨ax, hax'⟩ : ∃ ax, atK l (x : Int) = ax := ⟨_, rfl⟩
        obtain ⟨ay, hay'⟩ : ∃ ay, atK l (y : Int) = ay := ⟨_, rfl⟩
        rw [hax'] at hax hF
        rw [hay'] at hay hF
        clear hax' hay'
        have HFk := hid_ hF; clear hF
        have hxz : (x : Int) < ((l.length : Nat) : Int) := by omega
        have hyz : (y : Int) < ((l.length : Nat) : Int) := by omega
        have hkz : (kp : Int) + 1 < ((X.length : Nat) : Int) := by omega
        have hkz2 : (kp : Int) < ((X.length : Nat) : Int) := by omega
        have hk1 : ((kp : Int) + 1).toNat = kp + 1 := by omega
        by_cases hdn : ax < ay
        · have hm : kp + 1 = m := by
            rcases Nat.decEq (kp + 1) m with q | q
            · have := HFk.out.1 q; omega
            · exact q
          have hlh := HFk.out.2 hm
          have hT : T = 0 := HTm.out (by omega)
          subst hT
          have HM := hid_ hm; clear hm
          go_wp2
          go_quiet (fail)
          go_wp2
          go_roundw
          case rel => exact ⟨kp + 1, 1, by omega, by go_num, rfl, by omega, by omega, fun h => absurd h (by have := HM.out; omega), bdN hbw _⟩
          case measure => simp [intOf]; omega
        · go_wp2
          go_quiet (fail)
          go_wp2
          go_roundw
          case rel => exact ⟨kp + 1, T, by omega, by go_num, rfl, hT0, hT1, fun h => HTm.out (by omega), bdN hbw _⟩
          case measure => simp [intOf]; omega
      · have hkz : ((X.length : Nat) : Int) ≤ (kp : Int) + 1 := by omega
        replace BB := hid_ (BB.out.trans (hbw.mono BB.out.size))
        replace HRl := hid_ (HRl.out.below hbw)
        have hle : (((X.length : Nat) : Int) == ((l.length : Nat) : Int)) = true := by rw [F2.out]; simp
        clear HTm hbw HF
        obtain ⟨Y, hY⟩ : ∃ Y, sortR l = Y := ⟨_, rfl⟩
        rw [hY] at HZ HL2
        have HY := hid_ hY; clear hY
        go_wp2_with fail
        refine (implSwR_any l _ l.length cl 0 _ rfl (by omega) hcl HCl.out HRl.out).mono ?_
        rw [HZ.out]
        rintro e w5 ⟨Aq, cq, rfl, hcq, hcmq, hoq, hbq⟩
        have HRq := hid_ (own_rd hoq); clear hoq
        clear hcmq hcq
        have hs_hbq := hbq.size
        replace BB := hid_ (BB.out.trans (hbq.mono BB.out.size))
        replace HRl := hid_ (HRl.out.below hbq)
        clear hbq
        go_wp2_with fail
        refine (implSort_any l _ l.length cl _ rfl (by omega) hcl HCl.out HRl.out).mono ?_
        rw [HY.out]
        rintro e w6 ⟨As, cs, rfl, hcs, hcms, hos, hbs⟩
        have HRs := hid_ (own_rd hos); clear hos
        clear hcms hcs
        have hs_hbs := hbs.size
        replace BB := hid_ (BB.out.trans (hbs.mono BB.out.size))
        replace HRl := hid_ (HRl.out.below hbs)
        replace HRq := hid_ (HRq.out.below hbs)
        clear hbs
        go_wp2_with fail
        refine (sameInts_self Y Aq As _ _ _ _ _ rfl rfl (by unfold maxLen; omega) HRq.out HRs.out).mono ?_
        rintro e w7 ⟨rfl, hb_w7⟩
        have hs_hb_w7 := hb_w7.size
        replace BB := hid_ (BB.out.trans (hb_w7.mono BB.out.size))
        replace HRl := hid_ (HRl.out.below hb_w7)
        clear hb_w7
        go_wp2
        go_returns
        exact ⟨rfl, BB.out⟩

set_option maxRecDepth 100000 in
theorem fnSweepOrder_lifted (os : Os) (started : os.Started) (H : Type) (enc : TypeId × Value → H) :
    ReturnsInHanded {} Try.checked os 3 .any (Rows.fnSweepOrderSpec.pre6 enc Try.prog Try.f3 Rows.fnSweepOrderRow.domain false) (Rows.fnSweepOrderSpec.post enc Try.prog Try.f3 false true false false) := by
  refine returnsInHanded_of_change (C := Try.checked) own_ started (by kernel_rfl) Try.func3
    (ChangeSpec.witness6 (enc := enc) (C := Try.checked) false ⟨#[], #[.slice none 0 0], []⟩ 8 (by kernel_rfl) (by kernel_rfl) (by kernel_rfl) (by kernel_rfl)) ?_
  intro W base args ds gs before hval0 hW hcnd _
  have hval : ∀ (j : Nat) t v, Try.f3.params[j]? = some t → args[j]? = some v → Value.okWide Try.prog W .any base t v := hval0
  have hW' := hW
  obtain ⟨p, q, hA0, hV, rfl, hfz, hnd⟩ := hW
  have hA : DataW.TrodAll enc Try.prog W 0 (fun _ => true) true Try.f3.params.toList args.toList ds p := hA0
  rw [Try.params3] at hA hval
  obtain ⟨v0, vs0, d0, ds0, p0, q0, hargs, rfl, rfl, h0, r0⟩ := trodAll_cons hA
  obtain ⟨rfl, rfl, rfl⟩ := trodAll_nil r0
  obtain rfl : args = #[v0] := by cases args; simp_all
  obtain ⟨rfl, rfl⟩ := trodVars_none hV
  obtain ⟨a0, len0, cap0, rfl⟩ := okWide_slice Try.underlying22 (hval 0 22 v0 rfl rfl)
  have k0 := h0
  have lt0 : ∀ x ∈ p0, x.block < W.heap.size := by obtain ⟨m, hm⟩ := k0; exact DataW.trod_lt m _ _ _ hm
  obtain ⟨z0, e0, lc0, cm0, w0, rd0⟩ := open_bytes h0
  clear hA0 hval0
  refine (lawSweep_walk z0 a0 len0 cap0 W e0 lc0 cm0 w0 rd0).mono fun e W' ⟨he, bel⟩ => ?_
  subst he
  exact ⟨_, rfl, _, _, _, [], _, [], hW', trodAll_mk1 (shut_bool Try.underlying4 _), (trodAll_cons_mk (Below.trod laidOut_ (by kernel_rfl) (of_decide_eq_true (by kernel_rfl)) k0 bel lt0) trodAll_mk0), rfl, bel.frame _, fun h => by cases h⟩

theorem fnSweepOrder_holds : Rows.FnSweepOrderSaid :=
  OpenClaim.holds_of_wide 3 Try.f3 rfl rfl rfl rfl rfl rfl rfl ⟨rfl, rfl, rfl, rfl, rfl⟩ rfl rfl rfl rfl rfl (by kernel_rfl) Try.func3 (by kernel_rfl)
    (of_decide_eq_true (by kernel_rfl)) (by unfold Func.isWrapper; first | (rw [if_pos (by decide +kernel)]; kernel_rfl) | (rw [if_neg (by decide +kernel)]; exact ⟨rfl, rfl⟩))
    (fun os started H enc _ => fnSweepOrder_lifted os started H enc)

end Go.Proofs.Ytfelfopcmkeimaa
