/-
  Flights: the walk of the law that retrying ends.
-/
import Derived.Test.YtfinefjihphnhaaFlM
import Derived.Test.YtfinefjihphnhaaFlH
namespace Go.Proofs.Ytfinefjihphnhaa
open Go.ChangeShapes Go.WideShapes Go.ChangeAt Go.RowKit Go.BigFrame Go.Deep

set_option maxHeartbeats 1600000 in
theorem lawRE_walk (z : List Int) (A : Option Addr) (n c : Nat) (w : World) (hl : z.length = n) (hc : n ≤ c) (hcm : c ≤ maxLen) (_ : True) (hB : Bys w w.heap.size A n) :
    Calls Try.prog 12 #[.slice A n c] w fun e w' => e = .returned (.bool true) ∧ Below w.heap.size w w' := by
  clear hl
  have HB := hid_ hB; clear hB
  have HC := hid_ hcm
  have hm : n ≤ 9223372036854775807 := by unfold maxLen at hcm; omega
  clear hcm
  by_cases hbig : (1048576 : Int) < (n : Int)
  · go_enter Try.func12, Try.ntmps12
    go_wp2
    go_returns
    exact ⟨rfl, Below.refl _ _⟩
  have hn20 : n ≤ 1048576 := by omega
  go_enter Try.func12, Try.ntmps12
  go_wp2_with fail
  refine (drawRF_any A n c _ hn20 hc HC.out HB.out).mono ?_
  clear HB HC
  rintro e w1 ⟨l, Al, cl, now, lim, rfl, hx, hy, hf⟩
  clear hx hy
  obtain ⟨hl, hcl, hcml, hdr, hol, BB⟩ := hf
  replace BB := hid_ BB
  have HRl := hid_ (own_rd hol); clear hol
  have HCl := hid_ hcml; clear hcml
  obtain ⟨hLO, hLG⟩ := retry_len l 200 1
  obtain ⟨O, hO⟩ : ∃ O, retryO l 200 1 = O := ⟨_, rfl⟩
  obtain ⟨G, hG⟩ : ∃ G, retryG l 200 1 = G := ⟨_, rfl⟩
  have HS := hid_ (fun h : fv l = true => retry_step hO hG (by omega) (sent_start h (fun x hx => (hdr x hx).2.1.2)))
  clear hdr
  rw [hO] at hLO
  rw [hG] at hLG
  have HO := hid_ hO; clear hO
  have HG := hid_ hG; clear hG
  obtain ⟨t, ht⟩ : ∃ t, fv l = t := ⟨_, rfl⟩
  rw [ht] at HS
  have HT := hid_ ht; clear ht
  go_wp2_with fail
  refine (implRetry_any l Al l.length cl 200 1 _ rfl (by omega) hcl HCl.out HRl.out).mono ?_
  rw [HO.out, HG.out]
  rintro e w2 ⟨Ao, co, Ag, cg, rfl, hco, hcmo, -, -, hoo, hog, hbo⟩
  have HRo := hid_ (own_rd hoo); clear hoo
  have HRg := hid_ (own_rd hog); clear hog
  have HCo := hid_ hcmo; clear hcmo
  have hs_hbo := hbo.size
  replace BB := hid_ (BB.out.trans (hbo.mono BB.out.size))
  replace HRl := hid_ (HRl.out.below hbo)
  clear hbo
  go_wp2_with fail
  refine (specRetry_any l Al l.length cl 200 1 _ rfl (by omega) HRl.out).mono ?_
  rw [HO.out, HG.out]
  rintro e w3 ⟨Ap, cp, Aq, cq, rfl, -, -, -, -, hop, hoq, hbp⟩
  have HRp := hid_ (own_rd hop); clear hop
  have HRq := hid_ (own_rd hoq); clear hoq
  have hs_hbp := hbp.size
  replace BB := hid_ (BB.out.trans (hbp.mono BB.out.size))
  replace HRl := hid_ (HRl.out.below hbp)
  replace HRo := hid_ (HRo.out.below hbp)
  replace HRg := hid_ (HRg.out.below hbp)
  clear hbp
  go_wp2_with fail
  refine (sameF_self O Ao Ap _ _ _ _ _ rfl rfl (by unfold maxLen; omega) HRo.out HRp.out).mono ?_
  rintro e w4 ⟨rfl, hb_w4⟩
  have hs_hb_w4 := hb_w4.size
  replace BB := hid_ (BB.out.trans (hb_w4.mono BB.out.size))
  replace HRl := hid_ (HRl.out.below hb_w4)
  replace HRo := hid_ (HRo.out.below hb_w4)
  replace HRg := hid_ (HRg.out.below hb_w4)
  replace HRq := hid_ (HRq.out.below hb_w4)
  clear hb_w4
  go_wp2_with fail
  refine (sameI_self G Ag Aq _ _ _ _ _ rfl rfl (by unfold maxLen; omega) HRg.out HRq.out).mono ?_
  rintro e w5 ⟨rfl, hb_w5⟩
  have hs_hb_w5 := hb_w5.size
  replace BB := hid_ (BB.out.trans (hb_w5.mono BB.out.size))
  replace HRl := hid_ (HRl.out.below hb_w5)
  replace HRo := hid_ (HRo.out.below hb_w5)
  clear hb_w5
  clear HRp HRq HRg
  go_wp2_with fail
  refine (specFV_any l Al l.length cl _ rfl (by omega) HRl.out).mono ?_
  rw [HT.out]
  rintro e w6 ⟨rfl, hb6⟩
  have hs_hb6 := hb6.size
  replace BB := hid_ (BB.out.trans (hb6.mono BB.out.size))
  replace HRo := hid_ (HRo.out.below hb6)
  clear hb6
  clear HRl HCl
  cases t
  · clear HS HO HG HT
    go_wp2_with fail
    go_wp2_with fail
    refine (alive_any _).mono ?_
    rintro e w7 ⟨rfl, hbal⟩
    replace BB := hid_ (BB.out.trans (hbal.mono BB.out.size))
    go_wp2
    go_returns
    exact ⟨rfl, BB.out⟩
  · obtain ⟨s1, s2⟩ := HS.out rfl
    have S1 := hid_ s1; clear s1
    have S2 := hid_ s2; clear s2
    clear HS HO HG HT
    go_wp2
    go_loopw [6, 10, 11] (fun o m i wr => ∃ (k M : Nat) (X : List Fl) (A : Option Addr) (c : Nat), 1 ≤ k ∧ k ≤ 5 ∧ i = .int .i64 k ∧ o = .slice A X.length c ∧ m = .int .i64 M ∧ X.length + M ≤ l.length ∧ l.length ≤ X.length + M ∧ X.length ≤ c ∧ c ≤ maxLen ∧ Rd wr 3 A X.length (flC X) ∧ Sent (200 + k) (k + 1) X ∧ Below w6.heap.size w6 wr) (fun _ _ i _ => 5 - (intOf i).toNat)
    case atStart => exact ⟨1, G.length, O, Ao, co, by omega, by omega, rfl, rfl, rfl, by have := S2.out; omega, by have := S2.out; omega, hco, HCo.out, HRo.out, S1.out.to (by omega) (by omega), Below.refl _ _⟩
    case round =>
      clear HRo S1 HCo
      obtain ⟨k, M, X, A, c, hk1, hk, rfl, rfl, rfl, hs1, hs2, hc, hcm, hR, hS, hbk⟩ := hrel
      have HRo := hid_ hR; clear hR
      have HCo := hid_ hcm; clear hcm
      have HSo := hid_ hS; clear hS
      have HBk := hid_ hbk
      have hbs := hbk.size
      by_cases hlt : k < 5
      · obtain ⟨hLO, hLG⟩ := retry_len X (200 + k) 1
        obtain ⟨Y, hY⟩ : ∃ Y, retryO X (200 + k) 1 = Y := ⟨_, rfl⟩
        obtain ⟨Z, hZ⟩ : ∃ Z, retryG X (200 + k) 1 = Z := ⟨_, rfl⟩
        obtain ⟨s1, s2⟩ := retry_step hY hZ (by omega) HSo.out
        rw [hY] at hLO
        rw [hZ] at hLG
        have S1 := hid_ s1; clear s1
        have S2 := hid_ s2; clear s2
        have HY := hid_ hY; clear hY
        have HZ := hid_ hZ; clear hZ
        clear HSo hbk
        go_wp2_with fail
        refine (implRetry_any X A X.length c (200 + k) 1 _ rfl (by omega) hc HCo.out HRo.out).mono ?_
        rw [HY.out, HZ.out]
        rintro e w8 ⟨A8, c8, A9, c9, rfl, hc8, hcm8, -, -, ho8, -, hb8⟩
        have HO8 := hid_ (own_rd ho8); clear ho8
        have HC8 := hid_ hcm8; clear hcm8
        have HB8 := hid_ hb8; clear hb8
        clear HRo HCo HY HZ
        go_wp2
        go_roundw
        case rel => exact ⟨k + 1, M + Z.length, Y, A8, c8, by omega, by omega, by go_num, rfl, by go_num, by have := S2.out; omega, by have := S2.out; omega, hc8, HC8.out, HO8.out, S1.out.to (by omega) (by omega), HBk.out.trans (HB8.out.mono hbs)⟩
        case measure => simp [intOf]; omega
      · obtain rfl : k = 5 := by omega
        obtain rfl := sent_end (HSo.out.to rfl (by omega))
        simp only [List.length_nil, Nat.zero_add] at *
        have hq : ((M : Int) == (l.length : Int)) = true := by rw [beq_iff_eq]; omega
        go_wp2
        go_returns
        exact ⟨rfl, BB.out.trans (HBk.out.mono BB.out.size)⟩

set_option maxRecDepth 100000 in
theorem fnRetryEnds_lifted (os : Os) (started : os.Started) (H : Type) (enc : TypeId × Value → H) :
    ReturnsInHanded {} Try.checked os 12 .any (Rows.fnRetryEndsSpec.pre6 enc Try.prog Try.f12 Rows.fnRetryEndsRow.domain false) (Rows.fnRetryEndsSpec.post enc Try.prog Try.f12 false true false false) := by
  refine returnsInHanded_of_change (C := Try.checked) own_ started (by kernel_rfl) Try.func12
    (ChangeSpec.witness6 (enc := enc) (C := Try.checked) false ⟨#[], #[.slice none 0 0], []⟩ 8 (by kernel_rfl) (by kernel_rfl) (by kernel_rfl) (by kernel_rfl)) ?_
  intro W base args ds gs before hval0 hW hcnd _
  have hval : ∀ (j : Nat) t v, Try.f12.params[j]? = some t → args[j]? = some v → Value.okWide Try.prog W .any base t v := hval0
  have hW' := hW
  obtain ⟨p, q, hA0, hV, rfl, hfz, hnd⟩ := hW
  have hA : DataW.TrodAll enc Try.prog W 0 (fun _ => true) true Try.f12.params.toList args.toList ds p := hA0
  rw [Try.params12] at hA hval
  obtain ⟨v0, vs0, d0, ds0, p0, q0, hargs, rfl, rfl, h0, r0⟩ := trodAll_cons hA
  obtain ⟨rfl, rfl, rfl⟩ := trodAll_nil r0
  obtain rfl : args = #[v0] := by cases args; simp_all
  obtain ⟨rfl, rfl⟩ := trodVars_none hV
  obtain ⟨a0, len0, cap0, rfl⟩ := okWide_slice Try.underlying31 (hval 0 31 v0 rfl rfl)
  have k0 := h0
  have lt0 : ∀ x ∈ p0, x.block < W.heap.size := by obtain ⟨m, hm⟩ := k0; exact DataW.trod_lt m _ _ _ hm
  obtain ⟨z0, e0, lc0, cm0, w0, rd0⟩ := open_bytes h0
  clear hA0 hval0
  refine (lawRE_walk z0 a0 len0 cap0 W e0 lc0 cm0 w0 rd0).mono fun e W' ⟨he, bel⟩ => ?_
  subst he
  exact ⟨_, rfl, _, _, _, [], _, [], hW', trodAll_mk1 (shut_bool Try.underlying4 _), (trodAll_cons_mk (Below.trod laidOut_ (by kernel_rfl) (of_decide_eq_true (by kernel_rfl)) k0 bel lt0) trodAll_mk0), rfl, bel.frame _, fun h => by cases h⟩

theorem fnRetryEnds_holds : Rows.FnRetryEndsSaid :=
  OpenClaim.holds_of_wide 12 Try.f12 rfl rfl rfl rfl rfl rfl rfl ⟨rfl, rfl, rfl, rfl, rfl⟩ rfl rfl rfl rfl rfl (by kernel_rfl) Try.func12 (by kernel_rfl)
    (of_decide_eq_true (by kernel_rfl)) (by unfold Func.isWrapper; first | (rw [if_pos (by decide +kernel)]; kernel_rfl) | (rw [if_neg (by decide +kernel)]; exact ⟨rfl, rfl⟩))
    (fun os started H enc _ => fnRetryEnds_lifted os started H enc)

end Go.Proofs.Ytfinefjihphnhaa
