/-
  Flights: the walk of the law on retrying.
-/
import Derived.Test.YtfinefjihphnhaaFlM
import Derived.Test.YtfinefjihphnhaaFlH
namespace Go.Proofs.Ytfinefjihphnhaa
open Go.ChangeShapes Go.WideShapes Go.ChangeAt Go.RowKit Go.BigFrame Go.Deep

set_option maxHeartbeats 1600000 in
theorem lawRF_walk (z : List Int) (A : Option Addr) (n c : Nat) (w : World) (hl : z.length = n) (hc : n ≤ c) (hcm : c ≤ maxLen) (_ : True) (hB : Bys w w.heap.size A n) :
    Calls Try.prog 13 #[.slice A n c] w fun e w' => e = .returned (.bool true) ∧ Below w.heap.size w w' := by
  clear hl
  have HB := hid_ hB; clear hB
  have HC := hid_ hcm
  have hm : n ≤ 9223372036854775807 := by unfold maxLen at hcm; omega
  clear hcm
  by_cases hbig : (1048576 : Int) < (n : Int)
  · go_enter Try.func13, Try.ntmps13
    go_wp2
    go_returns
    exact ⟨rfl, Below.refl _ _⟩
  have hn20 : n ≤ 1048576 := by omega
  go_enter Try.func13, Try.ntmps13
  go_wp2_with fail
  refine (drawRF_any A n c _ hn20 hc HC.out HB.out).mono ?_
  clear HB HC
  rintro e w1 ⟨l, Al, cl, now, lim, rfl, hx, hy, hf⟩
  obtain ⟨hl, hcl, hcml, hdr, hol, BB⟩ := hf
  replace BB := hid_ BB
  have HRl := hid_ (own_rd hol); clear hol hdr
  have HCl := hid_ hcml; clear hcml
  obtain ⟨hLO, hLG⟩ := retry_len l now lim
  obtain ⟨O, hO⟩ : ∃ O, retryO l now lim = O := ⟨_, rfl⟩
  obtain ⟨G, hG⟩ : ∃ G, retryG l now lim = G := ⟨_, rfl⟩
  have HNo := hid_ (retry_no hO hG)
  have HYes := hid_ (retry_yes hO hG)
  rw [hO] at hLO
  rw [hG] at hLG
  have HO := hid_ hO; clear hO
  have HG := hid_ hG; clear hG
  obtain ⟨t, ht⟩ : ∃ t, fv l = t := ⟨_, rfl⟩
  rw [ht] at HNo HYes
  have HT := hid_ ht; clear ht
  go_wp2_with fail
  refine (implRetry_any l Al l.length cl now lim _ rfl (by omega) hcl HCl.out HRl.out).mono ?_
  rw [HO.out, HG.out]
  rintro e w2 ⟨Ao, co, Ag, cg, rfl, hco, hcmo, -, -, hoo, hog, hbo⟩
  have HRo := hid_ (own_rd hoo); clear hoo
  have HRg := hid_ (own_rd hog); clear hog
  have HCo := hid_ hcmo; clear hcmo
  have hs_hbo := hbo.size
  replace BB := hid_ (BB.out.trans (hbo.mono BB.out.size))
  replace HRl := hid_ (HRl.out.below hbo)
  clear hbo
  go_wp2_with fail
  refine (specRetry_any l Al l.length cl now lim _ rfl (by omega) HRl.out).mono ?_
  rw [HO.out, HG.out]
  rintro e w3 ⟨Ap, cp, Aq, cq, rfl, -, -, -, -, hop, hoq, hbp⟩
  have HRp := hid_ (own_rd hop); clear hop
  have HRq := hid_ (own_rd hoq); clear hoq
  have hs_hbp := hbp.size
  replace BB := hid_ (BB.out.trans (hbp.mono BB.out.size))
  replace HRl := hid_ (HRl.out.below hbp)
  replace HRo := hid_ (HRo.out.below hbp)
  replace HRg := hid_ (HRg.out.below hbp)
  clear hbp
  go_wp2_with fail
  refine (sameF_self O Ao Ap _ _ _ _ _ rfl rfl (by unfold maxLen; omega) HRo.out HRp.out).mono ?_
  rintro e w4 ⟨rfl, hb_w4⟩
  have hs_hb_w4 := hb_w4.size
  replace BB := hid_ (BB.out.trans (hb_w4.mono BB.out.size))
  replace HRl := hid_ (HRl.out.below hb_w4)
  replace HRo := hid_ (HRo.out.below hb_w4)
  replace HRg := hid_ (HRg.out.below hb_w4)
  replace HRq := hid_ (HRq.out.below hb_w4)
  clear hb_w4
  go_wp2_with fail
  refine (sameI_self G Ag Aq _ _ _ _ _ rfl rfl (by unfold maxLen; omega) HRg.out HRq.out).mono ?_
  rintro e w5 ⟨rfl, hb_w5⟩
  have hs_hb_w5 := hb_w5.size
  replace BB := hid_ (BB.out.trans (hb_w5.mono BB.out.size))
  replace HRl := hid_ (HRl.out.below hb_w5)
  replace HRo := hid_ (HRo.out.below hb_w5)
  replace HRg := hid_ (HRg.out.below hb_w5)
  clear hb_w5
  clear HRp HRq
  go_wp2_with fail
  refine (specFV_any l Al l.length cl _ rfl (by omega) HRl.out).mono ?_
  rw [HT.out]
  rintro e w6 ⟨rfl, hb6⟩
  have hs_hb6 := hb6.size
  replace BB := hid_ (BB.out.trans (hb6.mono BB.out.size))
  replace HRl := hid_ (HRl.out.below hb6)
  replace HRo := hid_ (HRo.out.below hb6)
  replace HRg := hid_ (HRg.out.below hb6)
  clear hb6
  by_cases hok : t = true ∧ (0 ≤ now ∧ now ≤ 100000) ∧ (1 ≤ lim ∧ lim ≤ 100000)
  · obtain ⟨rfl, hn1, hn2⟩ := hok
    obtain ⟨g1, g2, g3, g4⟩ := HYes.out rfl hn1 hn2
    have hq : (((O.length : Int) + (G.length : Int)) == (l.length : Int)) = true := by rw [beq_iff_eq]; omega
    have G2 := hid_ g2; clear g2
    have G3 := hid_ g3; clear g3
    have G4 := hid_ g4; clear g4
    clear g1 HYes HNo HO HG HT
    go_wp2
    go_loopw [10] (fun u wr => ∃ k : Nat, k ≤ l.length ∧ u = .int .i64 k ∧ Below w6.heap.size w6 wr) (fun u _ => l.length - (intOf u).toNat)
    case atStart => exact ⟨0, Nat.zero_le _, rfl, Below.refl _ _⟩
    case round =>
      obtain ⟨k, hk, rfl, hbk⟩ := hrel
      by_cases hlt : k < l.length
      · go_wp2
        go_loopw [11] (fun u wr => ∃ j : Nat, j ≤ G.length ∧ u = .int .i64 j ∧ Below w6.heap.size w6 wr) (fun u _ => G.length - (intOf u).toNat)
        case atStart => exact ⟨0, Nat.zero_le _, rfl, hbk⟩
        case round =>
          clear hbk
          obtain ⟨j, hj, rfl, hbk⟩ := hrel
          by_cases hlt2 : j < G.length
          · obtain ⟨bl, ol, rfl, y0, y1, y2⟩ := (HRl.out.below hbk).fl k hlt rfl
            obtain ⟨bg, og, rfl, z0⟩ := (HRg.out.below hbk).int j hlt2 rfl
            have hlz : (k : Int) < (l.length : Int) := by omega
            have hjz : (j : Int) < (G.length : Int) := by omega
            by_cases he : G[j] = l[k].tag
            · have h5 := G4.out j k hlt2 hlt he
              have he1 : (G[j] == l[k].tag) = true := by rw [beq_iff_eq]; exact he
              have h51 : (l[k].tries != 5) = false := by rw [h5]; rfl
              clear he h5
              go_wp2
              go_quiet (fail)
              go_wp2
              go_roundw
              case rel => exact ⟨j + 1, by omega, by go_num, bdN hbk _⟩
              case measure => exact meas_ hlt2
            · have he1 : (G[j] == l[k].tag) = false := by rw [beq_eq_false_iff_ne]; exact he
              clear he
              go_wp2
              go_quiet (fail)
              go_wp2
              go_roundw
              case rel => exact ⟨j + 1, by omega, by go_num, bdN hbk _⟩
              case measure => exact meas_ hlt2
          · go_wp2
            go_roundw
            case rel => exact ⟨k + 1, by omega, by go_num, hbk⟩
            case measure => exact meas_ hlt
      · have hs_hbk := hbk.size
        replace BB := hid_ (BB.out.trans (hbk.mono BB.out.size))
        replace HRo := hid_ (HRo.out.below hbk)
        clear hbk
        clear G4
        go_wp2_with fail
        refine (implFV_any O Ao O.length co _ rfl (by omega) hco HCo.out HRo.out).mono ?_
        rw [G2.out]
        rintro e w7 ⟨rfl, hb7⟩
        have hs_hb7 := hb7.size
        replace BB := hid_ (BB.out.trans (hb7.mono BB.out.size))
        replace HRo := hid_ (HRo.out.below hb7)
        clear hb7
        go_wp2_with fail
        refine (implLate_any O Ao O.length co now lim _ rfl (by omega) hco HCo.out HRo.out).mono ?_
        rw [G3.out]
        rintro e w8 ⟨A8, c8, rfl, -, -, -, hb8⟩
        have hs_hb8 := hb8.size
        replace BB := hid_ (BB.out.trans (hb8.mono BB.out.size))
        replace HRo := hid_ (HRo.out.below hb8)
        clear hb8
        go_wp2
        go_returns
        exact ⟨rfl, BB.out⟩
  · obtain ⟨rfl, rfl⟩ := HNo.out hok
    have key : t = false ∨ (t = true ∧ (now < 0 ∨ (¬ now < 0 ∧ 100000 < now) ∨ (¬ now < 0 ∧ ¬ 100000 < now ∧ lim < 1) ∨ (¬ now < 0 ∧ ¬ 100000 < now ∧ ¬ lim < 1 ∧ 100000 < lim))) := by
      cases t
      · exact .inl rfl
      · exact .inr ⟨rfl, by have : ¬ ((0 ≤ now ∧ now ≤ 100000) ∧ (1 ≤ lim ∧ lim ≤ 100000)) := fun h => hok ⟨rfl, h⟩; omega⟩
    clear HYes HNo HO HG HT hok
    simp only [List.length_nil] at *
    rcases key with rfl | ⟨rfl, k1 | ⟨k1, k2⟩ | ⟨k1, k2, k3⟩ | ⟨k1, k2, k3, k4⟩⟩
    all_goals
      go_wp2_with fail
      go_wp2_with fail
      refine (alive_any _).mono ?_
      rintro e w7 ⟨rfl, hbal⟩
      replace BB := hid_ (BB.out.trans (hbal.mono BB.out.size))
      go_wp2
      go_returns
      exact ⟨rfl, BB.out⟩

set_option maxRecDepth 100000 in
theorem fnRetryFlights_lifted (os : Os) (started : os.Started) (H : Type) (enc : TypeId × Value → H) :
    ReturnsInHanded {} Try.checked os 13 .any (Rows.fnRetryFlightsSpec.pre6 enc Try.prog Try.f13 Rows.fnRetryFlightsRow.domain false) (Rows.fnRetryFlightsSpec.post enc Try.prog Try.f13 false true false false) := by
  refine returnsInHanded_of_change (C := Try.checked) own_ started (by kernel_rfl) Try.func13
    (ChangeSpec.witness6 (enc := enc) (C := Try.checked) false ⟨#[], #[.slice none 0 0], []⟩ 8 (by kernel_rfl) (by kernel_rfl) (by kernel_rfl) (by kernel_rfl)) ?_
  intro W base args ds gs before hval0 hW hcnd _
  have hval : ∀ (j : Nat) t v, Try.f13.params[j]? = some t → args[j]? = some v → Value.okWide Try.prog W .any base t v := hval0
  have hW' := hW
  obtain ⟨p, q, hA0, hV, rfl, hfz, hnd⟩ := hW
  have hA : DataW.TrodAll enc Try.prog W 0 (fun _ => true) true Try.f13.params.toList args.toList ds p := hA0
  rw [Try.params13] at hA hval
  obtain ⟨v0, vs0, d0, ds0, p0, q0, hargs, rfl, rfl, h0, r0⟩ := trodAll_cons hA
  obtain ⟨rfl, rfl, rfl⟩ := trodAll_nil r0
  obtain rfl : args = #[v0] := by cases args; simp_all
  obtain ⟨rfl, rfl⟩ := trodVars_none hV
  obtain ⟨a0, len0, cap0, rfl⟩ := okWide_slice Try.underlying31 (hval 0 31 v0 rfl rfl)
  have k0 := h0
  have lt0 : ∀ x ∈ p0, x.block < W.heap.size := by obtain ⟨m, hm⟩ := k0; exact DataW.trod_lt m _ _ _ hm
  obtain ⟨z0, e0, lc0, cm0, w0, rd0⟩ := open_bytes h0
  clear hA0 hval0
  refine (lawRF_walk z0 a0 len0 cap0 W e0 lc0 cm0 w0 rd0).mono fun e W' ⟨he, bel⟩ => ?_
  subst he
  exact ⟨_, rfl, _, _, _, [], _, [], hW', trodAll_mk1 (shut_bool Try.underlying4 _), (trodAll_cons_mk (Below.trod laidOut_ (by kernel_rfl) (of_decide_eq_true (by kernel_rfl)) k0 bel lt0) trodAll_mk0), rfl, bel.frame _, fun h => by cases h⟩

theorem fnRetryFlights_holds : Rows.FnRetryFlightsSaid :=
  OpenClaim.holds_of_wide 13 Try.f13 rfl rfl rfl rfl rfl rfl rfl ⟨rfl, rfl, rfl, rfl, rfl⟩ rfl rfl rfl rfl rfl (by kernel_rfl) Try.func13 (by kernel_rfl)
    (of_decide_eq_true (by kernel_rfl)) (by unfold Func.isWrapper; first | (rw [if_pos (by decide +kernel)]; kernel_rfl) | (rw [if_neg (by decide +kernel)]; exact ⟨rfl, rfl⟩))
    (fun os started H enc _ => fnRetryFlights_lifted os started H enc)

end Go.Proofs.Ytfinefjihphnhaa
