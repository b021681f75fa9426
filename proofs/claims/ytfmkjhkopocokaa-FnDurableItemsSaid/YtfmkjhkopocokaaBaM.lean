/-
  Barriers: the law on the groups.
-/
import Derived.Test.YtfmkjhkopocokaaGrB
import Derived.Test.YtfmkjhkopocokaaBaD
namespace Go.Proofs.Ytfmkjhkopocokaa
open Go.ChangeShapes Go.WideShapes Go.ChangeAt Go.RowKit Go.BigFrame Go.Deep

theorem offs_cons (g : List Int) (r : List (List Int)) (k : Nat) : offs (g :: r) (k + 1) = g.length + offs r k := by simp [offs]
theorem flat_at : ∀ (gs : List (List Int)) (k : Nat) (hk : k < gs.length) (j : Nat) (hj : j < gs[k].length), gs.flatten[offs gs k + j]? = some (gs[k][j]) := by
  intro gs
  induction gs with
  | nil => intro k hk; simp at hk
  | cons g r ih =>
    intro k hk j hj
    cases k with
    | zero =>
      simp only [List.getElem_cons_zero] at hj ⊢
      have : offs (g :: r) 0 = 0 := by simp [offs]
      rw [this, Nat.zero_add, List.flatten_cons, List.getElem?_append_left hj, List.getElem?_eq_getElem hj]
    | succ k =>
      simp only [List.getElem_cons_succ] at hj ⊢
      have := ih k (by simpa using hk) j hj
      rw [offs_cons, List.flatten_cons, List.getElem?_append_right (by omega), ← this]
      congr 1; omega
theorem flat_len (gs : List (List Int)) : offs gs gs.length = gs.flatten.length := by
  simp [offs, List.length_flatten]
theorem grpR_facts (l : List It) : (∀ k (hk : k < (grpR l).length) j (hj : j < (grpR l)[k].length), (grpR l)[k][j] = ((offs (grpR l) k + j : Nat) : Int) ∧ offs (grpR l) k + j < l.length ∧ (bar l (offs (grpR l) k + j) = true → (grpR l)[k].length = 1) ∧ (j = 0 → 0 < k → bar l (offs (grpR l) k + j) = true ∨ bar l (offs (grpR l) k + j - 1) = true)) ∧ (l.length ≤ 12 → offs (grpR l) (grpR l).length = l.length) ∧ (12 < l.length → offs (grpR l) (grpR l).length = 0) := by
  by_cases h12 : l.length ≤ 12
  · rw [grpR_ok h12]
    obtain ⟨hf, hne, h1, hh⟩ := (grpN_ok l l.length).1
    generalize grpN l l.length = gs at *
    refine ⟨fun k hk j hj => ?_, fun _ => by rw [flat_len, hf, ints_length], fun h => absurd h (by omega)⟩
    have hfa := flat_at gs k hk j hj
    rw [hf] at hfa
    have hlt : offs gs k + j < (ints l.length).length := (List.getElem?_eq_some_iff.1 hfa).1
    have hv := (List.getElem?_eq_some_iff.1 hfa).2
    rw [ints_get] at hv
    refine ⟨hv.symm, by rw [ints_length] at hlt; exact hlt, fun hb => ?_, fun hj0 hk0 => ?_⟩
    · exact h1 gs[k] (List.getElem_mem _) gs[k][j] (List.getElem_mem _) (by rw [← hv]; exact hb)
    · subst hj0
      have := hh k hk hj hk0
      rw [← hv] at this
      exact this
  · rw [grpR_no (by omega)]
    exact ⟨fun k hk => by simp at hk, fun h => absurd h h12, fun _ => by simp [offs]⟩

set_option maxRecDepth 20000 in
set_option maxHeartbeats 1600000 in
theorem lawGrp_walk (z : List Int) (A : Option Addr) (n c : Nat) (w : World) (hl : z.length = n) (hc : n ≤ c) (hcm : c ≤ maxLen) (_ : True) (hB : Bys w w.heap.size A n) :
    Calls Try.prog 5 #[.slice A n c] w fun e w' => e = .returned (.bool true) ∧ Below w.heap.size w w' := by
  clear hl
  have HB := hid_ hB; clear hB
  have HC := hid_ hcm
  have hm : n ≤ 9223372036854775807 := by unfold maxLen at hcm; omega
  clear hcm
  by_cases hbig : (1048576 : Int) < (n : Int)
  · go_enter Try.func5, Try.ntmps5
    go_wp2
    go_returns
    exact ⟨rfl, Below.refl _ _⟩
  have hn20 : n ≤ 1048576 := by omega
  go_enter Try.func5, Try.ntmps5
  go_wp2_with fail
  refine (drawBG_any A n c _ hn20 hc HC.out HB.out).mono ?_
  clear HB HC
  rintro e w1 ⟨l, Al, cl, rfl, hl, hcl, hcml, hol, BB⟩
  replace BB := hid_ BB
  have HRl := hid_ (own_rd hol); clear hol
  have HCl := hid_ hcml; clear hcml
  have hl13 : l.length ≤ 13 := by omega
  clear hl
  obtain ⟨hf, he1, he2⟩ := grpR_facts l
  have HF := hid_ hf; clear hf
  have HE1 := hid_ he1; clear he1
  have HE2 := hid_ he2; clear he2
  have HGL := grpR_length l
  have HGM := hid_ (grpR_mem l)
  go_wp2_with fail
  refine (implGR_any l Al l.length cl _ rfl (by omega) HRl.out).mono ?_
  obtain ⟨gs, hgs⟩ : ∃ gs, grpR l = gs := ⟨_, rfl⟩
  rw [hgs] at HF HE1 HE2 HGL HGM ⊢
  have HGS := hid_ hgs; clear hgs
  rintro e w2 ⟨Ao, co, vs, rfl, hco, hcmo, hoo, hbo⟩
  have HRo := hid_ hoo.rd; clear hoo
  clear hcmo hco
  have hs_hbo := hbo.size
  replace BB := hid_ (BB.out.trans (hbo.mono BB.out.size))
  replace HRl := hid_ (HRl.out.below hbo)
  clear hbo
  go_wp2_with fail
  refine (specGrp_any l Al l.length cl _ rfl (by omega) HRl.out).mono ?_
  rw [HGS.out]
  rintro e w3 ⟨Ap, cp, vs2, rfl, hcp, hcmp, hop, hbp⟩
  have HRp := hid_ hop.rd; clear hop
  clear hcmp hcp
  have hs_hbp := hbp.size
  replace BB := hid_ (BB.out.trans (hbp.mono BB.out.size))
  replace HRl := hid_ (HRl.out.below hbp)
  replace HRo := hid_ (HRo.out.below hbp)
  clear hbp
  go_wp2_with fail
  refine (sameRows_self gs Ao Ap _ _ _ _ _ rfl rfl (by unfold maxLen; omega) HRo.out HRp.out).mono ?_
  rintro e w4 ⟨rfl, hb_w4⟩
  have hs_hb_w4 := hb_w4.size
  replace BB := hid_ (BB.out.trans (hb_w4.mono BB.out.size))
  replace HRl := hid_ (HRl.out.below hb_w4)
  replace HRo := hid_ (HRo.out.below hb_w4)
  clear hb_w4
  clear HRp
  go_wp2
  go_loopw [5, 6] (fun va vk wr => ∃ k S : Nat, k ≤ gs.length ∧ vk = .int .i64 (k : Int) ∧ va = .int .i64 (S : Int) ∧ S = offs gs k ∧ w4 = wr) (fun _ vk _ => gs.length - (intOf vk).toNat)
  case atStart => exact ⟨0, 0, Nat.zero_le _, rfl, rfl, by simp [offs], rfl⟩
  case round =>
    obtain ⟨k, S, hk, rfl, rfl, hS, rfl⟩ := hrel
    have HS := hid_ hS; clear hS
    by_cases hlt : k < gs.length
    · obtain ⟨b, o, Aj, cj, rfl, hrow, _, _, hrj⟩ := HRo.out.at k hlt
      have HRj := hid_ hrj; clear hrj
      have HFk := hid_ (HF.out k hlt)
      have HSn := hid_ (offs_succ gs k hlt)
      rw [← HS.out] at HSn
      obtain ⟨g, hg⟩ : ∃ g, gs[k] = g := ⟨_, rfl⟩
      have hFk := HFk.out
      clear HFk
      rw [hg] at hrow HRj HSn
      have hFk2 : ∀ j (hj : j < g.length), g[j] = ((S + j : Nat) : Int) ∧ S + j < l.length ∧ (bar l (S + j) = true → g.length = 1) ∧ (j = 0 → 0 < k → bar l (S + j) = true ∨ bar l (S + j - 1) = true) := by
        rw [HS.out, ← hg]
        exact hFk
      have HFk := hid_ hFk2; clear hFk hFk2
      have hm12 := HGM.out g (by rw [← hg]; exact List.getElem_mem _)
      clear hg
      obtain ⟨m, hm⟩ : ∃ m, g.length = m := ⟨_, rfl⟩
      rw [hm] at hm12
      rw [hm] at hrow HRj HSn
      have HM := hid_ hm; clear hm
      have hkz : (k : Int) < ((gs.length : Nat) : Int) := by omega
      go_wp2
      go_loopw [5, 7] (fun va vj wr => ∃ j a : Nat, j ≤ m ∧ vj = .int .i64 (j : Int) ∧ va = .int .i64 (a : Int) ∧ a = S + j ∧ w4 = wr) (fun _ vj _ => m - (intOf vj).toNat)
      case atStart => exact ⟨0, S, Nat.zero_le _, rfl, rfl, rfl, rfl⟩
      case round =>
        obtain ⟨j, a, hj, rfl, rfl, ha, rfl⟩ := hrel
        have HA := hid_ ha; clear ha
        by_cases hlj : j < m
        · obtain ⟨f1, f2, f3, f4⟩ := HFk.out j (by rw [HM.out]; exact hlj)
          rw [← HA.out] at f1 f2 f3 f4
          rw [HM.out] at f3
          obtain ⟨b3, o3, rfl, hcj⟩ := HRj.out.int j hlj HM.out
          rw [f1] at hcj
          clear f1
          obtain ⟨b1, o1, rfl⟩ : ∃ b o, Al = some ⟨b, o, none⟩ := by
            obtain ⟨b, o, e, _⟩ := HRl.out.2 (by omega)
            exact ⟨b, o, e⟩
          have hba := HRl.out.itb a f2 rfl
          have haz : (a : Int) < ((l.length : Nat) : Int) := by omega
          have hjz : (j : Int) < (m : Int) := by omega
          have HF2 := hid_ f2; clear f2
          have HKA := hid_ (show ((a : Nat) : Int) = ((a : Nat) : Int) from rfl)
          cases q : bar l a
          · rw [q] at hba f4
            have F4 := hid_ f4; clear f4 f3
            have Q := hid_ q; clear q
            by_cases hjk : j = 0 ∧ 0 < k
            · obtain ⟨hj0, hk0⟩ := hjk
              have hb1 : bar l (a - 1) = true := by
                rcases F4.out hj0 hk0 with h | h
                · cases h
                · exact h
              have ha1 : 1 ≤ a := by
                rcases Nat.eq_zero_or_pos a with h | h
                · subst h; have := Q.out; rw [this] at hb1; cases hb1
                · exact h
              have hsub : ((a : Int) - 1).toNat = a - 1 := by omega
              have hb1c := HRl.out.itb (a - 1) (by have := HF2.out; omega) rfl
              rw [hb1] at hb1c
              clear hb1
              have HJ := hid_ (And.intro hj0 hk0); clear hj0 hk0
              go_wp2
              all_goals first
                | (exfalso; have := HJ.out; omega)
                | (go_roundw
                   case rel => exact ⟨j + 1, a + 1, by omega, by go_num, by go_num, by have := HA.out; omega, trivial⟩
                   case measure => first | exact meas_ hlj | (simp [intOf]; omega))
            · have HJ := hid_ hjk; clear hjk
              go_wp2
              all_goals first
                | (exfalso; have := HJ.out; omega)
                | (go_roundw
                   case rel => exact ⟨j + 1, a + 1, by omega, by go_num, by go_num, by have := HA.out; omega, trivial⟩
                   case measure => first | exact meas_ hlj | (simp [intOf]; omega))
          · have HM1 := hid_ (f3 q)
            rw [q] at hba
            clear f4 f3 q
            go_wp2
            all_goals first
              | (exfalso; have := HM1.out; omega)
              | (go_roundw
                 case rel => exact ⟨j + 1, a + 1, by omega, by go_num, by go_num, by have := HA.out; omega, trivial⟩
                 case measure => first | exact meas_ hlj | (simp [intOf]; omega))
        · have e : j = m := by omega
          subst e
          go_wp2
          go_roundw
          case rel => exact ⟨k + 1, a, by omega, by go_num, rfl, by rw [HSn.out]; exact HA.out, trivial⟩
          case measure => exact meas_ hlt
    · have e : k = gs.length := by omega
      have hS : S = offs gs gs.length := by rw [← e]; exact HS.out
      have hkz : ((gs.length : Nat) : Int) ≤ (k : Int) := by omega
      by_cases h12 : l.length ≤ 12
      · have hSl : S = l.length := hS.trans (HE1.out h12)
        clear hS
        subst hSl
        clear e
        go_wp2_with fail
        go_wp2_with fail
        refine (alive_any _).mono ?_
        rintro e w5 ⟨rfl, hbal⟩
        replace BB := hid_ (BB.out.trans (hbal.mono BB.out.size))
        go_wp2
        go_returns
        exact ⟨rfl, BB.out⟩
      · have hS0 : S = 0 := hS.trans (HE2.out (by omega))
        clear hS
        subst hS0
        clear e
        have hl0 : ((0 : Int) == ((l.length : Nat) : Int)) = false := by rw [beq_eq_false_iff_ne]; omega
        have hl12 : (12 : Int) < ((l.length : Nat) : Int) := by omega
        go_wp2_with fail
        go_wp2_with fail
        refine (alive_any _).mono ?_
        rintro e w5 ⟨rfl, hbal⟩
        replace BB := hid_ (BB.out.trans (hbal.mono BB.out.size))
        go_wp2
        go_returns
        exact ⟨rfl, BB.out⟩

set_option maxRecDepth 100000 in
theorem fnBarrierGroups_lifted (os : Os) (started : os.Started) (H : Type) (enc : TypeId × Value → H) :
    ReturnsInHanded {} Try.checked os 5 .any (Rows.fnBarrierGroupsSpec.pre6 enc Try.prog Try.f5 Rows.fnBarrierGroupsRow.domain false) (Rows.fnBarrierGroupsSpec.post enc Try.prog Try.f5 false true false false) := by
  refine returnsInHanded_of_change (C := Try.checked) own_ started (by kernel_rfl) Try.func5
    (ChangeSpec.witness6 (enc := enc) (C := Try.checked) false ⟨#[], #[.slice none 0 0], []⟩ 8 (by kernel_rfl) (by kernel_rfl) (by kernel_rfl) (by kernel_rfl)) ?_
  intro W base args ds gs before hval0 hW hcnd _
  have hval : ∀ (j : Nat) t v, Try.f5.params[j]? = some t → args[j]? = some v → Value.okWide Try.prog W .any base t v := hval0
  have hW' := hW
  obtain ⟨p, q, hA0, hV, rfl, hfz, hnd⟩ := hW
  have hA : DataW.TrodAll enc Try.prog W 0 (fun _ => true) true Try.f5.params.toList args.toList ds p := hA0
  rw [Try.params5] at hA hval
  obtain ⟨v0, vs0, d0, ds0, p0, q0, hargs, rfl, rfl, h0, r0⟩ := trodAll_cons hA
  obtain ⟨rfl, rfl, rfl⟩ := trodAll_nil r0
  obtain rfl : args = #[v0] := by cases args; simp_all
  obtain ⟨rfl, rfl⟩ := trodVars_none hV
  obtain ⟨a0, len0, cap0, rfl⟩ := okWide_slice Try.underlying29 (hval 0 29 v0 rfl rfl)
  have k0 := h0
  have lt0 : ∀ x ∈ p0, x.block < W.heap.size := by obtain ⟨m, hm⟩ := k0; exact DataW.trod_lt m _ _ _ hm
  obtain ⟨z0, e0, lc0, cm0, w0, rd0⟩ := open_bytes h0
  clear hA0 hval0
  refine (lawGrp_walk z0 a0 len0 cap0 W e0 lc0 cm0 w0 rd0).mono fun e W' ⟨he, bel⟩ => ?_
  subst he
  exact ⟨_, rfl, _, _, _, [], _, [], hW', trodAll_mk1 (shut_bool Try.underlying4 _), (trodAll_cons_mk (Below.trod laidOut_ (by kernel_rfl) (of_decide_eq_true (by kernel_rfl)) k0 bel lt0) trodAll_mk0), rfl, bel.frame _, fun h => by cases h⟩

theorem fnBarrierGroups_holds : Rows.FnBarrierGroupsSaid :=
  OpenClaim.holds_of_wide 5 Try.f5 rfl rfl rfl rfl rfl rfl rfl ⟨rfl, rfl, rfl, rfl, rfl⟩ rfl rfl rfl rfl rfl (by kernel_rfl) Try.func5 (by kernel_rfl)
    (of_decide_eq_true (by kernel_rfl)) (by unfold Func.isWrapper; first | (rw [if_pos (by decide +kernel)]; kernel_rfl) | (rw [if_neg (by decide +kernel)]; exact ⟨rfl, rfl⟩))
    (fun os started H enc _ => fnBarrierGroups_lifted os started H enc)

end Go.Proofs.Ytfmkjhkopocokaa
