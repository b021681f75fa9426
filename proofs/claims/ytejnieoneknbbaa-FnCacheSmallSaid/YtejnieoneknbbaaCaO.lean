/-
  Caches: the law on views. A view has as many sectors as the disk and shows the lines; without lines it is the disk.
-/
import Derived.Test.YtejnieoneknbbaaCaN
import Derived.Test.YtejnieoneknbbaaCkE
import Derived.Test.YtejnieoneknbbaaCaE
import Derived.Test.YtejnieoneknbbaaOpenB
namespace Go.Proofs.Ytejnieoneknbbaa
open Go.ChangeShapes Go.WideShapes Go.ChangeAt Go.RowKit Go.BigFrame Go.Deep

theorem sameInts_self (l : List Int) (A A' : Option Addr) (n n' c c' : Nat) (w : World) (hn : l.length = n) (hn' : l.length = n') (hm : n ≤ maxLen) (hR : Rd w 1 A n (intC l)) (hR' : Rd w 1 A' n' (intC l)) :
    Calls Try.prog 24 #[.slice A n c, .slice A' n' c'] w fun e w' => e = .returned (.bool true) ∧ Below w.heap.size w w' := by
  have hm' : n' ≤ maxLen := by rw [← hn', hn]; exact hm
  simpa using sameInts_any l l A A' n n' c c' w hn hn' hm hm' hR hR'
/-- what the law says of a view -/
theorem view_facts (L : List Ln) (m : Int) (d : List Int) : (viewC ⟨L, m, d⟩).length = 0 ∨ ((viewC ⟨L, m, d⟩).length = d.length ∧ viewC ⟨[], 1, d⟩ = d ∧ ∀ k (h : k < L.length), 0 ≤ L[k].at_ ∧ L[k].at_ < d.length ∧ (viewC ⟨L, m, d⟩)[L[k].at_.toNat]? = some L[k].value) := by
  cases q : Ca.ok ⟨L, m, d⟩
  · left; rw [viewC_no q]; rfl
  · have hk := ok_iff.1 q
    refine .inr ⟨viewC_length hk, ?_, fun k h => ?_⟩
    · have hk2 : COk ⟨[], 1, d⟩ := ⟨hk.len, hk.val, (show (1 : Int) ≤ 1 by omega), (show (1 : Int) ≤ 8 by omega), by simp, fun x hx => by simp at hx, by simp⟩
      rw [viewC_ok (ok_iff.2 hk2)]; rfl
    · have hx := hk.lns _ (List.getElem_mem h)
      refine ⟨hx.1.1, hx.1.2, ?_⟩
      rw [viewC_seen hk]
      have hz : ((L[k].at_.toNat : Nat) : Int) = L[k].at_ := by have := hx.1.1; omega
      unfold seen
      rw [hz]
      cases e : L.find? (fun x => x.at_ == L[k].at_) with
      | none =>
        rw [List.find?_eq_none] at e
        exact absurd (by simp) (e _ (List.getElem_mem h))
      | some y =>
        have h1 := List.mem_of_find?_eq_some e
        have h2 : y.at_ = L[k].at_ := by have := List.find?_some e; simpa using this
        obtain ⟨j, hj, rfl⟩ := List.getElem_of_mem h1
        have hne : ∀ (i j : Nat) (hi : i < L.length) (hj : j < L.length), i < j → L[i].at_ ≠ L[j].at_ := fun i j hi hj hij => by
          have := List.pairwise_iff_getElem.1 hk.nd i j (by rw [List.length_map]; exact hi) (by rw [List.length_map]; exact hj) hij
          rwa [List.getElem_map, List.getElem_map] at this
        rcases Nat.lt_trichotomy k j with g | g | g
        · exact absurd h2.symm (hne k j h hj g)
        · subst g; rfl
        · exact absurd h2 (hne j k hj h g)

set_option maxRecDepth 20000 in
set_option maxHeartbeats 1600000 in
theorem lawCaView_walk (z : List Int) (A : Option Addr) (n c : Nat) (w : World) (_hl : z.length = n) (hc : n ≤ c) (hcm : c ≤ maxLen) (_ : True) (hB : Bys w w.heap.size A n) :
    Calls Try.prog 5 #[.slice A n c] w fun e w' => e = .returned (.bool true) ∧ Below w.heap.size w w' := by
  clear _hl
  have HB := hid_ hB; clear hB
  have HC := hid_ hcm
  have hm : n ≤ 9223372036854775807 := by unfold maxLen at hcm; omega
  clear hcm
  by_cases hbig : (1048576 : Int) < (n : Int)
  · go_enter Try.func5, Try.ntmps5
    go_wp2
    go_returns
    exact ⟨rfl, Below.refl _ _⟩
  have hn20 : n ≤ 1048576 := by omega
  go_enter Try.func5, Try.ntmps5
  go_wp2_with fail
  refine (drawCW_any A n c _ hn20 hc HC.out HB.out).mono ?_
  clear HB HC
  rintro e w1 hdraw
  obtain ⟨L, m, d, A, n1, c, A2, n2, c2, rfl, hn1, hn2, hL, hd, hc, hcm, hc2, hcm2, hrl, hrd, hb1⟩ := hdraw.plain
  clear hdraw
  have BB := hid_ hb1; clear hb1
  have HRl := hid_ hrl; clear hrl
  have HRd := hid_ hrd; clear hrd
  have HCl := hid_ hcm; clear hcm
  have HCd := hid_ hcm2; clear hcm2
  have HF := hid_ (view_facts L m d)
  obtain ⟨V, hV⟩ : ∃ V, viewC ⟨L, m, d⟩ = V := ⟨_, rfl⟩
  rw [hV] at HF
  have HV := hid_ hV; clear hV
  obtain ⟨nv, hnv⟩ : ∃ nv, V.length = nv := ⟨_, rfl⟩
  rw [hnv, hn2] at HF
  have HN1 := hid_ hn1; clear hn1
  have HN2 := hid_ hn2; clear hn2
  have HNV := hid_ hnv; clear hnv
  have hnvm : nv ≤ 65 := by rcases HF.out with h | h <;> omega
  obtain ⟨W, hW0⟩ : ∃ W, World.alloc w1 (.cells #[.slice A n1 c, .int .i64 m] 29) = W := ⟨_, rfl⟩
  have hbW0 : Below (World.heap w1).size w1 W := by rw [← hW0]; exact (Below.refl _ _).alloc (Nat.le_refl _) _
  have HX0 := hid_ (show OutBox W (World.heap w1).size (.slice A n1 c) (m) by rw [← hW0]; exact BoxC.new _ _ _)
  have c00 := HX0.out.c0
  have c01 := HX0.out.c1
  have hs_hbW0 := hbW0.size
  replace BB := hid_ (BB.out.trans (hbW0.mono BB.out.size))
  replace HRl := hid_ (HRl.out.below hbW0)
  replace HRd := hid_ (HRd.out.below hbW0)
  clear hbW0
  go_wp2_with fail
  clear hW0
  refine (implView_any L A n1 c m d A2 n2 c2 _ HN1.out (by omega) hc HCl.out HRl.out HN2.out (by omega) hc2 HCd.out HRd.out).mono ?_
  rw [HV.out, HNV.out]
  rintro e w2 ⟨Av, cv, rfl, -, -, hov, hbv⟩
  have HRv := hid_ (own_rd hov); clear hov
  have hs_hbv := hbv.size
  replace BB := hid_ (BB.out.trans (hbv.mono BB.out.size))
  replace HRl := hid_ (HRl.out.below hbv)
  replace HRd := hid_ (HRd.out.below hbv)
  replace HX0 := hid_ (HX0.out.block (hbv.block _ HX0.out.lt))
  replace c00 := HX0.out.c0
  replace c01 := HX0.out.c1
  clear hbv
  go_wp2_with fail
  refine (specView_any L A n1 c m d A2 n2 c2 _ HN1.out (by omega) HRl.out HN2.out (by omega) HRd.out).mono ?_
  rw [HV.out, HNV.out]
  rintro e w3 ⟨Au, cu, rfl, -, -, hou, hbu⟩
  have HRu := hid_ (own_rd hou); clear hou
  have hs_hbu := hbu.size
  replace BB := hid_ (BB.out.trans (hbu.mono BB.out.size))
  replace HRl := hid_ (HRl.out.below hbu)
  replace HRd := hid_ (HRd.out.below hbu)
  replace HX0 := hid_ (HX0.out.block (hbu.block _ HX0.out.lt))
  replace c00 := HX0.out.c0
  replace c01 := HX0.out.c1
  replace HRv := hid_ (HRv.out.below hbu)
  clear hbu
  go_wp2_with fail
  refine (sameInts_self V Av Au _ _ _ _ _ HNV.out HNV.out (by unfold maxLen; omega) HRv.out HRu.out).mono ?_
  rintro e w4 ⟨rfl, hb_w4⟩
  have hs_hb_w4 := hb_w4.size
  replace BB := hid_ (BB.out.trans (hb_w4.mono BB.out.size))
  replace HRl := hid_ (HRl.out.below hb_w4)
  replace HRd := hid_ (HRd.out.below hb_w4)
  replace HX0 := hid_ (HX0.out.block (hb_w4.block _ HX0.out.lt))
  replace c00 := HX0.out.c0
  replace c01 := HX0.out.c1
  replace HRv := hid_ (HRv.out.below hb_w4)
  clear hb_w4
  clear HRu
  by_cases h0 : nv = 0
  · subst h0
    go_wp2_with fail
    go_wp2_with fail
    refine (alive_any _).mono ?_
    rintro e w5 ⟨rfl, hbal⟩
    replace BB := hid_ (BB.out.trans (hbal.mono BB.out.size))
    go_wp2
    go_returns
    exact ⟨rfl, BB.out⟩
  obtain ⟨e1, e2, e3⟩ : nv = n2 ∧ _ ∧ _ := HF.out.resolve_left h0
  subst e1
  have HE2 := hid_ e2; clear e2
  have HE3 := hid_ e3; clear e3
  clear HF HV
  have hz : ((nv : Int) == 0) = false := by rw [beq_eq_false_iff_ne]; omega
  have hs4 := BB.out.size
  go_wp2
  go_loopw [6] (fun v wr => ∃ k : Nat, k ≤ n1 ∧ v = .int .i64 k ∧ Below w4.heap.size w4 wr) (fun v _ => n1 - (intOf v).toNat)
  case atStart => exact ⟨0, Nat.zero_le _, rfl, Below.refl _ _⟩
  case round =>
    obtain ⟨k, hk, rfl, hb⟩ := hrel
    have y0 := (hb.cell (cell_lt c00)).trans c00
    have HRlr := hid_ (HRl.out.below hb)
    have HRdr := hid_ (HRd.out.below hb)
    have HRvr := hid_ (HRv.out.below hb)
    have BBr := hid_ (BB.out.trans (hb.mono BB.out.size))
    by_cases hlt : k < n1
    · have hlt' : k < L.length := by rw [HN1.out]; exact hlt
      obtain ⟨x, hx⟩ : ∃ x, L[k]'hlt' = x := ⟨_, rfl⟩
      obtain ⟨b, o, rfl, h0', h1', h2'⟩ := HRlr.out.ln_at k hlt HN1.out x hx
      obtain ⟨a0, a1, a2⟩ := HE3.out k hlt'
      rw [hx] at a0 a1 a2
      clear hx h2'
      obtain ⟨xa, xv, xd⟩ := x
      simp only at a0 a1 a2 h0' h1'
      obtain ⟨a, rfl⟩ := Int.eq_ofNat_of_zero_le a0
      have han : a < nv := by omega
      have hanz : (a : Int) < (nv : Int) := by omega
      have hlz : (k : Int) < (n1 : Int) := by omega
      obtain ⟨bv, ov, rfl, hcv⟩ := HRvr.out.int a han HNV.out
      have hve : V[a]'(by rw [HNV.out]; exact han) = xv := by
        rw [Int.toNat_natCast, List.getElem?_eq_getElem (by rw [HNV.out]; exact han)] at a2
        injection a2
      rw [hve] at hcv
      clear hve a0 a1 a2
      go_wp2
      go_quiet (fail)
      all_goals go_wp2
      all_goals (go_roundw
                 case rel => exact ⟨k + 1, by omega, by go_num, bdN hb _⟩
                 case measure => exact meas_ hlt)
    · obtain rfl : k = n1 := by omega
      have hnz : ((nv : Int) == (nv : Int)) = true := by simp
      go_wp2_with fail
      refine (implView_any [] none 0 0 1 d A2 nv c2 _ rfl (by omega) (Nat.le_refl _) (by unfold maxLen; omega) (Rd.nil _ _ _) HN2.out (by omega) hc2 HCd.out HRdr.out).mono ?_
      rw [HE2.out, HN2.out]
      rintro e w5 ⟨At, ct, rfl, -, -, hot, hbt⟩
      have HRt := hid_ (own_rd hot); clear hot
      have HRd5 := hid_ (HRdr.out.below hbt)
      replace BBr := hid_ (BBr.out.trans (hbt.mono BBr.out.size))
      clear hbt
      go_wp2_with fail
      refine (sameInts_self d At A2 _ _ _ _ _ HN2.out HN2.out (by unfold maxLen; omega) HRt.out HRd5.out).mono ?_
      rintro e w6 ⟨rfl, hb6⟩
      go_wp2
      go_returns
      exact ⟨rfl, BBr.out.trans (hb6.mono BBr.out.size)⟩

set_option maxRecDepth 100000 in
theorem fnCacheView_lifted (os : Os) (started : os.Started) (H : Type) (enc : TypeId × Value → H) :
    ReturnsInHanded {} Try.checked os 5 .any (Rows.fnCacheViewSpec.pre6 enc Try.prog Try.f5 Rows.fnCacheViewRow.domain false) (Rows.fnCacheViewSpec.post enc Try.prog Try.f5 false true false false) := by
  refine returnsInHanded_of_change (C := Try.checked) own_ started (by kernel_rfl) Try.func5
    (ChangeSpec.witness6 (enc := enc) (C := Try.checked) false ⟨#[], #[.slice none 0 0], []⟩ 8 (by kernel_rfl) (by kernel_rfl) (by kernel_rfl) (by kernel_rfl)) ?_
  intro W base args ds gs before hval0 hW hcnd _
  have hval : ∀ (j : Nat) t v, Try.f5.params[j]? = some t → args[j]? = some v → Value.okWide Try.prog W .any base t v := hval0
  have hW' := hW
  obtain ⟨p, q, hA0, hV, rfl, hfz, hnd⟩ := hW
  have hA : DataW.TrodAll enc Try.prog W 0 (fun _ => true) true Try.f5.params.toList args.toList ds p := hA0
  rw [Try.params5] at hA hval
  obtain ⟨v0, vs0, d0, ds0, p0, q0, hargs, rfl, rfl, h0, r0⟩ := trodAll_cons hA
  obtain ⟨rfl, rfl, rfl⟩ := trodAll_nil r0
  obtain rfl : args = #[v0] := by cases args; simp_all
  obtain ⟨rfl, rfl⟩ := trodVars_none hV
  obtain ⟨a0, len0, cap0, rfl⟩ := okWide_slice Try.underlying33 (hval 0 33 v0 rfl rfl)
  have k0 := h0
  have lt0 : ∀ x ∈ p0, x.block < W.heap.size := by obtain ⟨m, hm⟩ := k0; exact DataW.trod_lt m _ _ _ hm
  obtain ⟨z0, e0, lc0, cm0, w0, rd0⟩ := open_bytes h0
  clear hA0 hval0
  refine (lawCaView_walk z0 a0 len0 cap0 W e0 lc0 cm0 w0 rd0).mono fun e W' ⟨he, bel⟩ => ?_
  subst he
  exact ⟨_, rfl, _, _, _, [], _, [], hW', trodAll_mk1 (shut_bool Try.underlying4 _), (trodAll_cons_mk (Below.trod laidOut_ (by kernel_rfl) (of_decide_eq_true (by kernel_rfl)) k0 bel lt0) trodAll_mk0), rfl, bel.frame _, fun h => by cases h⟩

theorem fnCacheView_holds : Rows.FnCacheViewSaid :=
  OpenClaim.holds_of_wide 5 Try.f5 rfl rfl rfl rfl rfl rfl rfl ⟨rfl, rfl, rfl, rfl, rfl⟩ rfl rfl rfl rfl rfl (by kernel_rfl) Try.func5 (by kernel_rfl)
    (of_decide_eq_true (by kernel_rfl)) (by unfold Func.isWrapper; first | (rw [if_pos (by decide +kernel)]; kernel_rfl) | (rw [if_neg (by decide +kernel)]; exact ⟨rfl, rfl⟩))
    (fun os started H enc _ => fnCacheView_lifted os started H enc)

end Go.Proofs.Ytejnieoneknbbaa
