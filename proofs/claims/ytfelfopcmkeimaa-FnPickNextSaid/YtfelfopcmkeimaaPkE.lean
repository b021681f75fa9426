/-
  Schedulers: the law on the next request. Late requests are served first; without limits on the waiting the sweep decides.
-/
import Derived.Test.YtfelfopcmkeimaaPkD
import Derived.Test.YtfelfopcmkeimaaScO
namespace Go.Proofs.Ytfelfopcmkeimaa
open Go.ChangeShapes Go.WideShapes Go.ChangeAt Go.RowKit Go.BigFrame Go.Deep

theorem due_false {l : List Rq} {ts : List Int} {now lim : Int} {b : Bool} {k : Nat} (h : dueB l ts now b lim k = false) : wrK l k = b → now - tmK ts k < lim := by
  intro hw
  unfold dueB at h
  simp [hw] at h
  omega
theorem due_true {l : List Rq} {ts : List Int} {now lim : Int} {b : Bool} {k : Nat} (h : dueB l ts now b lim k = true) : wrK l k = b ∧ lim ≤ now - tmK ts k := by
  unfold dueB at h
  simpa using h

theorem none_next {p : Nat → Bool} {k : Nat} (h : ∀ i, i < k → p i = false) (h2 : p k = false) : ∀ i, i < k + 1 → p i = false := by
  intro i hi
  rcases Nat.lt_or_ge i k with q | q
  · exact h i q
  · obtain rfl : i = k := by omega
    exact h2
/-- what the law asks -/
structure PkFacts (l : List Rq) (ts : List Int) (now head reads writes : Int) : Prop where
  n0 : now ≤ 100000 ∧ 0 ≤ now
  len : ts.length = l.length
  tm : ∀ k, k < l.length → 0 ≤ tmK ts k ∧ tmK ts k ≤ 100000
  first : ∀ k, k < l.length → dueB l ts now false reads k = true → (∀ i, i < k → dueB l ts now false reads i = false) → pickR l ts now head reads writes = (k : Int)
  lt : pickR l ts now head reads writes < (l.length : Int)
  ge : -1 ≤ pickR l ts now head reads writes
  swl : (sweepR l head).length = l.length
  far : 0 < l.length → ∃ y : Int, (sweepR l head)[0]? = some y ∧ pickR l ts 0 head 100000 100000 = y
theorem pk_facts {l : List Rq} {ts : List Int} {now head reads writes : Int} (h : pkOk l ts now head reads writes = true) : PkFacts l ts now head reads writes := by
  obtain ⟨h1, h2, h3, h4, h5, h6, h7⟩ := pkOk_parts h
  have hsw : sweepR l head = sweepO l head (sortN l l.length) := sweepR_ok h1 h5
  have hswl : (sweepR l head).length = l.length := by rw [hsw]; exact (sweepO_length l head _).trans (sortN_length l _)
  have hn := inB_iff.1 h4
  have hno : ∀ (b : Bool) k, k < l.length → dueB l ts 0 b 100000 k = false := fun b k hk => by
    cases e : dueB l ts 0 b 100000 k
    · rfl
    · have := (due_true e).2
      have := tm_bd h2 k (by omega)
      omega
  have hmm : ∀ x ∈ sweepR l head, 0 ≤ x ∧ x < (l.length : Int) := by
    rw [hsw]
    intro x hx
    exact sortN_mem.1 (sweepO_mem hx)
  have hmem : ∀ k (hk : k < (sweepR l head).length), 0 ≤ (sweepR l head)[k] ∧ (sweepR l head)[k] < l.length := fun k hk => hmm _ (List.getElem_mem hk)
  have hpn : pickR l ts now head reads writes = pickN l ts now head reads writes := pickR_ok h
  have hb : -1 ≤ pickN l ts now head reads writes ∧ pickN l ts now head reads writes < (l.length : Int) := by
    rcases fst_cases (dueB l ts now false reads) l.length with ⟨_, a2⟩ | ⟨k, _, a2, a3, a4⟩
    · rcases fst_cases (dueB l ts now true writes) l.length with ⟨_, b2⟩ | ⟨k, _, b2, b3, b4⟩
      · rw [pickN_c a2 b2, ← hsw]
        by_cases h0 : 0 < l.length
        · have := hmem 0 (by omega)
          have e : (sweepR l head).getD 0 (-1) = (sweepR l head)[0]'(by omega) := by simp [List.getD, hswl, h0]
          rw [e]; omega
        · have e : (sweepR l head) = [] := List.eq_nil_of_length_eq_zero (by omega)
          rw [e]; simp; omega
      · rw [pickN_b b2 a2 b3 b4]; omega
    · rw [pickN_a a2 a3 a4]; omega
  refine ⟨⟨hn.2, hn.1⟩, h3, fun k hk => tm_bd h2 k (by omega), fun k hk hd h0 => by rw [hpn]; exact pickN_a hk hd h0, by rw [hpn]; exact hb.2, by rw [hpn]; exact hb.1, hswl, fun hl => ⟨(sweepR l head)[0]'(by omega), by rw [List.getElem?_eq_getElem], ?_⟩⟩
  have hok : pkOk l ts 0 head 100000 100000 = true := by
    unfold pkOk; simp [h1, h2, h3, h5]; decide
  rw [pickR_ok hok, pickN_c (hno false) (hno true)]
  simp only [← hsw]
  simp [List.getD, hswl, hl]

set_option maxHeartbeats 1600000 in
theorem lawPick_walk (z : List Int) (A : Option Addr) (n c : Nat) (w : World) (hl : z.length = n) (hc : n ≤ c) (hcm : c ≤ maxLen) (_ : True) (hB : Bys w w.heap.size A n) :
    Calls Try.prog 5 #[.slice A n c] w fun e w' => e = .returned (.bool true) ∧ Below w.heap.size w w' := by
  clear hl
  have HB := hid_ hB; clear hB
  have HC := hid_ hcm
  have hm : n ≤ 9223372036854775807 := by unfold maxLen at hcm; omega
  clear hcm
  by_cases hbig : (1048576 : Int) < (n : Int)
  · go_enter Try.func5, Try.ntmps5
    go_wp2
    go_returns
    exact ⟨rfl, Below.refl _ _⟩
  have hn20 : n ≤ 1048576 := by omega
  go_enter Try.func5, Try.ntmps5
  go_wp2_with fail
  refine (drawPk_any A n c _ hn20 hc HC.out HB.out).mono ?_
  clear HB HC
  rintro e w1 ⟨l, Al, cl, ts, At, ct, now, head, reads, writes, rfl, hl, hcl, hcml, hts, hct, hcmt, hol, hot, BB⟩
  replace BB := hid_ BB
  have HRl := hid_ (own_rd hol); clear hol
  have HRt := hid_ (own_rd hot); clear hot
  have HCl := hid_ hcml; clear hcml
  have HCt := hid_ hcmt; clear hcmt
  go_wp2_with fail
  refine (implPick_any l Al l.length cl ts At ts.length ct now head reads writes _ rfl (by omega) hcl HCl.out HRl.out rfl (by omega) hct HCt.out HRt.out).mono ?_
  rintro e w2 ⟨rfl, hb_w2⟩
  have hs_hb_w2 := hb_w2.size
  replace BB := hid_ (BB.out.trans (hb_w2.mono BB.out.size))
  replace HRl := hid_ (HRl.out.below hb_w2)
  replace HRt := hid_ (HRt.out.below hb_w2)
  clear hb_w2
  go_wp2_with fail
  refine (specPick_any l Al l.length cl ts At ts.length ct now head reads writes _ rfl (by omega) HRl.out rfl (by omega) HRt.out).mono ?_
  rintro e w3 ⟨rfl, hb_w3⟩
  have hs_hb_w3 := hb_w3.size
  replace BB := hid_ (BB.out.trans (hb_w3.mono BB.out.size))
  replace HRl := hid_ (HRl.out.below hb_w3)
  replace HRt := hid_ (HRt.out.below hb_w3)
  clear hb_w3
  cases hok : pkOk l ts now head reads writes
  · have hX := pickR_no hok
    rw [hX]
    clear hX hok
    go_wp2_with fail
    go_wp2_with fail
    refine (alive_any _).mono ?_
    rintro e w5 ⟨rfl, hbal⟩
    replace BB := hid_ (BB.out.trans (hbal.mono BB.out.size))
    go_wp2
    go_returns
    exact ⟨rfl, BB.out⟩
  · have F := pk_facts hok
    have F1 := F.first
    have F4 := F.lt
    have F5 := F.ge
    have F6 := F.swl
    have F7 := F.far
    obtain ⟨f0, f1⟩ := F.n0
    have F2 := hid_ F.len
    have F3 := hid_ F.tm
    clear F hok
    obtain ⟨X, hX⟩ : ∃ X, pickR l ts now head reads writes = X := ⟨_, rfl⟩
    rw [hX] at F1 F4 F5 ⊢
    have F1 := hid_ F1
    clear hX
    have F6 := hid_ F6
    have F7 := hid_ F7
    by_cases h0 : X < 0
    · obtain rfl : X = -1 := by omega
      go_wp2_with fail
      go_wp2_with fail
      refine (alive_any _).mono ?_
      rintro e w5 ⟨rfl, hbal⟩
      replace BB := hid_ (BB.out.trans (hbal.mono BB.out.size))
      go_wp2
      go_returns
      exact ⟨rfl, BB.out⟩
    · obtain ⟨x, rfl⟩ := Int.eq_ofNat_of_zero_le (show 0 ≤ X by omega)
      have hxl : x < l.length := by omega
      have hpos : 0 < l.length := by omega
      obtain ⟨b1, o1, rfl⟩ := addr_of_ HRl.out hpos
      obtain ⟨b2, o2, rfl⟩ := addr_of_ HRt.out (by rw [F2.out]; exact hpos)
      have htl : ts.length = l.length := F2.out
      obtain ⟨tn, htn⟩ : ∃ tn, ts.length = tn := ⟨_, rfl⟩
      have HTN := hid_ htn
      have hxt : (x : Int) < (tn : Int) := by omega
      have hle : l.length ≤ tn := by omega
      rw [htn] at HRt ⊢
      clear htl htn
      go_wp2
      go_loopw [10] (fun vk wr => ∃ k : Nat, k ≤ l.length ∧ vk = .int .i64 (k : Int) ∧ (∀ i, i < k → dueB l ts now false reads i = false) ∧ Below w3.heap.size w3 wr) (fun vk _ => l.length - (intOf vk).toNat)
      case atStart => exact ⟨0, by omega, rfl, fun i hi => absurd hi (by omega), Below.refl _ _⟩
      case round =>
        obtain ⟨k, hk, rfl, hno, hbw⟩ := hrel
        have HNO := hid_ hno; clear hno
        by_cases hlt : k < l.length
        · obtain ⟨-, -, cw⟩ := rq_at3 (HRl.out.below hbw) k hlt rfl
          have ct0 := tm_at (HRt.out.below hbw) k (by omega) HTN.out
          obtain ⟨t0, t1⟩ := F3.out k hlt
          have hkz : (k : Int) < ((l.length : Nat) : Int) := by omega
          have hkt : (k : Int) < (tn : Int) := by omega
          cases hd : dueB l ts now false reads k
          · have HD := hid_ hd
            have HDF := hid_ (due_false hd); clear hd
            cases hw : wrK l k
            · have hlt2 : ¬ reads ≤ now - tmK ts k := by have := HDF.out hw; omega
              rw [hw] at cw
              obtain ⟨T, hT⟩ : ∃ T, tmK ts k = T := ⟨_, rfl⟩
              rw [hT] at ct0 t0 t1 hlt2
              clear hT hw HDF
              go_wp2
              go_roundw
              case rel => exact ⟨k + 1, by omega, by go_num, none_next HNO.out HD.out, by first | exact hbw | exact bdN hbw _⟩
              case measure => simp [intOf]; omega
            · rw [hw] at cw
              clear hw HDF
              go_wp2
              go_roundw
              case rel => exact ⟨k + 1, by omega, by go_num, none_next HNO.out HD.out, by first | exact hbw | exact bdN hbw _⟩
              case measure => simp [intOf]; omega
          · obtain ⟨hw, hr⟩ := due_true hd
            have hxk := F1.out k hlt hd HNO.out
            obtain rfl : x = k := by omega
            rw [hw] at cw
            obtain ⟨T, hT⟩ : ∃ T, tmK ts x = T := ⟨_, rfl⟩
            rw [hT] at ct0 t0 t1 hr
            clear hT hw hxk hd
            go_wp2
            go_returns
            exact ⟨rfl, BB.out.trans (hbw.mono BB.out.size)⟩
        · obtain rfl : k = l.length := by omega
          replace BB := hid_ (BB.out.trans (hbw.mono BB.out.size))
          replace HRl := hid_ (HRl.out.below hbw)
          replace HRt := hid_ (HRt.out.below hbw)
          clear HNO
          obtain ⟨y, hy, hfar⟩ := F7.out hpos
          have HY := hid_ hy; clear hy
          have HFAR := hid_ hfar; clear hfar
          obtain ⟨S, hS⟩ : ∃ S, sweepR l head = S := ⟨_, rfl⟩
          rw [hS] at F6 HY
          have HS := hid_ hS; clear hS
          go_wp2_with fail
          refine (implPick_any l _ l.length cl ts _ tn ct 0 head 100000 100000 _ rfl (by omega) hcl HCl.out HRl.out HTN.out (by have := HTN.out; omega) (by have := HTN.out; omega) HCt.out HRt.out).mono ?_
          rw [HFAR.out]
          rintro e w5 ⟨rfl, hb5⟩
          have hs_hb5 := hb5.size
          replace BB := hid_ (BB.out.trans (hb5.mono BB.out.size))
          replace HRl := hid_ (HRl.out.below hb5)
          clear hb5
          go_wp2_with fail
          refine (implSwR_any l _ l.length cl head _ rfl (by omega) hcl HCl.out HRl.out).mono ?_
          rw [HS.out]
          rintro e w6 ⟨As, cs, rfl, hcs, hcms, hos, hbs⟩
          have HRs := hid_ (own_rd hos); clear hos
          clear hcms hcs
          have hsl : S.length = l.length := F6.out
          obtain ⟨b3, o3, rfl, c3⟩ := HRs.out.int 0 (by omega) rfl
          have hy0 : S[0]'(by omega) = y := by have := HY.out; rw [List.getElem?_eq_getElem (by omega)] at this; exact Option.some.inj this
          rw [hy0, Nat.add_zero] at c3
          have hsz : ((S.length : Nat) : Int) = ((l.length : Nat) : Int) := by omega
          clear hy0
          have h0S : 0 < S.length := by omega
          replace BB := hid_ (BB.out.trans (hbs.mono BB.out.size))
          rw [hsl] at h0S ⊢
          clear hsl hsz
          go_wp2
          go_returns
          exact ⟨rfl, BB.out⟩

set_option maxRecDepth 100000 in
theorem fnPickNext_lifted (os : Os) (started : os.Started) (H : Type) (enc : TypeId × Value → H) :
    ReturnsInHanded {} Try.checked os 5 .any (Rows.fnPickNextSpec.pre6 enc Try.prog Try.f5 Rows.fnPickNextRow.domain false) (Rows.fnPickNextSpec.post enc Try.prog Try.f5 false true false false) := by
  refine returnsInHanded_of_change (C := Try.checked) own_ started (by kernel_rfl) Try.func5
    (ChangeSpec.witness6 (enc := enc) (C := Try.checked) false ⟨#[], #[.slice none 0 0], []⟩ 8 (by kernel_rfl) (by kernel_rfl) (by kernel_rfl) (by kernel_rfl)) ?_
  intro W base args ds gs before hval0 hW hcnd _
  have hval : ∀ (j : Nat) t v, Try.f5.params[j]? = some t → args[j]? = some v → Value.okWide Try.prog W .any base t v := hval0
  have hW' := hW
  obtain ⟨p, q, hA0, hV, rfl, hfz, hnd⟩ := hW
  have hA : DataW.TrodAll enc Try.prog W 0 (fun _ => true) true Try.f5.params.toList args.toList ds p := hA0
  rw [Try.params5] at hA hval
  obtain ⟨v0, vs0, d0, ds0, p0, q0, hargs, rfl, rfl, h0, r0⟩ := trodAll_cons hA
  obtain ⟨rfl, rfl, rfl⟩ := trodAll_nil r0
  obtain rfl : args = #[v0] := by cases args; simp_all
  obtain ⟨rfl, rfl⟩ := trodVars_none hV
  obtain ⟨a0, len0, cap0, rfl⟩ := okWide_slice Try.underlying22 (hval 0 22 v0 rfl rfl)
  have k0 := h0
  have lt0 : ∀ x ∈ p0, x.block < W.heap.size := by obtain ⟨m, hm⟩ := k0; exact DataW.trod_lt m _ _ _ hm
  obtain ⟨z0, e0, lc0, cm0, w0, rd0⟩ := open_bytes h0
  clear hA0 hval0
  refine (lawPick_walk z0 a0 len0 cap0 W e0 lc0 cm0 w0 rd0).mono fun e W' ⟨he, bel⟩ => ?_
  subst he
  exact ⟨_, rfl, _, _, _, [], _, [], hW', trodAll_mk1 (shut_bool Try.underlying4 _), (trodAll_cons_mk (Below.trod laidOut_ (by kernel_rfl) (of_decide_eq_true (by kernel_rfl)) k0 bel lt0) trodAll_mk0), rfl, bel.frame _, fun h => by cases h⟩

theorem fnPickNext_holds : Rows.FnPickNextSaid :=
  OpenClaim.holds_of_wide 5 Try.f5 rfl rfl rfl rfl rfl rfl rfl ⟨rfl, rfl, rfl, rfl, rfl⟩ rfl rfl rfl rfl rfl (by kernel_rfl) Try.func5 (by kernel_rfl)
    (of_decide_eq_true (by kernel_rfl)) (by unfold Func.isWrapper; first | (rw [if_pos (by decide +kernel)]; kernel_rfl) | (rw [if_neg (by decide +kernel)]; exact ⟨rfl, rfl⟩))
    (fun os started H enc _ => fnPickNext_lifted os started H enc)

end Go.Proofs.Ytfelfopcmkeimaa
