/-
  Barriers: the walk of the law on the number of orders.
-/
import Derived.Test.YtfmkjhkopocokaaBaI
import Derived.Test.YtfmkjhkopocokaaBaD
namespace Go.Proofs.Ytfmkjhkopocokaa
open Go.ChangeShapes Go.WideShapes Go.ChangeAt Go.RowKit Go.BigFrame Go.Deep

theorem bar_rep (n : Nat) (b : Bool) (i : Nat) (h : i < n) : bar (List.replicate n (⟨0, b⟩ : It)) i = b := by
  rw [bar_get _ i (by simpa using h)]; simp
theorem bar_out (l : List It) (i : Nat) (h : l.length ≤ i) : bar l i = false := by
  unfold bar; rw [List.getElem?_eq_none h]
theorem cnt_facts {l : List It} (h : l.length ≤ 12) : 1 ≤ cntR l ∧ cntR l ≤ fact l.length ∧ (∀ k (hk : k < l.length), cntR (l.set k ⟨l[k].number, true⟩) ≤ cntR l) ∧ cntR (List.replicate l.length ⟨0, false⟩) = fact l.length ∧ cntR (List.replicate l.length ⟨0, true⟩) = 1 := by
  rw [cntR_ok h]
  refine ⟨PN_pos _ _, PN_le _ _, fun k hk => ?_, ?_, ?_⟩
  · rw [cntR_ok (by simpa using h), List.length_set]
    exact PN_mono _ (sz_mono (fun i hi => bar_set rfl i hi))
  · rw [cntR_ok (by simpa using h), List.length_replicate]
    refine PN_free (fun i => ?_) _
    rcases Nat.lt_or_ge i l.length with q | q
    · exact bar_rep _ _ i q
    · exact bar_out _ _ (by simpa using q)
  · rw [cntR_ok (by simpa using h), List.length_replicate]
    exact PN_full _ (fun i hi => bar_rep _ _ i hi)
theorem itC_set1 (l : List It) (k : Nat) (c : Bool) (hk : k < l.length) : (itC l).set (k * 2 + 1) (.bool c) = itC (l.set k ⟨l[k].number, c⟩) := by
  induction l generalizing k with
  | nil => simp at hk
  | cons x r ih =>
    have e : ∀ (y : It) (s : List It), itC (y :: s) = Value.int .i64 y.number :: .bool y.barrier :: itC s := fun y s => rfl
    cases k with
    | zero => simp [e]
    | succ k =>
      have e3 : (k + 1) * 2 + 1 = (k * 2 + 1) + 1 + 1 := by omega
      rw [e, e3]
      simp only [List.set_cons_succ, List.getElem_cons_succ]
      rw [ih k (by simpa using hk), e]
theorem itC_rep (n : Nat) (b : Bool) : itC (List.replicate n (⟨0, b⟩ : It)) ++ [.int .i64 0, .bool b] = itC (List.replicate (n + 1) ⟨0, b⟩) := by
  rw [List.replicate_succ', itC_append]; rfl

/-- two rows of the call's own -/
structure TwoR (w : World) (B E k : Nat) (va : Value) (na : Nat) (xa : List Value) (vb : Value) (nb : Nat) (xb : List Value) : Prop where
  ra : w.ownsRow B E k va na xa
  rb : w.ownsRow B E k vb nb xb
  ap : ∀ g, va.ownBlock = some g → vb.ownBlock ≠ some g
section
variable {w w' : World} {B E k : Nat} {va : Value} {na : Nat} {xa : List Value} {vb : Value} {nb : Nat} {xb : List Value}
theorem TwoR.below (h : TwoR w B E k va na xa vb nb xb) (hb : Below w.heap.size w w') : TwoR w' B E k va na xa vb nb xb := ⟨own_below h.ra hb, own_below h.rb hb, h.ap⟩
theorem TwoR.alloc (h : TwoR w B E k va na xa vb nb xb) (o : Obj) : TwoR (w.alloc o) B E k va na xa vb nb xb := h.below ((Below.refl _ _).alloc (Nat.le_refl _) o)
theorem TwoR.pushA {va' : Value} {na' : Nat} {xa' : List Value} (h : TwoR w B E k va na xa vb nb xb) (ho : w'.ownsRow B E k va' na' xa') (hg : w.grownBy w' va.ownBlock) (hf : ∀ g, va'.ownBlock = some g → va.ownBlock = some g ∨ w.heap.size ≤ g) : TwoR w' B E k va' na' xa' vb nb xb := by
  refine ⟨ho, h.rb.kept hg ?_, fun g e1 e2 => ?_⟩
  · cases hv : vb.ownBlock with
    | none => exact .inl rfl
    | some g => exact .inr (fun e => h.ap g e.symm hv)
  · rcases hf g e1 with h1 | h1
    · exact h.ap g h1 e2
    · have := (h.rb.lt g e2).2; omega
theorem TwoR.pushB {vb' : Value} {nb' : Nat} {xb' : List Value} (h : TwoR w B E k va na xa vb nb xb) (ho : w'.ownsRow B E k vb' nb' xb') (hg : w.grownBy w' vb.ownBlock) (hf : ∀ g, vb'.ownBlock = some g → vb.ownBlock = some g ∨ w.heap.size ≤ g) : TwoR w' B E k va na xa vb' nb' xb' := by
  refine ⟨h.ra.kept hg ?_, ho, fun g e1 e2 => ?_⟩
  · cases hv : va.ownBlock with
    | none => exact .inl rfl
    | some g => exact .inr (fun e => h.ap g hv e.symm)
  · rcases hf g e2 with h1 | h1
    · exact h.ap g e1 h1
    · have := (h.ra.lt g e1).2; omega
end

set_option maxHeartbeats 1600000 in
theorem lawCO_walk (z : List Int) (A : Option Addr) (n c : Nat) (w : World) (hl : z.length = n) (hc : n ≤ c) (hcm : c ≤ maxLen) (_ : True) (hB : Bys w w.heap.size A n) :
    Calls Try.prog 4 #[.slice A n c] w fun e w' => e = .returned (.bool true) ∧ Below w.heap.size w w' := by
  clear hl
  have HB := hid_ hB; clear hB
  have HC := hid_ hcm
  have hm : n ≤ 9223372036854775807 := by unfold maxLen at hcm; omega
  clear hcm
  by_cases hbig : (1048576 : Int) < (n : Int)
  · go_enter Try.func4, Try.ntmps4
    go_wp2
    go_returns
    exact ⟨rfl, Below.refl _ _⟩
  have hn20 : n ≤ 1048576 := by omega
  go_enter Try.func4, Try.ntmps4
  go_wp2_with fail
  refine (drawCO_any A n c _ hn20 hc HC.out HB.out).mono ?_
  clear HB HC
  rintro e w1 ⟨l, Al, cl, rfl, hl, hcl, hcml, hol, BB⟩
  replace BB := hid_ BB
  have HRl := hid_ (own_rd hol); clear hol
  have HCl := hid_ hcml; clear hcml
  obtain ⟨N, hN⟩ : ∃ N, cntR l = N := ⟨_, rfl⟩
  have hN9 := cntR_le l
  have HNo := hid_ (fun h : 12 < l.length => (hN ▸ cntR_no h : N = 0))
  have HF := hid_ (fun h : l.length ≤ 12 => hN ▸ cnt_facts h)
  rw [hN] at hN9
  have HN := hid_ hN; clear hN
  go_wp2_with fail
  refine (implCnt_any l Al l.length cl _ rfl (by omega) HRl.out).mono ?_
  rw [HN.out]
  rintro e w2 ⟨rfl, hb2⟩
  have hs_hb2 := hb2.size
  replace BB := hid_ (BB.out.trans (hb2.mono BB.out.size))
  replace HRl := hid_ (HRl.out.below hb2)
  clear hb2
  go_wp2_with fail
  refine (specCnt_any l Al l.length cl _ rfl (by omega) HRl.out).mono ?_
  rw [HN.out]
  rintro e w3 ⟨rfl, hb3⟩
  have hs_hb3 := hb3.size
  replace BB := hid_ (BB.out.trans (hb3.mono BB.out.size))
  replace HRl := hid_ (HRl.out.below hb3)
  clear hb3
  have hq : (N != N) = false := by simp
  by_cases h12 : 12 < l.length
  · have h12z : (12 : Int) < (l.length : Int) := by omega
    have hN0 := HNo.out h12
    subst hN0
    clear HNo HF HN
    go_wp2_with fail
    go_wp2_with fail
    refine (alive_any _).mono ?_
    rintro e w5 ⟨rfl, hbal⟩
    replace BB := hid_ (BB.out.trans (hbal.mono BB.out.size))
    go_wp2
    go_returns
    exact ⟨rfl, BB.out⟩
  · have h12z : ¬ ((12 : Int) < (l.length : Int)) := by omega
    obtain ⟨f1, f2, f3, f4, f5⟩ := HF.out (by omega)
    have F3 := hid_ f3; clear f3
    have F4 := hid_ f4; clear f4
    have F5 := hid_ f5; clear f5
    have hfm := fact12 (n := l.length) (by omega)
    clear HNo HF HN
    have HT0 := hid_ (show TwoR ((w3.alloc (.cells #[] 33)).alloc (.cells #[] 33)) w3.heap.size 33 2 (.slice (some ⟨w3.heap.size, 0, none⟩) 0 0) 0 (itC (List.replicate 0 ⟨0, false⟩)) (.slice (some ⟨w3.heap.size + 1, 0, none⟩) 0 0) 0 (itC (List.replicate 0 ⟨0, true⟩)) from
      ⟨(own_empty w3 33 2).alloc _, own_base (own_empty_at (w3.alloc (.cells #[] 33)) 33 2 (w3.heap.size + 1) (by simp)) (by omega), fun g e1 e2 => by simp [Value.ownBlock] at e1 e2; omega⟩)
    go_wp2
    go_loopw [5, 6, 7, 8] (fun va vb vm vi wr => ∃ k T : Nat, k ≤ l.length ∧ vi = .int .i64 k ∧ vm = .int .i64 T ∧ Hid (T = fact k) ∧ TwoR wr w3.heap.size 33 2 va k (itC (List.replicate k ⟨0, false⟩)) vb k (itC (List.replicate k ⟨0, true⟩)) ∧ Below w3.heap.size w3 wr) (fun _ _ _ vi _ => l.length - (intOf vi).toNat)
    case atStart => exact ⟨0, 1, Nat.zero_le _, rfl, rfl, rfl, HT0.out, ((Below.refl _ _).alloc (Nat.le_refl _) _).alloc (by simp) _⟩
    case round =>
      clear HT0
      obtain ⟨k, T, hk, rfl, rfl, HTk, ht, hb⟩ := hrel
      have HT := hid_ ht; clear ht
      have HB := hid_ hb; clear hb
      have hbs := HB.out.size
      by_cases hlt : k < l.length
      · obtain ⟨V, hV⟩ : ∃ V, fact (k + 1) = V := ⟨_, rfl⟩
        have hVb := fact12 (n := k + 1) (by omega)
        rw [hV] at hVb
        have HV := hid_ hV.symm; clear hV
        have hmul : (T : Int) * ((k : Int) + 1) = (V : Int) := by
          rw [HV.out, HTk.out]
          show _ = ((fact k * (k + 1) : Nat) : Int)
          rw [Int.natCast_mul]; rfl
        have hcnt := F3.out k hlt
        obtain ⟨l2, hl2⟩ : ∃ l2, l.set k ⟨l[k].number, true⟩ = l2 := ⟨_, rfl⟩
        have hl2l : l2.length = l.length := by rw [← hl2]; simp
        rw [hl2] at hcnt
        obtain ⟨M, hM⟩ : ∃ M, cntR l2 = M := ⟨_, rfl⟩
        rw [hM] at hcnt
        have HM := hid_ hM; clear hM
        have HL2 := hid_ hl2l; clear hl2l
        have HSET := hid_ ((itC_set1 l k true hlt).trans (by rw [hl2])); clear hl2
        have hdd : decide (N < M) = false := decide_eq_false (by omega)
        go_wp2_with (first
          | (at_builtin; (with_reducible change wpList _ _ _ (⟨some 40, _, _, _, _, _⟩ :: _) _ _); refine wpList_push_at _ rfl _ _ 25 rfl w3.heap.size 33 (.agg #[.int .i64 0, .bool false]) 2 16 Try.underlying25 it_info rfl (by decide) (by decide) _ _ rfl rfl _ _ _ HT.out.ra rfl _ rfl (by simp) (by omega) hbs ?_; intro v40 w40 ho40 hg40 hf40; have HT40 := hid_ (HT.out.pushA ho40 hg40 hf40); have HB40 := hid_ (below_push HB.out HT.out.ra hg40 hbs); have hs40 := HB40.out.size; clear ho40 hg40 hf40)
          | (at_builtin; (with_reducible change wpList _ _ _ (⟨some 44, _, _, _, _, _⟩ :: _) _ _); refine wpList_push_at _ rfl _ _ 25 rfl w3.heap.size 33 (.agg #[.int .i64 0, .bool false]) 2 16 Try.underlying25 it_info rfl (by decide) (by decide) _ _ rfl rfl _ _ _ HT40.out.rb rfl _ rfl (by simp) (by omega) hs40 ?_; intro v44 w44 ho44 hg44 hf44; have HT44 := hid_ (HT40.out.pushB ho44 hg44 hf44); have HB44 := hid_ (below_push HB40.out HT40.out.rb hg44 hs40); have hs44 := HB44.out.size; clear ho44 hg44 hf44)
          | ((at_builtin; (with_reducible change wpList _ _ _ (⟨some 51, _, _, _, _, _⟩ :: _) _ _); refine wpList_append_rdg _ rfl _ _ 25 rfl w44.heap.size 33 (.agg #[.int .i64 0, .bool false]) 2 16 Try.underlying25 it_info rfl (by decide) (by decide) _ _ _ (own_empty w44 33 2) rfl _ _ _ _ ((HRl.out.below HB44.out).alloc _) rfl (itC_one l) (by omega) (by simp) ?_; intro v51 w51 ho' hg'; have HO51 := hid_ ho'; have HG51 := hid_ hg'; clear ho' hg'); have ho51 := own_eq HO51.out (Nat.zero_add _) (List.nil_append _); have HB51 := hid_ (below_push ((Below.refl w44.heap.size w44).alloc (Nat.le_refl _) (.cells #[] 33)) (own_empty w44 33 2) HG51.out (by simp)); clear HO51 HG51; obtain ⟨g51, c51, rfl, hB51, hl51⟩ := ho51.form (by omega); obtain ⟨_, q51, f51⟩ := own_store ho51 (k * 2 + 1) (by omega); have HS51 := hid_ ((ho51.stored (k * 2 + 1) (.bool true)).1); clear ho51))
        have HR51 := own_rd HS51.out
        rw [HSET.out] at HR51
        have HR51 := hid_ HR51
        refine (implCnt_any l2 _ l.length c51 _ HL2.out (by omega) HR51.out).mono ?_
        rw [HM.out]
        rintro e w57 ⟨rfl, hb57⟩
        have hB51s := HB51.out.size
        have HBn := hid_ ((HB51.out.setCell (p := ⟨g51, k * 2 + 1, none⟩) hB51 (.bool true)).trans (hb57.mono (by simp; omega)))
        clear hb57 HB51
        go_wp2
        go_roundw
        case rel =>
          refine ⟨k + 1, V, by omega, by go_num, by go_num, HV.out, ?_, HB44.out.trans (HBn.out.mono hs44)⟩
          have := HT44.out.below HBn.out
          rw [← itC_rep, ← itC_rep]
          exact this
        case measure => exact meas_ hlt
      · obtain rfl : k = l.length := by omega
        obtain ⟨Af, cf, rfl, hcf, hcmf⟩ := own_shape HT.out.ra
        obtain ⟨Ab, cb, rfl, hcb, hcmb⟩ := own_shape HT.out.rb
        have HCM := hid_ (And.intro hcmf hcmb); clear hcmf hcmb
        have HRf := hid_ (own_rd HT.out.ra)
        have HRb := hid_ (own_rd HT.out.rb)
        clear HT
        replace BB := hid_ (BB.out.trans (HB.out.mono BB.out.size)); clear HB
        rw [← HTk.out] at f2 F4 hfm
        clear HTk
        go_wp2_with fail
        refine (implCnt_any _ Af l.length cf _ (by simp) (by omega) HRf.out).mono ?_
        rw [F4.out]
        rintro e w5 ⟨rfl, hb5⟩
        have hs_hb5 := hb5.size
        replace BB := hid_ (BB.out.trans (hb5.mono BB.out.size))
        replace HRb := hid_ (HRb.out.below hb5)
        clear hb5
        have hTT : (T == T) = true := by simp
        go_wp2_with fail
        refine (implCnt_any _ Ab l.length cb _ (by simp) (by omega) HRb.out).mono ?_
        rw [F5.out]
        rintro e w6 ⟨rfl, hb6⟩
        have hs_hb6 := hb6.size
        replace BB := hid_ (BB.out.trans (hb6.mono BB.out.size))
        clear hb6
        have hg1 : decide (1 ≤ N) = true := decide_eq_true f1
        have hg2 : decide (N ≤ T) = true := decide_eq_true f2
        go_wp2
        go_returns
        exact ⟨rfl, BB.out⟩

set_option maxRecDepth 100000 in
theorem fnCountOrders_lifted (os : Os) (started : os.Started) (H : Type) (enc : TypeId × Value → H) :
    ReturnsInHanded {} Try.checked os 4 .any (Rows.fnCountOrdersSpec.pre6 enc Try.prog Try.f4 Rows.fnCountOrdersRow.domain false) (Rows.fnCountOrdersSpec.post enc Try.prog Try.f4 false true false false) := by
  refine returnsInHanded_of_change (C := Try.checked) own_ started (by kernel_rfl) Try.func4
    (ChangeSpec.witness6 (enc := enc) (C := Try.checked) false ⟨#[], #[.slice none 0 0], []⟩ 8 (by kernel_rfl) (by kernel_rfl) (by kernel_rfl) (by kernel_rfl)) ?_
  intro W base args ds gs before hval0 hW hcnd _
  have hval : ∀ (j : Nat) t v, Try.f4.params[j]? = some t → args[j]? = some v → Value.okWide Try.prog W .any base t v := hval0
  have hW' := hW
  obtain ⟨p, q, hA0, hV, rfl, hfz, hnd⟩ := hW
  have hA : DataW.TrodAll enc Try.prog W 0 (fun _ => true) true Try.f4.params.toList args.toList ds p := hA0
  rw [Try.params4] at hA hval
  obtain ⟨v0, vs0, d0, ds0, p0, q0, hargs, rfl, rfl, h0, r0⟩ := trodAll_cons hA
  obtain ⟨rfl, rfl, rfl⟩ := trodAll_nil r0
  obtain rfl : args = #[v0] := by cases args; simp_all
  obtain ⟨rfl, rfl⟩ := trodVars_none hV
  obtain ⟨a0, len0, cap0, rfl⟩ := okWide_slice Try.underlying29 (hval 0 29 v0 rfl rfl)
  have k0 := h0
  have lt0 : ∀ x ∈ p0, x.block < W.heap.size := by obtain ⟨m, hm⟩ := k0; exact DataW.trod_lt m _ _ _ hm
  obtain ⟨z0, e0, lc0, cm0, w0, rd0⟩ := open_bytes h0
  clear hA0 hval0
  refine (lawCO_walk z0 a0 len0 cap0 W e0 lc0 cm0 w0 rd0).mono fun e W' ⟨he, bel⟩ => ?_
  subst he
  exact ⟨_, rfl, _, _, _, [], _, [], hW', trodAll_mk1 (shut_bool Try.underlying4 _), (trodAll_cons_mk (Below.trod laidOut_ (by kernel_rfl) (of_decide_eq_true (by kernel_rfl)) k0 bel lt0) trodAll_mk0), rfl, bel.frame _, fun h => by cases h⟩

theorem fnCountOrders_holds : Rows.FnCountOrdersSaid :=
  OpenClaim.holds_of_wide 4 Try.f4 rfl rfl rfl rfl rfl rfl rfl ⟨rfl, rfl, rfl, rfl, rfl⟩ rfl rfl rfl rfl rfl (by kernel_rfl) Try.func4 (by kernel_rfl)
    (of_decide_eq_true (by kernel_rfl)) (by unfold Func.isWrapper; first | (rw [if_pos (by decide +kernel)]; kernel_rfl) | (rw [if_neg (by decide +kernel)]; exact ⟨rfl, rfl⟩))
    (fun os started H enc _ => fnCountOrders_lifted os started H enc)

end Go.Proofs.Ytfmkjhkopocokaa
