/-
  Barriers: the law on plain orders. The order of the list is safe; with a barrier at the first place, that place cannot come last.
-/
import Derived.Test.YtfmkjhkopocokaaBaN
namespace Go.Proofs.Ytfmkjhkopocokaa
open Go.ChangeShapes Go.WideShapes Go.ChangeAt Go.RowKit Go.BigFrame Go.Deep

theorem ints_nodup (n : Nat) : (ints n).Nodup := by
  apply List.pairwise_iff_getElem.2
  intro i j hi hj hij
  rw [ints_get n i hi, ints_get n j hj]
  omega
theorem isOrd_perm {n : Nat} {o : List Int} (h : o.Perm (ints n)) : isOrd n o = true := by
  unfold isOrd
  simp only [Bool.and_eq_true, decide_eq_true_eq]
  refine ⟨⟨by rw [h.length_eq, ints_length], ?_⟩, h.nodup_iff.2 (ints_nodup n)⟩
  apply allB_end
  intro i hi
  have := ints_mem.1 (h.mem_iff.1 (List.getElem_mem hi))
  rw [inB_iff]; omega
/-- the first place comes last -/
def movedO (n : Nat) : List Int := (ints n).drop 1 ++ [0]
theorem movedO_length (n : Nat) (h : 1 ≤ n) : (movedO n).length = n := by simp [movedO, ints_length]; omega
theorem ints_cons (n : Nat) (h : 1 ≤ n) : ints n = 0 :: (ints n).drop 1 := by
  have h0 : 0 < (ints n).length := by rw [ints_length]; omega
  have := List.drop_eq_getElem_cons h0
  rw [List.drop_zero, ints_get n 0 h0] at this
  exact this
theorem movedO_perm (n : Nat) (h : 1 ≤ n) : (movedO n).Perm (ints n) := by
  unfold movedO
  conv => rhs; rw [ints_cons n h]
  exact List.perm_append_singleton _ _
theorem plain_one {l : List It} (h : l.length ≤ 12) : safeR l (ints l.length) = true := by
  rw [safeR_is h (isOrd_perm (List.Perm.refl _))]
  apply safeO_end
  intro a b hb hab
  rw [ints_get _ a (by omega), ints_get _ b hb, clash_nat]
  have : ¬ b < a := by omega
  simp [this]
theorem bar_rep (n : Nat) (i : Nat) : bar (List.replicate n ⟨0, false⟩) i = false := by
  unfold bar
  cases h : (List.replicate n (⟨0, false⟩ : It))[i]? with
  | none => rfl
  | some x =>
    have := List.mem_of_getElem? h
    rw [List.mem_replicate] at this
    rw [this.2]
theorem plain_two {n : Nat} (h : n ≤ 12) (h1 : 1 ≤ n) : safeR (List.replicate n ⟨0, false⟩) (movedO n) = true := by
  have hl : (List.replicate n (⟨0, false⟩ : It)).length = n := List.length_replicate
  rw [safeR_is (by rw [hl]; exact h) (by rw [hl]; exact isOrd_perm (movedO_perm n h1))]
  apply safeO_end
  intro a b hb hab
  unfold clash
  simp [bar_rep]
theorem plain_three {l : List It} (h : l.length ≤ 12) (h1 : 2 ≤ l.length) : safeR (⟨0, true⟩ :: l.drop 1) (movedO l.length) = false := by
  have hl : ((⟨0, true⟩ : It) :: l.drop 1).length = l.length := by simp; omega
  rw [safeR_is (by rw [hl]; exact h) (by rw [hl]; exact isOrd_perm (movedO_perm _ (by omega)))]
  have hm := movedO_length l.length (by omega)
  refine safeO_at (a := 0) (b := l.length - 1) (by omega) (by omega) ?_
  have e0 : (movedO l.length)[0]'(by omega) = 1 := by
    unfold movedO
    rw [List.getElem_append_left (by simp [ints_length]; omega), List.getElem_drop, ints_get _ _ (by rw [ints_length]; omega)]
    rfl
  have e1 : (movedO l.length)[l.length - 1]'(by omega) = 0 := by
    unfold movedO
    rw [List.getElem_append_right (by simp [ints_length])]
    simp
  rw [e0, e1]
  show clash _ ((1 : Nat) : Int) ((0 : Nat) : Int) = true
  rw [clash_nat]
  simp [bar]

theorem wpList_make_fullg {P : Program} (w : World) {ops : Array Oper} {rest : List Oper} {o : Oper} {a : Act} {Q : Exit → Act → World → Prop}
    (hg : Region.wanted o (yielded ops a.tmps) = true) (l c : Operand) (t : TypeId) (hop : o.op = Op.makeSlice t l c)
    (base : Nat) (e : TypeId) (i : TypeInfo) (z : Value) (size : Nat) (h1 : P.underlying t = some (.slice e)) (h2 : P.info? e = some i) (h3 : i.zero = some z) (h4 : i.size = size)
    (kl kc : IntKind) (L C : Int) (n : Nat) (hl : a.eval l = .int kl L) (hc : a.eval c = .int kc C) (hL : L = (n : Int)) (hC : C = (n : Int)) (b2 : i.bytes * n ≤ 281474976710656) (b3 : n ≤ maxLen) (b4 : base ≤ w.heap.size)
    (hK : ∀ w', w'.ownsRow base e size (.slice (some ⟨w.heap.size, 0, none⟩) n n) n (madeCells z.cells (n * size)).toList → w.grownBy w' none → wpList P ops Q rest (a.put o.dst (.slice (some ⟨w.heap.size, 0, none⟩) n n)) w') :
    wpList P ops Q (o :: rest) a w := by
  refine wpList_want hg fun K hK' => ?_
  obtain ⟨w', hrun, r1, r2⟩ := run_make_full (P := P) w base t e i z size h1 h2 h3 h4 kl kc n b2 b3 b4
  subst hL
  subst hC
  unfold Oper.wp
  simp [execOp, hop, hl, hc, hrun, Result.andThen]
  exact hK' _ _ (hK w' r1 r2)

theorem made_it (n : Nat) (h : n ≤ 12) : (madeCells (Value.agg #[.int .i64 0, .bool false]).cells (n * 2)).toList = itC (List.replicate n ⟨0, false⟩) := by
  have : n = 0 ∨ n = 1 ∨ n = 2 ∨ n = 3 ∨ n = 4 ∨ n = 5 ∨ n = 6 ∨ n = 7 ∨ n = 8 ∨ n = 9 ∨ n = 10 ∨ n = 11 ∨ n = 12 := by omega
  rcases this with rfl | rfl | rfl | rfl | rfl | rfl | rfl | rfl | rfl | rfl | rfl | rfl | rfl
  all_goals (show _ = _; kernel_rfl)
set_option maxHeartbeats 1600000 in
theorem lawPlain_walk (z : List Int) (A : Option Addr) (n c : Nat) (w : World) (hl : z.length = n) (hc : n ≤ c) (hcm : c ≤ maxLen) (_ : True) (hB : Bys w w.heap.size A n) :
    Calls Try.prog 8 #[.slice A n c] w fun e w' => e = .returned (.bool true) ∧ Below w.heap.size w w' := by
  clear hl
  have HB := hid_ hB; clear hB
  have HC := hid_ hcm
  have hm : n ≤ 9223372036854775807 := by unfold maxLen at hcm; omega
  clear hcm
  by_cases hbig : (1048576 : Int) < (n : Int)
  · go_enter Try.func8, Try.ntmps8
    go_wp2
    go_returns
    exact ⟨rfl, Below.refl _ _⟩
  have hn20 : n ≤ 1048576 := by omega
  go_enter Try.func8, Try.ntmps8
  go_wp2_with fail
  refine (drawBo_any A n c _ hn20 hc HC.out HB.out).mono ?_
  clear HB HC
  rintro e w1 ⟨l, Al, cl, o, Ao, co, rfl, hl, hcl, hcml, hol, hco, hcmo, hrl, hro, BB⟩
  replace BB := hid_ BB
  have HRl := hid_ (own_rd hrl); clear hrl
  have HRo := hid_ (own_rd hro); clear hro
  have HCl := hid_ hcml; clear hcml
  have HCo := hid_ hcmo; clear hcmo
  have ho13 : o.length ≤ 13 := by omega
  have HOL := hid_ hol; clear hol
  go_wp2_with fail
  refine (implSafe_any l Al l.length cl o Ao o.length co _ rfl (by omega) hcl HCl.out HRl.out rfl (by omega) hco HCo.out HRo.out).mono ?_
  rintro e w2 ⟨rfl, hb_w2⟩
  have hs_hb_w2 := hb_w2.size
  replace BB := hid_ (BB.out.trans (hb_w2.mono BB.out.size))
  replace HRl := hid_ (HRl.out.below hb_w2)
  replace HRo := hid_ (HRo.out.below hb_w2)
  clear hb_w2
  go_wp2_with fail
  refine (specSafe_any l Al l.length cl o Ao o.length co _ rfl (by omega) HRl.out rfl (by omega) HRo.out).mono ?_
  rintro e w3 ⟨rfl, hb_w3⟩
  have hs_hb_w3 := hb_w3.size
  replace BB := hid_ (BB.out.trans (hb_w3.mono BB.out.size))
  replace HRl := hid_ (HRl.out.below hb_w3)
  clear hb_w3
  clear HRo
  by_cases h12 : 12 < l.length
  · have h12z : (12 : Int) < ((l.length : Nat) : Int) := by omega
    go_wp2_with fail
    go_wp2_with fail
    refine (alive_any _).mono ?_
    rintro e w5 ⟨rfl, hbal⟩
    replace BB := hid_ (BB.out.trans (hbal.mono BB.out.size))
    go_wp2
    go_returns
    exact ⟨rfl, BB.out⟩
  by_cases h2 : l.length < 2
  · have h2z : ((l.length : Nat) : Int) < 2 := by omega
    have h12z : ¬ (12 : Int) < ((l.length : Nat) : Int) := by omega
    go_wp2_with fail
    go_wp2_with fail
    refine (alive_any _).mono ?_
    rintro e w5 ⟨rfl, hbal⟩
    replace BB := hid_ (BB.out.trans (hbal.mono BB.out.size))
    go_wp2
    go_returns
    exact ⟨rfl, BB.out⟩
  have P1 := hid_ (plain_one (l := l) (by omega))
  have P2 := hid_ (plain_two (n := l.length) (by omega) (by omega))
  have P3 := hid_ (plain_three (l := l) (by omega) (by omega))
  obtain ⟨n0, hn0⟩ : ∃ n0, l.length = n0 := ⟨_, rfl⟩
  rw [hn0] at HRl h12 h2 P1 P2 P3 hl hcl ⊢
  have HN := hid_ hn0; clear hn0
  have h12z : ¬ (12 : Int) < (n0 : Int) := by omega
  have h2z : ¬ (n0 : Int) < 2 := by omega
  go_wp2
  go_loopw [5, 6] (fun v vk wr => ∃ k : Nat, k ≤ n0 ∧ vk = .int .i64 (k : Int) ∧ wr.ownsRow w3.heap.size 3 1 v k (intC (ints k)) ∧ Below w3.heap.size w3 wr) (fun _ vk _ => n0 - (intOf vk).toNat)
  case atStart => exact ⟨0, by omega, rfl, own_eq (own_empty w3 3 1) rfl rfl, (Below.refl _ _).alloc (Nat.le_refl _) _⟩
  case round =>
    obtain ⟨k, hk, rfl, ho, hbw⟩ := hrel
    have HO := hid_ ho; clear ho
    have hsz := hbw.size
    by_cases hlt : k < n0
    · go_wp2_with (at_builtin; refine wpList_push _ rfl _ _ 38 rfl w3.heap.size 3 (.int .i64 0) 1 8 Try.underlying38 int_info rfl (by decide) (by decide) _ _ rfl rfl _ _ _ HO.out rfl _ rfl (by simp) (by omega) hsz ?_; intro v' w' ho' hg')
      go_roundw
      case rel => exact ⟨k + 1, by omega, by go_num, own_eq ho' rfl (by rw [ints_succ, intC_append]; rfl), below_push hbw HO.out hg' hsz⟩
      case measure => simp [intOf]; omega
    · obtain rfl : k = n0 := by omega
      have hkz : ¬ (k : Int) < (k : Int) := by omega
      obtain ⟨A5, c5, rfl, hc5, hcm5⟩ := own_shape HO.out
      obtain ⟨g5, rfl, hg5B, hg5l, _, _⟩ := own_block HO.out (by omega)
      have HC5 := hid_ hcm5; clear hcm5
      replace BB := hid_ (BB.out.trans (hbw.mono BB.out.size))
      replace HRl := hid_ (HRl.out.below hbw)
      have hRo := own_rd HO.out
      have hdr := hRo.drop (m := 1) (by omega) hc5
      rw [if_neg (by omega), intC_drop_] at hdr
      simp only [Option.map_some, add_mid, Nat.zero_add, Nat.mul_one] at hdr
      have HDR := hid_ hdr; clear hdr hRo
      have hdl := HRl.out.drop (m := 1) (by omega) hcl
      rw [if_neg (by omega), itC_drop] at hdl
      obtain ⟨b1, o1, rfl⟩ : ∃ b o, Al = some ⟨b, o, none⟩ := by obtain ⟨b, o, e, _⟩ := HRl.out.2 (by omega); exact ⟨b, o, e⟩
      simp only [Option.map_some, add_mid, Nat.one_mul] at hdl
      have HDL := hid_ hdl; clear hdl
      have hcl1 : ¬ cl = 1 := by omega
      have hc51 : ¬ c5 = 1 := by omega
      have hk1 : (1 : Int) ≤ (k : Int) := by omega
      go_wp2_with (first
        | ((at_builtin; (with_reducible change wpList _ _ _ (⟨some 47, _, _, _, _, _⟩ :: _) _ _); refine wpList_append_rdg _ rfl _ _ 38 rfl wr.heap.size 3 (.int .i64 0) 1 8 Try.underlying38 int_info rfl (by decide) (by decide) _ _ _ (own_empty wr 3 1) rfl _ _ _ _ (HDR.out.alloc _) rfl (intC_one _) (by omega) (by simp) ?_; intro v47 w47 ho' hg'; have HO47 := hid_ ho'; have HG47 := hid_ hg'; clear ho' hg'); have HB47 := hid_ (below_push ((Below.refl wr.heap.size wr).alloc (Nat.le_refl _) (.cells #[] 3)) (own_empty wr 3 1) HG47.out (by simp)); have hs47 := HB47.out.size)
        | ((at_builtin; (with_reducible change wpList _ _ _ (⟨some 49, _, _, _, _, _⟩ :: _) _ _); refine wpList_append_rdg _ rfl _ _ 38 rfl wr.heap.size 3 (.int .i64 0) 1 8 Try.underlying38 int_info rfl (by decide) (by decide) _ _ _ (HO47.out.alloc _) rfl _ _ _ _ (rd_int1 _ 0 _ rfl) rfl (intC_one [0]) (by omega) (by simp; omega) ?_; intro v49 w49 ho' hg'; have HO49 := hid_ ho'; have HG49 := hid_ hg'; clear ho' hg'); have HB49 := hid_ (below_push (HB47.out.alloc hs47 (.cells #[.int .i64 0] 3)) (HO47.out.alloc _) HG49.out (by simp; omega)); have hs49 := HB49.out.size; have HLIT := hid_ (World.ownsRow_lit (base := w49.heap.size) (e := 33) (size := 2) w49 #[.int .i64 0, .bool true] 1 (Nat.le_refl _) (by simp [maxLen]) rfl); have HLD := hid_ (HDL.out.below HB49.out))
        | ((at_builtin; (with_reducible change wpList _ _ _ (⟨some 54, _, _, _, _, _⟩ :: _) _ _); refine wpList_append_rdg _ rfl _ _ 25 rfl w49.heap.size 33 (.agg #[.int .i64 0, .bool false]) 2 16 Try.underlying25 it_info rfl (by decide) (by decide) _ _ _ HLIT.out rfl _ _ _ _ (HLD.out.alloc _) rfl (itC_one _) (by omega) (by simp) ?_; intro v54 w54 ho' hg'; have HO54 := hid_ ho'; have HG54 := hid_ hg'; clear ho' hg'); have HB54 := hid_ (below_push ((Below.refl w49.heap.size w49).alloc (Nat.le_refl _) (.cells #[.int .i64 0, .bool true] 33)) HLIT.out HG54.out (by simp)))
        | (fail))
      have hO49 := own_eq HO49.out (show 0 + (k - 1) + 1 = k by omega) (show _ = intC (movedO k) by simp [movedO, intC])
      have hO54 := own_eq HO54.out (show 1 + (k - 1) = k by omega) (show _ = itC ((⟨0, true⟩ : It) :: l.drop 1) by rfl)
      have hl54 : ((⟨0, true⟩ : It) :: l.drop 1).length = k := by have := HN.out; simp; omega
      have hl49 : (movedO k).length = k := movedO_length k (by omega)
      obtain ⟨A49, c49, rfl, hc49, hcm49⟩ := own_shape hO49
      obtain ⟨A54, c54, rfl, hc54, hcm54⟩ := own_shape hO54
      have HC49 := hid_ hcm49; clear hcm49
      have HC54 := hid_ hcm54; clear hcm54
      have HL54 := hid_ hl54; clear hl54
      have HL49 := hid_ hl49; clear hl49
      have hbx := HB49.out.trans (HB54.out.mono HB49.out.size)
      have HRm := hid_ (own_rd (own_below hO49 HB54.out)); clear hO49
      have HRf := hid_ (own_rd hO54); clear hO54
      have HRp := hid_ (own_rd (own_below HO.out hbx))
      replace HRl := hid_ (HRl.out.below hbx)
      replace BB := hid_ (BB.out.trans (hbx.mono BB.out.size))
      clear hbx HB54 HB49 HB47 HO49 HO54 HO47 HG47 HG49 HG54 HLIT HLD HDL HDR HO
      refine (implSafe_any l _ k cl (ints k) _ k c5 _ HN.out (by omega) hcl HCl.out HRl.out (ints_length k) (by omega) hc5 HC5.out HRp.out).mono ?_
      rw [P1.out]
      rintro e w6 ⟨rfl, hb6⟩
      have hs_hb6 := hb6.size
      replace BB := hid_ (BB.out.trans (hb6.mono BB.out.size))
      replace HRl := hid_ (HRl.out.below hb6)
      replace HRm := hid_ (HRm.out.below hb6)
      replace HRf := hid_ (HRf.out.below hb6)
      replace HRp := hid_ (HRp.out.below hb6)
      clear hb6
      have hl54' := BB.out.size
      obtain ⟨i0, hi, hz0, hz1, hz2⟩ := info_parts it_info
      go_wp2_with (at_make; refine wpList_make_fullg _ rfl _ _ 25 rfl w6.heap.size 33 i0 _ 2 Try.underlying25 hi hz0 hz1 .i64 .i64 _ _ k rfl rfl rfl rfl (by rw [hz2]; omega) (by simp only [maxLen]; omega) (Nat.le_refl _) ?_; intro w7 ho7 hg7; have HO7 := hid_ (own_eq ho7 rfl (made_it k (by omega))); have HG7 := hid_ hg7; clear ho7 hg7)
      clear hi hz0 hz1 hz2
      have hb7 : Below w6.heap.size w6 w7 := below_of_gb HG7.out (Nat.le_refl _) (fun k h => by cases h)
      replace BB := hid_ (BB.out.trans (hb7.mono BB.out.size))
      replace HRm := hid_ (HRm.out.below hb7)
      replace HRf := hid_ (HRf.out.below hb7)
      clear hb7
      refine (implSafe_any (List.replicate k ⟨0, false⟩) _ k k (movedO k) A49 k c49 _ List.length_replicate (by omega) (Nat.le_refl _) (by unfold maxLen; omega) (own_rd HO7.out) HL49.out (by omega) hc49 HC49.out HRm.out).mono ?_
      rw [P2.out]
      rintro e w8 ⟨rfl, hb8⟩
      have hs_hb8 := hb8.size
      replace BB := hid_ (BB.out.trans (hb8.mono BB.out.size))
      replace HRm := hid_ (HRm.out.below hb8)
      replace HRf := hid_ (HRf.out.below hb8)
      clear hb8
      go_wp2_with fail
      refine (implSafe_any ((⟨0, true⟩ : It) :: l.drop 1) A54 k c54 (movedO k) A49 k c49 _ HL54.out (by omega) hc54 HC54.out HRf.out HL49.out (by omega) hc49 HC49.out HRm.out).mono ?_
      rw [P3.out]
      rintro e w9 ⟨rfl, hb9⟩
      have hs_hb9 := hb9.size
      replace BB := hid_ (BB.out.trans (hb9.mono BB.out.size))
      replace HRm := hid_ (HRm.out.below hb9)
      clear hb9
      go_wp2
      go_returns
      exact ⟨rfl, BB.out⟩

set_option maxRecDepth 100000 in
theorem fnBarrierPlain_lifted (os : Os) (started : os.Started) (H : Type) (enc : TypeId × Value → H) :
    ReturnsInHanded {} Try.checked os 8 .any (Rows.fnBarrierPlainSpec.pre6 enc Try.prog Try.f8 Rows.fnBarrierPlainRow.domain false) (Rows.fnBarrierPlainSpec.post enc Try.prog Try.f8 false true false false) := by
  refine returnsInHanded_of_change (C := Try.checked) own_ started (by kernel_rfl) Try.func8
    (ChangeSpec.witness6 (enc := enc) (C := Try.checked) false ⟨#[], #[.slice none 0 0], []⟩ 8 (by kernel_rfl) (by kernel_rfl) (by kernel_rfl) (by kernel_rfl)) ?_
  intro W base args ds gs before hval0 hW hcnd _
  have hval : ∀ (j : Nat) t v, Try.f8.params[j]? = some t → args[j]? = some v → Value.okWide Try.prog W .any base t v := hval0
  have hW' := hW
  obtain ⟨p, q, hA0, hV, rfl, hfz, hnd⟩ := hW
  have hA : DataW.TrodAll enc Try.prog W 0 (fun _ => true) true Try.f8.params.toList args.toList ds p := hA0
  rw [Try.params8] at hA hval
  obtain ⟨v0, vs0, d0, ds0, p0, q0, hargs, rfl, rfl, h0, r0⟩ := trodAll_cons hA
  obtain ⟨rfl, rfl, rfl⟩ := trodAll_nil r0
  obtain rfl : args = #[v0] := by cases args; simp_all
  obtain ⟨rfl, rfl⟩ := trodVars_none hV
  obtain ⟨a0, len0, cap0, rfl⟩ := okWide_slice Try.underlying29 (hval 0 29 v0 rfl rfl)
  have k0 := h0
  have lt0 : ∀ x ∈ p0, x.block < W.heap.size := by obtain ⟨m, hm⟩ := k0; exact DataW.trod_lt m _ _ _ hm
  obtain ⟨z0, e0, lc0, cm0, w0, rd0⟩ := open_bytes h0
  clear hA0 hval0
  refine (lawPlain_walk z0 a0 len0 cap0 W e0 lc0 cm0 w0 rd0).mono fun e W' ⟨he, bel⟩ => ?_
  subst he
  exact ⟨_, rfl, _, _, _, [], _, [], hW', trodAll_mk1 (shut_bool Try.underlying4 _), (trodAll_cons_mk (Below.trod laidOut_ (by kernel_rfl) (of_decide_eq_true (by kernel_rfl)) k0 bel lt0) trodAll_mk0), rfl, bel.frame _, fun h => by cases h⟩

theorem fnBarrierPlain_holds : Rows.FnBarrierPlainSaid :=
  OpenClaim.holds_of_wide 8 Try.f8 rfl rfl rfl rfl rfl rfl rfl ⟨rfl, rfl, rfl, rfl, rfl⟩ rfl rfl rfl rfl rfl (by kernel_rfl) Try.func8 (by kernel_rfl)
    (of_decide_eq_true (by kernel_rfl)) (by unfold Func.isWrapper; first | (rw [if_pos (by decide +kernel)]; kernel_rfl) | (rw [if_neg (by decide +kernel)]; exact ⟨rfl, rfl⟩))
    (fun os started H enc _ => fnBarrierPlain_lifted os started H enc)

end Go.Proofs.Ytfmkjhkopocokaa
