/-
  Barriers: the law on durable items.
-/
import Derived.Test.YtfmkjhkopocokaaDuA
import Derived.Test.YtfmkjhkopocokaaDuB
namespace Go.Proofs.Ytfmkjhkopocokaa
open Go.ChangeShapes Go.WideShapes Go.ChangeAt Go.RowKit Go.BigFrame Go.Deep

theorem sameInts_self (l : List Int) (A A' : Option Addr) (n n' c c' : Nat) (w : World) (hn : l.length = n) (hn' : l.length = n') (hm : n ≤ maxLen) (hR : Rd w 1 A n (intC l)) (hR' : Rd w 1 A' n' (intC l)) :
    Calls Try.prog 37 #[.slice A n c, .slice A' n' c'] w fun e w' => e = .returned (.bool true) ∧ Below w.heap.size w w' := by
  have hm' : n' ≤ maxLen := by rw [← hn', hn]; exact hm
  simpa using sameInts_any l l A A' n n' c c' w hn hn' hm hm' hR hR'
theorem durN_hit {l : List It} {o : List Int} (hpos : ∀ x ∈ o, 0 ≤ x) : ∀ k, k ≤ o.length → 0 < durN l (o.take k) → bar l (durN l (o.take k) - 1) = true ∧ ∃ j, ∃ h : j < o.length, j < k ∧ o[j] = ((durN l (o.take k) - 1 : Nat) : Int) := by
  intro k
  induction k with
  | zero => intro _ h; simp [durN] at h
  | succ k ih =>
    intro hk h
    have hko : k < o.length := by omega
    obtain ⟨x, hx⟩ := Int.eq_ofNat_of_zero_le (hpos _ (List.getElem_mem hko))
    have ht := durN_take l o k x hko hx
    have ih' := ih (by omega)
    by_cases hb : bar l x = true
    · rw [if_pos hb] at ht
      by_cases hm : durN l (o.take k) ≤ x + 1
      · have e : durN l (o.take (k + 1)) = x + 1 := ht.trans (Nat.max_eq_right hm)
        rw [e]
        exact ⟨hb, k, hko, by omega, hx⟩
      · have e : durN l (o.take (k + 1)) = durN l (o.take k) := ht.trans (Nat.max_eq_left (Nat.le_of_not_le hm))
        rw [e] at h ⊢
        obtain ⟨h1, j, h2, h3, h4⟩ := ih' h
        exact ⟨h1, j, h2, by omega, h4⟩
    · rw [if_neg hb] at ht
      rw [ht] at h ⊢
      obtain ⟨h1, j, h2, h3, h4⟩ := ih' h
      exact ⟨h1, j, h2, by omega, h4⟩
theorem durN_mono (l : List It) {o : List Int} (hpos : ∀ x ∈ o, 0 ≤ x) (k : Nat) : durN l (o.take k) ≤ durN l (o.take (k + 1)) := by
  by_cases hko : k < o.length
  · obtain ⟨x, hx⟩ := Int.eq_ofNat_of_zero_le (hpos _ (List.getElem_mem hko))
    rw [durN_take l o k x hko hx]
    split <;> omega
  · rw [List.take_of_length_le (by omega), List.take_of_length_le (by omega)]
    exact Nat.le_refl _
/-- x stands among the first j -/
def fndB (o : List Int) (j : Nat) (x : Int) : Bool := decide (x ∈ o.take j)
theorem fndB_zero (o : List Int) (x : Int) : fndB o 0 x = false := by simp [fndB]
theorem fndB_succ (o : List Int) (j : Nat) (x : Int) (h : j < o.length) : fndB o (j + 1) x = (fndB o j x || (o[j] == x)) := by
  unfold fndB
  rw [List.take_add_one, List.getElem?_eq_getElem h, Option.toList_some]
  simp only [List.mem_append, List.mem_singleton, Bool.decide_or]
  congr 1
  by_cases e : o[j] = x
  · simp [e]
  · have e2 : ¬ x = o[j] := fun h => e h.symm
    simp [e, e2]

theorem dur_facts {l : List It} {o : List Int} {dn : Int} (hp : 0 < (durR l o dn).length) :
    ∃ d M : Nat, dn = (d : Int) ∧ d ≤ l.length ∧ o.length = l.length ∧ l.length ≤ 12 ∧ durR l o dn = ints M ∧ (∀ k : Nat, k < M → fndB o d (k : Int) = true) ∧ 0 < M ∧ M ≤ l.length ∧ bar l (M - 1) = true ∧ ∀ z : Int, z = min (l.length : Int) ((d : Int) + 1) → M ≤ (durR l o z).length := by
  cases hok : duOk l o dn
  · rw [durR_no hok] at hp; simp at hp
  obtain ⟨q0, q1⟩ := duOk_parts hok
  obtain ⟨h12, hord, hsafe⟩ := safeR_parts q0
  have hlen := (isOrd_parts hord).1
  have hmem := isOrd_mem hord
  have hperm := isOrd_perm' hord
  have bd := inB_iff.1 q1
  obtain ⟨d, rfl⟩ := Int.eq_ofNat_of_zero_le bd.1
  have hR := durR_ok hok
  rw [show ((d : Nat) : Int).toNat = d from rfl] at hR
  rw [hR, ints_length] at hp
  have hpos : ∀ x ∈ o, 0 ≤ x := fun x hx => (hmem x hx).1
  have hle := durN_le l (o.take d) l.length (fun x hx => hmem x (List.mem_of_mem_take hx))
  obtain ⟨hb, jc, hjc, hjd, hje⟩ := durN_hit (l := l) hpos d (by omega) hp
  refine ⟨d, durN l (o.take d), rfl, by omega, hlen, h12, hR, fun k hk => ?_, hp, hle, hb, fun z hz => ?_⟩
  · have hko : (k : Int) ∈ o := hperm.mem_iff.2 (ints_mem.2 (by omega))
    obtain ⟨p, hpl, hpe⟩ := List.getElem_of_mem hko
    have hpd : p < d := by
      rcases Nat.lt_or_ge p d with q | q
      · exact q
      exfalso
      unfold safeO at hsafe
      rw [decide_eq_true_eq] at hsafe
      have := List.pairwise_iff_getElem.1 hsafe jc p hjc hpl (by omega)
      rw [hje, hpe, clash_nat] at this
      have hkc : k < durN l (o.take d) - 1 := by
        rcases Nat.lt_or_ge k (durN l (o.take d) - 1) with q2 | q2
        · exact q2
        exfalso
        have e : k = durN l (o.take d) - 1 := by omega
        have hnd := List.pairwise_iff_getElem.1 (isOrd_parts hord).2.2 jc p hjc hpl (by omega)
        rw [hje, hpe] at hnd
        exact hnd (by rw [e])
      simp [hkc, hb] at this
    unfold fndB
    rw [decide_eq_true_eq]
    apply List.mem_iff_getElem.2
    exact ⟨p, by rw [List.length_take]; omega, by rw [List.getElem_take]; exact hpe⟩
  · have hz0 : 0 ≤ z ∧ z ≤ (l.length : Int) := by omega
    have hok2 : duOk l o z = true := by
      unfold duOk
      rw [q0, Bool.true_and, inB_iff]
      exact hz0
    rw [durR_ok hok2, ints_length]
    by_cases hdl : d + 1 ≤ l.length
    · have e : z.toNat = d + 1 := by omega
      rw [e]
      exact durN_mono l hpos d
    · have e : z.toNat = d := by omega
      rw [e]
      exact Nat.le_refl _

set_option maxRecDepth 20000 in
set_option maxHeartbeats 1600000 in
theorem lawDur_walk (z : List Int) (A : Option Addr) (n c : Nat) (w : World) (hl : z.length = n) (hc : n ≤ c) (hcm : c ≤ maxLen) (_ : True) (hB : Bys w w.heap.size A n) :
    Calls Try.prog 11 #[.slice A n c] w fun e w' => e = .returned (.bool true) ∧ Below w.heap.size w w' := by
  clear hl
  have HB := hid_ hB; clear hB
  have HC := hid_ hcm
  have hm : n ≤ 9223372036854775807 := by unfold maxLen at hcm; omega
  clear hcm
  by_cases hbig : (1048576 : Int) < (n : Int)
  · go_enter Try.func11, Try.ntmps11
    go_wp2
    go_returns
    exact ⟨rfl, Below.refl _ _⟩
  have hn20 : n ≤ 1048576 := by omega
  go_enter Try.func11, Try.ntmps11
  go_wp2_with fail
  refine (drawDu_any A n c _ hn20 hc HC.out HB.out).mono ?_
  clear HB HC
  rintro e w1 ⟨l, Al, cl, o, Aq, cq, dn, rfl, hl, hcl, hcml, hol, hcq, hcmq, hd0, hd1, hrl, hrq, BB⟩
  replace BB := hid_ BB
  have HRl := hid_ (own_rd hrl); clear hrl
  have HRq := hid_ (own_rd hrq); clear hrq
  have HCl := hid_ hcml; clear hcml
  have HCq := hid_ hcmq; clear hcmq
  have HF := hid_ (dur_facts (l := l) (o := o) (dn := dn))
  have hXl := durR_length l o dn
  obtain ⟨X, hX⟩ : ∃ X, durR l o dn = X := ⟨_, rfl⟩
  rw [hX] at HF hXl
  have HX := hid_ hX; clear hX
  go_wp2_with fail
  refine (implDur_any l Al l.length cl o Aq o.length cq dn _ rfl (by omega) hcl HCl.out HRl.out rfl (by omega) hcq HCq.out HRq.out).mono ?_
  rw [HX.out]
  rintro e w2 ⟨Ao, co, rfl, -, -, hoo, hbo⟩
  have HRo := hid_ (own_rd hoo); clear hoo
  have hs_hbo := hbo.size
  replace BB := hid_ (BB.out.trans (hbo.mono BB.out.size))
  replace HRl := hid_ (HRl.out.below hbo)
  replace HRq := hid_ (HRq.out.below hbo)
  clear hbo
  go_wp2_with fail
  refine (specDur_any l Al l.length cl o Aq o.length cq dn _ rfl (by omega) HRl.out rfl (by omega) HRq.out).mono ?_
  rw [HX.out]
  rintro e w3 ⟨Ap, cp, rfl, -, -, hop, hbp⟩
  have HRp := hid_ (own_rd hop); clear hop
  have hs_hbp := hbp.size
  replace BB := hid_ (BB.out.trans (hbp.mono BB.out.size))
  replace HRl := hid_ (HRl.out.below hbp)
  replace HRq := hid_ (HRq.out.below hbp)
  replace HRo := hid_ (HRo.out.below hbp)
  clear hbp
  go_wp2_with fail
  refine (sameInts_self X Ao Ap _ _ _ _ _ rfl rfl (by unfold maxLen; omega) HRo.out HRp.out).mono ?_
  rintro e w4 ⟨rfl, hb_w4⟩
  have hs_hb_w4 := hb_w4.size
  replace BB := hid_ (BB.out.trans (hb_w4.mono BB.out.size))
  replace HRl := hid_ (HRl.out.below hb_w4)
  replace HRq := hid_ (HRq.out.below hb_w4)
  replace HRo := hid_ (HRo.out.below hb_w4)
  clear hb_w4
  clear HRp
  by_cases h0 : X.length = 0
  · have hX0 : X = [] := List.eq_nil_of_length_eq_zero h0
    subst hX0
    simp only [List.length_nil] at *
    go_wp2_with fail
    go_wp2_with fail
    refine (alive_any _).mono ?_
    rintro e w5 ⟨rfl, hbal⟩
    replace BB := hid_ (BB.out.trans (hbal.mono BB.out.size))
    go_wp2
    go_returns
    exact ⟨rfl, BB.out⟩
  obtain ⟨d, M, hde, hdl, hoe, h12, hXM, f1, hM0, hMl, f2, f3⟩ := HF.out (by omega)
  clear HF
  subst hde
  subst hXM
  have HF1 := hid_ f1; clear f1
  have HF2 := hid_ f2; clear f2
  have HF3 := hid_ f3; clear f3
  clear hXl HX
  rw [ints_length] at HRo h0 ⊢
  rw [hoe] at HRq hcq ⊢
  have HOE := hid_ hoe; clear hoe hol
  obtain ⟨n0, hn0⟩ : ∃ n0, l.length = n0 := ⟨_, rfl⟩
  rw [hn0] at HRl HRq hl hcl hcq hdl h12 hMl HOE HF3 ⊢
  have HN := hid_ hn0; clear hn0
  have hz : ((M : Int) == 0) = false := by rw [beq_eq_false_iff_ne]; omega
  clear h0 hd0 hd1
  go_wp2
  go_loopw [7] (fun vk wr => ∃ k : Nat, k ≤ M ∧ vk = .int .i64 (k : Int) ∧ Below w4.heap.size w4 wr) (fun vk _ => M - (intOf vk).toNat)
  case atStart => exact ⟨0, Nat.zero_le _, rfl, Below.refl _ _⟩
  case round =>
    obtain ⟨k, hk, rfl, hbw⟩ := hrel
    by_cases hlt : k < M
    · have HFK := hid_ (HF1.out k hlt)
      have HFS := hid_ (fun j (h : j < o.length) => fndB_succ o j (k : Int) h)
      have HFZ := hid_ (fndB_zero o (k : Int))
      have hkz : (k : Int) < (M : Int) := by omega
      go_wp2
      go_loopw [8, 9] (fun vf vj wr => ∃ (j : Nat) (b : Bool), j ≤ d ∧ vj = .int .i64 (j : Int) ∧ vf = .bool b ∧ b = fndB o j (k : Int) ∧ Below w4.heap.size w4 wr) (fun _ vj _ => d - (intOf vj).toNat)
      case atStart => exact ⟨0, false, Nat.zero_le _, rfl, rfl, HFZ.out.symm, hbw⟩
      case round =>
        obtain ⟨j, b, hj, rfl, rfl, hb, hbw2⟩ := hrel
        have HB := hid_ hb; clear hb
        obtain ⟨bo, oo, rfl, hck⟩ := (HRo.out.below hbw2).int k hlt (ints_length M)
        rw [ints_get] at hck
        by_cases hlj : j < d
        · have hs := HFS.out j (by rw [HOE.out]; omega)
          rw [← HB.out] at hs
          have hjz : (j : Int) < (d : Int) := by omega
          have hjn : j < n0 := by omega
          have hjnz : (j : Int) < (n0 : Int) := by omega
          obtain ⟨bq, oq, rfl, hcx⟩ := (HRq.out.below hbw2).int j hjn HOE.out
          obtain ⟨x, hx⟩ : ∃ x, o[j]'(by rw [HOE.out]; exact hjn) = x := ⟨_, rfl⟩
          rw [hx] at hcx hs
          clear hx
          cases b
          · by_cases hxk : x = (k : Int)
            · subst hxk
              have HS := hid_ (show fndB o (j + 1) (k : Int) = true from hs.trans (by simp)); clear hs
              go_wp2
              go_quiet (fail)
              go_wp2
              go_roundw
              case rel => exact ⟨j + 1, true, by omega, by go_num, rfl, HS.out.symm, bdN hbw2 _⟩
              case measure => exact meas_ hlj
            · have hne : (x == (k : Int)) = false := by rw [beq_eq_false_iff_ne]; exact hxk
              rw [hne] at hs
              have HS := hid_ hs; clear hs hxk
              go_wp2
              go_quiet (fail)
              go_wp2
              go_roundw
              case rel => exact ⟨j + 1, false, by omega, by go_num, rfl, HS.out.symm, bdN hbw2 _⟩
              case measure => exact meas_ hlj
          · have HS := hid_ (hs.trans (Bool.true_or _)); clear hs
            go_wp2
            go_quiet (fail)
            go_wp2
            go_roundw
            case rel => exact ⟨j + 1, true, by omega, by go_num, rfl, HS.out.symm, bdN hbw2 _⟩
            case measure => exact meas_ hlj
        · obtain rfl : j = d := by omega
          have hb : b = true := HB.out.trans HFK.out
          subst hb
          have hjz : ¬ (j : Int) < (j : Int) := by omega
          go_wp2
          go_roundw
          case rel => exact ⟨k + 1, by omega, by go_num, hbw2⟩
          case measure => exact meas_ hlt
    · obtain rfl : k = M := by omega
      have hkz : ¬ (k : Int) < (k : Int) := by omega
      replace BB := hid_ (BB.out.trans (hbw.mono BB.out.size))
      replace HRl := hid_ (HRl.out.below hbw)
      replace HRq := hid_ (HRq.out.below hbw)
      replace HRo := hid_ (HRo.out.below hbw)
      clear hbw
      obtain ⟨mn, hmn⟩ : ∃ mn, min (n0 : Int) ((d : Int) + 1) = mn := ⟨_, rfl⟩
      have f3 := HF3.out mn hmn.symm
      obtain ⟨L1, hL1⟩ : ∃ L1, durR l o mn = L1 := ⟨_, rfl⟩
      rw [hL1] at f3
      have hL1l : L1.length ≤ n0 := by rw [← hL1, ← HN.out]; exact durR_length l o mn
      have E1 := hid_ (show ∀ z, z = mn → durR l o z = L1 from fun z hz => by rw [hz]; exact hL1)
      clear hL1 HF3
      obtain ⟨q, hq⟩ : ∃ q, k - 1 = q := ⟨_, rfl⟩
      have hqk : q < k := by omega
      have hsub : ((k : Int) - 1).toNat = q := by omega
      have hqn : q < n0 := by omega
      have hf2 := HF2.out
      rw [hq] at hf2
      clear HF2
      have HF2 := hid_ hf2; clear hf2
      have HQ := hid_ hq; clear hq
      have hm1 := hmn; clear hmn
      have hkL : (k : Int) ≤ (L1.length : Int) := by omega
      have hkd : decide ((k : Int) ≤ (L1.length : Int)) = true := by simpa using f3
      rcases (by omega : ((d : Int) + 1 < (n0 : Int) ∧ mn = (d : Int) + 1) ∨ (¬ (d : Int) + 1 < (n0 : Int) ∧ mn = (n0 : Int))) with ⟨q1, rfl⟩ | ⟨q1, rfl⟩
      all_goals
        clear hm1
        go_wp2_with fail
        refine (implDur_any l Al n0 cl o Aq n0 cq _ _ HN.out (by omega) hcl HCl.out HRl.out HOE.out (by omega) hcq HCq.out HRq.out).mono ?_
        rw [E1.out]
        rotate_left
        · omega
        rintro e w5 ⟨A5, c5, rfl, -, -, -, hb5⟩
        have hs_hb5 := hb5.size
        replace BB := hid_ (BB.out.trans (hb5.mono BB.out.size))
        replace HRl := hid_ (HRl.out.below hb5)
        replace HRo := hid_ (HRo.out.below hb5)
        clear hb5
        clear E1 HRq
        obtain ⟨bo, oo, rfl, hck⟩ := HRo.out.int q hqk (ints_length k)
        rw [ints_get] at hck
        obtain ⟨bl, ol, rfl⟩ : ∃ b o, Al = some ⟨b, o, none⟩ := by
          obtain ⟨b, o, e, _⟩ := HRl.out.2 (by omega)
          exact ⟨b, o, e⟩
        have hbc := HRl.out.itb q hqn HN.out
        rw [HF2.out] at hbc
        have hqz : (q : Int) < (n0 : Int) := by omega
        go_wp2
        go_returns
        exact ⟨rfl, BB.out⟩

set_option maxRecDepth 100000 in
theorem fnDurableItems_lifted (os : Os) (started : os.Started) (H : Type) (enc : TypeId × Value → H) :
    ReturnsInHanded {} Try.checked os 11 .any (Rows.fnDurableItemsSpec.pre6 enc Try.prog Try.f11 Rows.fnDurableItemsRow.domain false) (Rows.fnDurableItemsSpec.post enc Try.prog Try.f11 false true false false) := by
  refine returnsInHanded_of_change (C := Try.checked) own_ started (by kernel_rfl) Try.func11
    (ChangeSpec.witness6 (enc := enc) (C := Try.checked) false ⟨#[], #[.slice none 0 0], []⟩ 8 (by kernel_rfl) (by kernel_rfl) (by kernel_rfl) (by kernel_rfl)) ?_
  intro W base args ds gs before hval0 hW hcnd _
  have hval : ∀ (j : Nat) t v, Try.f11.params[j]? = some t → args[j]? = some v → Value.okWide Try.prog W .any base t v := hval0
  have hW' := hW
  obtain ⟨p, q, hA0, hV, rfl, hfz, hnd⟩ := hW
  have hA : DataW.TrodAll enc Try.prog W 0 (fun _ => true) true Try.f11.params.toList args.toList ds p := hA0
  rw [Try.params11] at hA hval
  obtain ⟨v0, vs0, d0, ds0, p0, q0, hargs, rfl, rfl, h0, r0⟩ := trodAll_cons hA
  obtain ⟨rfl, rfl, rfl⟩ := trodAll_nil r0
  obtain rfl : args = #[v0] := by cases args; simp_all
  obtain ⟨rfl, rfl⟩ := trodVars_none hV
  obtain ⟨a0, len0, cap0, rfl⟩ := okWide_slice Try.underlying29 (hval 0 29 v0 rfl rfl)
  have k0 := h0
  have lt0 : ∀ x ∈ p0, x.block < W.heap.size := by obtain ⟨m, hm⟩ := k0; exact DataW.trod_lt m _ _ _ hm
  obtain ⟨z0, e0, lc0, cm0, w0, rd0⟩ := open_bytes h0
  clear hA0 hval0
  refine (lawDur_walk z0 a0 len0 cap0 W e0 lc0 cm0 w0 rd0).mono fun e W' ⟨he, bel⟩ => ?_
  subst he
  exact ⟨_, rfl, _, _, _, [], _, [], hW', trodAll_mk1 (shut_bool Try.underlying4 _), (trodAll_cons_mk (Below.trod laidOut_ (by kernel_rfl) (of_decide_eq_true (by kernel_rfl)) k0 bel lt0) trodAll_mk0), rfl, bel.frame _, fun h => by cases h⟩

theorem fnDurableItems_holds : Rows.FnDurableItemsSaid :=
  OpenClaim.holds_of_wide 11 Try.f11 rfl rfl rfl rfl rfl rfl rfl ⟨rfl, rfl, rfl, rfl, rfl⟩ rfl rfl rfl rfl rfl (by kernel_rfl) Try.func11 (by kernel_rfl)
    (of_decide_eq_true (by kernel_rfl)) (by unfold Func.isWrapper; first | (rw [if_pos (by decide +kernel)]; kernel_rfl) | (rw [if_neg (by decide +kernel)]; exact ⟨rfl, rfl⟩))
    (fun os started H enc _ => fnDurableItems_lifted os started H enc)

end Go.Proofs.Ytfmkjhkopocokaa
