/-
  Schedulers: the law on the sorted order.
-/
import Derived.Test.YtfelfopcmkeimaaScO
import Derived.Test.YtfelfopcmkeimaaSkA
namespace Go.Proofs.Ytfelfopcmkeimaa
open Go.ChangeShapes Go.WideShapes Go.ChangeAt Go.RowKit Go.BigFrame Go.Deep

theorem lx_next {l : List Rq} {X : List Int} (h : X.Pairwise (lx l)) (k : Nat) (hk : k + 1 < X.length) : lx l (X[k]'(by omega)) X[k + 1] :=
  List.pairwise_iff_getElem.1 h k (k + 1) (by omega) hk (by omega)
theorem seekP_nonneg (l : List Rq) (head : Int) (o : List Int) : 0 ≤ (seekP l head o).1 := by
  have key : ∀ (o : List Int) (p : Int × Int), 0 ≤ p.1 → 0 ≤ (o.foldl (seekS l) p).1 := by
    intro o
    induction o with
    | nil => intro p h; exact h
    | cons x r ih =>
      intro p h
      refine ih _ ?_
      show 0 ≤ p.1 + dist (atK l x) p.2
      have := dist_nonneg (atK l x) p.2
      omega
  exact key o (0, head) (Int.le_refl _)
theorem ints_nodup (n : Nat) : (ints n).Nodup := by
  rw [List.nodup_iff_pairwise_ne, List.pairwise_iff_getElem]
  intro i j hi hj hij
  rw [ints_length] at hi hj
  rw [ints_get n i hi, ints_get n j hj]
  omega
theorem sort_isOrd (l : List Rq) : isOrd l.length (sortN l l.length) = true := by
  unfold isOrd
  rw [sortN_length, decide_eq_true rfl, decide_eq_true ((sortN_perm l l.length).nodup_iff.2 (ints_nodup _)), Bool.true_and, Bool.and_true]
  refine allB_end (fun i hi => ?_)
  have := sortN_get l l.length i hi
  rw [inB_iff]; omega
theorem seek_sort {l : List Rq} (h : rv l = true) : 0 ≤ seekR l (sortN l l.length) 0 := by
  have : skOk l (sortN l l.length) 0 = true := by unfold skOk; rw [h, sort_isOrd]; decide
  unfold seekR
  rw [if_pos this]
  exact seekP_nonneg _ _ _

set_option maxHeartbeats 1600000 in
theorem lawSorted_walk (z : List Int) (A : Option Addr) (n c : Nat) (w : World) (hl : z.length = n) (hc : n ≤ c) (hcm : c ≤ maxLen) (_ : True) (hB : Bys w w.heap.size A n) :
    Calls Try.prog 10 #[.slice A n c] w fun e w' => e = .returned (.bool true) ∧ Below w.heap.size w w' := by
  clear hl
  have HB := hid_ hB; clear hB
  have HC := hid_ hcm
  have hm : n ≤ 9223372036854775807 := by unfold maxLen at hcm; omega
  clear hcm
  by_cases hbig : (1048576 : Int) < (n : Int)
  · go_enter Try.func10, Try.ntmps10
    go_wp2
    go_returns
    exact ⟨rfl, Below.refl _ _⟩
  have hn20 : n ≤ 1048576 := by omega
  go_enter Try.func10, Try.ntmps10
  go_wp2_with fail
  refine (drawSo_any A n c _ hn20 hc HC.out HB.out).mono ?_
  clear HB HC
  rintro e w1 ⟨l, Al, cl, rfl, hl, hcl, hcml, hdr, hol, BB⟩
  replace BB := hid_ BB
  have HRl := hid_ (own_rd hol); clear hol
  have HCl := hid_ hcml; clear hcml
  clear hdr
  cases hv : rv l
  · have HS := hid_ (sortR_no hv)
    go_wp2_with fail
    refine (implSort_any l Al l.length cl _ rfl (by omega) hcl HCl.out HRl.out).mono ?_
    rw [HS.out]
    rintro e w2 ⟨Ao, co, rfl, hco, hcmo, hoo, hbo⟩
    have HRo := hid_ (own_rd hoo); clear hoo
    clear hcmo hco
    have hs_hbo := hbo.size
    replace BB := hid_ (BB.out.trans (hbo.mono BB.out.size))
    replace HRl := hid_ (HRl.out.below hbo)
    clear hbo
    go_wp2_with fail
    refine (specSort_any l Al l.length cl _ rfl (by omega) HRl.out).mono ?_
    rw [HS.out]
    rintro e w3 ⟨Ap, cp, rfl, hcp, hcmp, hop, hbp⟩
    have HRp := hid_ (own_rd hop); clear hop
    clear hcmp hcp
    have hs_hbp := hbp.size
    replace BB := hid_ (BB.out.trans (hbp.mono BB.out.size))
    replace HRl := hid_ (HRl.out.below hbp)
    replace HRo := hid_ (HRo.out.below hbp)
    clear hbp
    go_wp2_with fail
    refine (sameInts_self [] Ao Ap _ _ _ _ _ rfl rfl (by unfold maxLen; simp) HRo.out HRp.out).mono ?_
    rintro e w4 ⟨rfl, hb_w4⟩
    have hs_hb_w4 := hb_w4.size
    replace BB := hid_ (BB.out.trans (hb_w4.mono BB.out.size))
    replace HRl := hid_ (HRl.out.below hb_w4)
    replace HRo := hid_ (HRo.out.below hb_w4)
    clear hb_w4
    clear HRp
    go_wp2_with (go_at_call 35; refine (specRV_any l Al l.length cl _ rfl (by omega) HRl.out).mono ?_; rw [hv]; rintro e w5 ⟨rfl, rfl⟩)
    go_wp2_with fail
    refine (alive_any _).mono ?_
    rintro e w6 ⟨rfl, hbal⟩
    replace BB := hid_ (BB.out.trans (hbal.mono BB.out.size))
    go_wp2
    go_returns
    exact ⟨rfl, BB.out⟩
  · have HS := hid_ (sortR_ok hv)
    have hlen := sortN_length l l.length
    have HP := hid_ (sortN_sorted l l.length)
    have HM := hid_ (fun x (hx : x ∈ sortN l l.length) => sortN_mem.1 hx)
    have HK := hid_ (seek_sort hv)
    go_wp2_with fail
    refine (implSort_any l Al l.length cl _ rfl (by omega) hcl HCl.out HRl.out).mono ?_
    rw [HS.out]
    obtain ⟨X, hX⟩ : ∃ X, sortN l l.length = X := ⟨_, rfl⟩
    rw [hX] at hlen HP HM HK HS ⊢
    clear hX
    have HLN := hid_ hlen; clear hlen
    have hxl : X.length ≤ 60 := by rw [HLN.out]; exact hl
    rintro e w2 ⟨Ao, co, rfl, hco, hcmo, hoo, hbo⟩
    have HRo := hid_ (own_rd hoo); clear hoo
    have HCo := hid_ hcmo; clear hcmo
    have hs_hbo := hbo.size
    replace BB := hid_ (BB.out.trans (hbo.mono BB.out.size))
    replace HRl := hid_ (HRl.out.below hbo)
    clear hbo
    go_wp2_with fail
    refine (specSort_any l Al l.length cl _ rfl (by omega) HRl.out).mono ?_
    rw [HS.out]
    rintro e w3 ⟨Ap, cp, rfl, hcp, hcmp, hop, hbp⟩
    have HRp := hid_ (own_rd hop); clear hop
    clear hcmp hcp
    have hs_hbp := hbp.size
    replace BB := hid_ (BB.out.trans (hbp.mono BB.out.size))
    replace HRl := hid_ (HRl.out.below hbp)
    replace HRo := hid_ (HRo.out.below hbp)
    clear hbp
    go_wp2_with fail
    refine (sameInts_self X Ao Ap _ _ _ _ _ rfl rfl (by unfold maxLen; omega) HRo.out HRp.out).mono ?_
    rintro e w4 ⟨rfl, hb_w4⟩
    have hs_hb_w4 := hb_w4.size
    replace BB := hid_ (BB.out.trans (hb_w4.mono BB.out.size))
    replace HRl := hid_ (HRl.out.below hb_w4)
    replace HRo := hid_ (HRo.out.below hb_w4)
    clear hb_w4
    clear HRp
    go_wp2_with (go_at_call 35; refine (specRV_any l Al l.length cl _ rfl (by omega) HRl.out).mono ?_; rw [hv]; rintro e w5 ⟨rfl, rfl⟩)
    go_loopw [5] (fun vk wr => ∃ (kp : Nat), (kp ≤ X.length) ∧ vk = .int .i64 ((kp : Int) + 1) ∧ Below w4.heap.size w4 wr) (fun vk _ => X.length + 1 - (intOf vk).toNat)
    case atStart => exact ⟨0, Nat.zero_le _, rfl, Below.refl _ _⟩
    case round =>
      obtain ⟨kp, hk, rfl, hbw⟩ := hrel
      by_cases hlt : kp + 1 < X.length
      · have hpos : 0 < X.length := by omega
        obtain ⟨b2, o2, rfl⟩ := addr_at HRo.out hpos
        obtain ⟨b1, o1, rfl⟩ := addr_at HRl.out (by rw [← HLN.out]; exact hpos)
        obtain ⟨x, hx0, hxn, hxe⟩ := ints_at2 (HRo.out.below hbw) rfl l.length HM.out (kp + 1) hlt
        obtain ⟨y, hy0, hyn, hye⟩ := ints_at2 (HRo.out.below hbw) rfl l.length HM.out kp (by omega)
        obtain ⟨ax0, ax1, wx, ax2⟩ := rq_at2 (HRl.out.below hbw) x hxn rfl
        obtain ⟨ay0, ay1, wy, ay2⟩ := rq_at2 (HRl.out.below hbw) y hyn rfl
        have hF := lx_next HP.out kp hlt
        rw [hxe, hye] at hF
        unfold lx at hF
        clear hxe hye
        obtain ⟨ax, hax'⟩ : ∃ ax, atK l (x : Int) = ax := ⟨_, rfl⟩
        obtain ⟨ay, hay'⟩ : ∃ ay, atK l (y : Int) = ay := ⟨_, rfl⟩
        rw [hax'] at ax0 hF
        rw [hay'] at ay0 hF
        clear hax' hay'
        have hxz : (x : Int) < ((l.length : Nat) : Int) := by omega
        have hyz : (y : Int) < ((l.length : Nat) : Int) := by omega
        have hkz : (kp : Int) + 1 < ((X.length : Nat) : Int) := by omega
        have hkz2 : (kp : Int) < ((X.length : Nat) : Int) := by omega
        have hk1 : ((kp : Int) + 1).toNat = kp + 1 := by omega
        have tx : ∀ o, (wr.alloc o).cell? ⟨b2, o2 + (kp + 1), none⟩ = some (.int .i64 (x : Int)) := fun o => (World.cell?_alloc_past _ _ _ (cell_lt hx0)).trans hx0
        have ty : ∀ o, (wr.alloc o).cell? ⟨b2, o2 + kp, none⟩ = some (.int .i64 (y : Int)) := fun o => (World.cell?_alloc_past _ _ _ (cell_lt hy0)).trans hy0
        have tx0 : ∀ o, (wr.alloc o).cell? ⟨b1, o1 + x * 3, none⟩ = some (.int .i64 ax) := fun o => (World.cell?_alloc_past _ _ _ (cell_lt ax0)).trans ax0
        have tx1 : ∀ o, (wr.alloc o).cell? ⟨b1, o1 + x * 3 + 1, none⟩ = some (.int .i64 (ctK l (x : Int))) := fun o => (World.cell?_alloc_past _ _ _ (cell_lt ax1)).trans ax1
        have tx2 : ∀ o, (wr.alloc o).cell? ⟨b1, o1 + x * 3 + 2, none⟩ = some (.bool wx) := fun o => (World.cell?_alloc_past _ _ _ (cell_lt ax2)).trans ax2
        have t2x : ∀ o p, ((wr.alloc o).alloc p).cell? ⟨b2, o2 + (kp + 1), none⟩ = some (.int .i64 (x : Int)) := fun o p => (World.cell?_alloc_past _ _ _ (cell_lt (tx o))).trans (tx o)
        have t2y : ∀ o p, ((wr.alloc o).alloc p).cell? ⟨b2, o2 + kp, none⟩ = some (.int .i64 (y : Int)) := fun o p => (World.cell?_alloc_past _ _ _ (cell_lt (ty o))).trans (ty o)
        rcases hF with hF | ⟨hF, hxy⟩
        · have hd1 : decide (ax < ay) = false := decide_eq_false (by omega)
          have hd2 : (ay == ax) = false := by rw [beq_eq_false_iff_ne]; omega
          have hd3 : decide (ay = ax) = false := decide_eq_false (by omega)
          have hd4 : decide (ay > ax) = false := decide_eq_false (by omega)
          go_wp2
          go_quiet (fail)
          go_wp2
          go_roundw
          case rel => exact ⟨kp + 1, by omega, by go_num, bdN ((hbw.alloc hbw.size _).alloc (by have := hbw.size; simp; omega) _) _⟩
          case measure => simp [intOf]; omega
        · subst hF
          have hyx : (y : Int) < (x : Int) := hxy
          go_wp2
          go_quiet (fail)
          go_wp2
          go_roundw
          case rel => exact ⟨kp + 1, by omega, by go_num, bdN ((hbw.alloc hbw.size _).alloc (by have := hbw.size; simp; omega) _) _⟩
          case measure => simp [intOf]; omega
      · have hkz : ((X.length : Nat) : Int) ≤ (kp : Int) + 1 := by omega
        replace BB := hid_ (BB.out.trans (hbw.mono BB.out.size))
        replace HRl := hid_ (HRl.out.below hbw)
        replace HRo := hid_ (HRo.out.below hbw)
        have hle : (((X.length : Nat) : Int) == ((l.length : Nat) : Int)) = true := by rw [HLN.out]; simp
        obtain ⟨D, hD⟩ : ∃ D, seekR l X 0 = D := ⟨_, rfl⟩
        rw [hD] at HK
        have hD0 : 0 ≤ D := HK.out
        go_wp2_with fail
        refine (implSeek_any l Al l.length cl X Ao X.length co 0 _ rfl (by omega) hcl HCl.out HRl.out rfl (by omega) hco HCo.out HRo.out).mono ?_
        rw [hD]
        clear hD
        rintro e w6 ⟨rfl, hb6⟩
        go_wp2
        go_returns
        exact ⟨rfl, BB.out.trans (hb6.mono BB.out.size)⟩

set_option maxRecDepth 100000 in
theorem fnSortedOrder_lifted (os : Os) (started : os.Started) (H : Type) (enc : TypeId × Value → H) :
    ReturnsInHanded {} Try.checked os 10 .any (Rows.fnSortedOrderSpec.pre6 enc Try.prog Try.f10 Rows.fnSortedOrderRow.domain false) (Rows.fnSortedOrderSpec.post enc Try.prog Try.f10 false true false false) := by
  refine returnsInHanded_of_change (C := Try.checked) own_ started (by kernel_rfl) Try.func10
    (ChangeSpec.witness6 (enc := enc) (C := Try.checked) false ⟨#[], #[.slice none 0 0], []⟩ 8 (by kernel_rfl) (by kernel_rfl) (by kernel_rfl) (by kernel_rfl)) ?_
  intro W base args ds gs before hval0 hW hcnd _
  have hval : ∀ (j : Nat) t v, Try.f10.params[j]? = some t → args[j]? = some v → Value.okWide Try.prog W .any base t v := hval0
  have hW' := hW
  obtain ⟨p, q, hA0, hV, rfl, hfz, hnd⟩ := hW
  have hA : DataW.TrodAll enc Try.prog W 0 (fun _ => true) true Try.f10.params.toList args.toList ds p := hA0
  rw [Try.params10] at hA hval
  obtain ⟨v0, vs0, d0, ds0, p0, q0, hargs, rfl, rfl, h0, r0⟩ := trodAll_cons hA
  obtain ⟨rfl, rfl, rfl⟩ := trodAll_nil r0
  obtain rfl : args = #[v0] := by cases args; simp_all
  obtain ⟨rfl, rfl⟩ := trodVars_none hV
  obtain ⟨a0, len0, cap0, rfl⟩ := okWide_slice Try.underlying22 (hval 0 22 v0 rfl rfl)
  have k0 := h0
  have lt0 : ∀ x ∈ p0, x.block < W.heap.size := by obtain ⟨m, hm⟩ := k0; exact DataW.trod_lt m _ _ _ hm
  obtain ⟨z0, e0, lc0, cm0, w0, rd0⟩ := open_bytes h0
  clear hA0 hval0
  refine (lawSorted_walk z0 a0 len0 cap0 W e0 lc0 cm0 w0 rd0).mono fun e W' ⟨he, bel⟩ => ?_
  subst he
  exact ⟨_, rfl, _, _, _, [], _, [], hW', trodAll_mk1 (shut_bool Try.underlying4 _), (trodAll_cons_mk (Below.trod laidOut_ (by kernel_rfl) (of_decide_eq_true (by kernel_rfl)) k0 bel lt0) trodAll_mk0), rfl, bel.frame _, fun h => by cases h⟩

theorem fnSortedOrder_holds : Rows.FnSortedOrderSaid :=
  OpenClaim.holds_of_wide 10 Try.f10 rfl rfl rfl rfl rfl rfl rfl ⟨rfl, rfl, rfl, rfl, rfl⟩ rfl rfl rfl rfl rfl (by kernel_rfl) Try.func10 (by kernel_rfl)
    (of_decide_eq_true (by kernel_rfl)) (by unfold Func.isWrapper; first | (rw [if_pos (by decide +kernel)]; kernel_rfl) | (rw [if_neg (by decide +kernel)]; exact ⟨rfl, rfl⟩))
    (fun os started H enc _ => fnSortedOrder_lifted os started H enc)

end Go.Proofs.Ytfelfopcmkeimaa
