/-
  Requests: the walk of the law on dividing.
-/
import Derived.Test.YtmcpkoogcglomaaRqX
import Derived.Deep.RegionHeld3
namespace Go.Proofs.Ytmcpkoogcglomaa
open Go.ChangeShapes Go.WideShapes Go.ChangeAt Go.RowKit Go.BigFrame Go.Deep

theorem tot_small {X : List Rq} (h : ∀ k (hk : k < X.length), 1 ≤ X[k].count ∧ X[k].count ≤ 200) : ∀ k, k ≤ X.length → 0 ≤ tot (X.take k) ∧ tot (X.take k) ≤ 200 * k := by
  intro k
  induction k with
  | zero => intro _; simp [tot]
  | succ k ih =>
    intro hk
    have := ih (by omega)
    have hc := h k (by omega)
    rw [tot_take X k (by omega)]
    omega
theorem BoxQ.below {w w' : World} {g : Nat} {q : Rq} (h : BoxQ w g q) (hb : Below w.heap.size w w') : w'.cell? ⟨g, 0, none⟩ = some (.int .i64 q.at_) ∧ w'.cell? ⟨g, 1, none⟩ = some (.int .i64 q.count) ∧ w'.cell? ⟨g, 2, none⟩ = some (.bool q.write) := by
  obtain ⟨⟨a, b, c⟩, _⟩ := h
  exact ⟨(hb.cell (cell_lt a)).trans a, (hb.cell (cell_lt b)).trans b, (hb.cell (cell_lt c)).trans c⟩

set_option maxHeartbeats 1600000 in
theorem lawSpl_walk (z : List Int) (A : Option Addr) (n c : Nat) (w : World) (hl : z.length = n) (hc : n ≤ c) (hcm : c ≤ maxLen) (_ : True) (hB : Bys w w.heap.size A n) :
    Calls Try.prog 9 #[.slice A n c] w fun e w' => e = .returned (.bool true) ∧ Below w.heap.size w w' := by
  clear hl
  have HB := hid_ hB; clear hB
  have HC := hid_ hcm
  have hm : n ≤ 9223372036854775807 := by unfold maxLen at hcm; omega
  clear hcm
  by_cases hbig : (1048576 : Int) < (n : Int)
  · go_enter Try.func9, Try.ntmps9
    go_wp2
    go_returns
    exact ⟨rfl, Below.refl _ _⟩
  have hn20 : n ≤ 1048576 := by omega
  go_enter Try.func9, Try.ntmps9
  go_wp2_with fail
  refine (drawSpl_any A n c _ hn20 hc HC.out HB.out).mono ?_
  clear HB HC
  rintro e w1 ⟨r, most, border, rfl, ha, hc, hm, hbo, BB⟩
  replace BB := hid_ BB
  have c30 : (w1.alloc (.cells #[.int .i64 r.at_, .int .i64 r.count, .bool r.write] 33)).cell? ⟨w1.heap.size, 0, none⟩ = some (.int .i64 r.at_) := by simp [go_sem]
  have c31 : (w1.alloc (.cells #[.int .i64 r.at_, .int .i64 r.count, .bool r.write] 33)).cell? ⟨w1.heap.size, 1, none⟩ = some (.int .i64 r.count) := by simp [go_sem]
  have c32 : (w1.alloc (.cells #[.int .i64 r.at_, .int .i64 r.count, .bool r.write] 33)).cell? ⟨w1.heap.size, 2, none⟩ = some (.bool r.write) := by simp [go_sem]
  replace BB := hid_ (BB.out.alloc BB.out.size (.cells #[.int .i64 r.at_, .int .i64 r.count, .bool r.write] 33))
  have HL := splR_length r most border
  obtain ⟨X, hX⟩ : ∃ X, splR r most border = X := ⟨_, rfl⟩
  have HF := hid_ (fun h => splR_facts hX h (by omega))
  rw [hX] at HL
  have HX := hid_ hX; clear hX
  go_wp2_with fail
  refine (implSpl_any r most border _).mono ?_
  rw [HX.out]
  rintro e w2 ⟨Ao, co, rfl, hco, hcmo, hoo, hb2⟩
  have HRo := hid_ (own_rd hoo); clear hoo
  have HCo := hid_ hcmo; clear hcmo
  have hbs2 := hb2.size
  simp only [World.size_alloc] at hbs2
  have hs_hb2 := hb2.size
  replace BB := hid_ (BB.out.trans (hb2.mono BB.out.size))
  replace c30 := (hb2.cell (cell_lt c30)).trans c30
  replace c31 := (hb2.cell (cell_lt c31)).trans c31
  replace c32 := (hb2.cell (cell_lt c32)).trans c32
  clear hb2
  go_wp2_with fail
  refine (specSpl_any r most border _).mono ?_
  rw [HX.out]
  rintro e w3 ⟨Ap, cp, rfl, hcp, hcmp, hop, hb3⟩
  have HRp := hid_ (own_rd hop); clear hop
  clear hcmp
  have hs_hb3 := hb3.size
  replace BB := hid_ (BB.out.trans (hb3.mono BB.out.size))
  replace HRo := hid_ (HRo.out.below hb3)
  replace c30 := (hb3.cell (cell_lt c30)).trans c30
  replace c31 := (hb3.cell (cell_lt c31)).trans c31
  replace c32 := (hb3.cell (cell_lt c32)).trans c32
  clear hb3
  go_wp2_with fail
  refine (sameRequests_self X Ao Ap _ _ _ _ _ rfl rfl (by unfold maxLen; omega) HRo.out HRp.out).mono ?_
  rintro e w4 ⟨rfl, hb_w4⟩
  have hs_hb_w4 := hb_w4.size
  replace BB := hid_ (BB.out.trans (hb_w4.mono BB.out.size))
  replace HRo := hid_ (HRo.out.below hb_w4)
  replace c30 := (hb_w4.cell (cell_lt c30)).trans c30
  replace c31 := (hb_w4.cell (cell_lt c31)).trans c31
  replace c32 := (hb_w4.cell (cell_lt c32)).trans c32
  clear hb_w4
  clear HRp
  by_cases h0 : X.length = 0
  · have hX0 : X = [] := List.eq_nil_of_length_eq_zero h0
    subst hX0
    simp only [List.length_nil] at *
    go_wp2_with fail
    go_wp2_with fail
    refine (alive_any _).mono ?_
    rintro e w5 ⟨rfl, hbal⟩
    replace BB := hid_ (BB.out.trans (hbal.mono BB.out.size))
    go_wp2
    go_returns
    exact ⟨rfl, BB.out⟩
  · have hpos : 0 < X.length := by omega
    obtain ⟨f1, f2, f3, f4, f5, f6, f7⟩ := HF.out hpos
    have F1 := hid_ f1.1; have F2 := hid_ f1.2; clear f1
    have F7 := hid_ f7; clear f7
    have hz : ((X.length : Int) == 0) = false := by rw [beq_eq_false_iff_ne]; omega
    clear HF
    have HT := hid_ (tot_small (X := X) (fun k hk => by have := F1.out k hk; omega))
    go_wp2
    go_loopw [7, 8] (fun u i wr => ∃ (k : Nat) (T : Int), k ≤ X.length ∧ i = .int .i64 k ∧ u = .int .i64 T ∧ T = r.at_ + tot (X.take k) ∧ Below w4.heap.size w4 wr) (fun _ i _ => X.length - (intOf i).toNat)
    case atStart => exact ⟨0, r.at_, Nat.zero_le _, rfl, rfl, by simp [tot], Below.refl _ _⟩
    case round =>
      obtain ⟨k, T, hk, rfl, rfl, hTe, hb⟩ := hrel
      have hT := HT.out k hk
      have HTe := hid_ hTe
      by_cases hlt : k < X.length
      · obtain ⟨b, o, rfl, h0, h1, h2⟩ := (HRo.out.below hb).rq k hlt rfl
        obtain ⟨p1, p2, p3, p4⟩ := F1.out k hlt
        have hTk := hid_ (tot_take X k hlt)
        rw [← hTe] at p1
        have c40 := (hb.cell (cell_lt c30)).trans c30
        have c41 := (hb.cell (cell_lt c31)).trans c31
        have c42 := (hb.cell (cell_lt c32)).trans c32
        replace c42 : (wr.alloc (.cells #[.int .i64 T, .int .i64 X[k].count, .bool r.write] 33)).cell? ⟨w1.heap.size, 2, none⟩ = some (.bool r.write) := (World.cell?_alloc_past _ _ _ (cell_lt c42)).trans c42
        clear c30 c31 c32 c40 c41
        obtain ⟨ct, hct⟩ : ∃ ct, X[k].count = ct := ⟨_, rfl⟩
        rw [p1] at h0 p3
        rw [p4] at h2
        rw [hct] at h1 p2 p3 hTk c42
        obtain ⟨q, hq⟩ : ∃ q, T / border = q := ⟨_, rfl⟩
        rw [hq] at p3
        have hbs := hb.size
        have q0 : 0 ≤ q := by rw [← hq]; exact Int.ediv_nonneg (by omega) (by omega)
        have q1 : q ≤ T := by rw [← hq]; exact Int.ediv_le_self _ (by omega)
        have t1 : T.tdiv border = q := by rw [Int.tdiv_eq_ediv_of_nonneg (by omega)]; exact hq
        have t2 : (T + ct - 1).tdiv border = q := by rw [Int.tdiv_eq_ediv_of_nonneg (by omega)]; exact p3.symm
        have t3 : IntKind.i64.wrap q = q := IntWalk.i64_in _ (by omega)
        have u1 : IntKind.i64.wrap (T + ct) = T + ct := IntWalk.i64_in _ (by omega)
        have u2 : IntKind.i64.wrap (T + ct - 1) = T + ct - 1 := IntWalk.i64_in _ (by omega)
        have d0 : (T != T) = false := by simp
        have d1 : decide (ct < 1) = false := decide_eq_false (by omega)
        have d2 : decide (most < ct) = false := decide_eq_false (by omega)
        have d3 : (q != q) = false := by simp
        have d4 : (r.write != r.write) = false := by simp
        have hbn : ¬ border = 0 := by omega
        have HTk := hid_ (show T + ct = r.at_ + tot (X.take (k + 1)) by rw [hTk.out, hTe]; omega)
        clear hq p1 p3 p4 hct hTe hTk
        go_wp2
        go_quiet (fail)
        go_wp2
        go_roundw
        case rel => exact ⟨k + 1, T + ct, by omega, by go_num, by go_num, HTk.out, bdN (hb.alloc hbs _) _⟩
        case measure => exact meas_ hlt
      · have hk' : X.take k = X := List.take_of_length_le (by omega)
        have hTv : T = r.at_ + r.count := by rw [HTe.out, hk', F2.out]
        clear hk' HT
        clear HTe
        have hs_hb := hb.size
        replace BB := hid_ (BB.out.trans (hb.mono BB.out.size))
        replace HRo := hid_ (HRo.out.below hb)
        replace c30 := (hb.cell (cell_lt c30)).trans c30
        replace c31 := (hb.cell (cell_lt c31)).trans c31
        replace c32 := (hb.cell (cell_lt c32)).trans c32
        clear hb
        have u1 : IntKind.i64.wrap (r.at_ + r.count) = T := by rw [IntWalk.i64_in _ (by omega)]; exact hTv.symm
        have d0 : (T == T) = true := by simp
        clear hTv
        by_cases h30 : 30 < X.length
        · have d1 : decide ((30 : Int) < (X.length : Int)) = true := decide_eq_true (by omega)
          go_wp2_with fail
          clear HL f2 f3 f4 f5 h30
          have C0 := fun m : Later wr => m.cell c30
          have C1 := fun m : Later wr => m.cell c31
          (refine wp_region_later (by kernel_rfl) (by kernel_rfl) ?_
           repeat (go_big_quiet_step (fail))
           refine wpQuiet_nil ?_
           rintro _ ⟨nq, rfl⟩
           have hbq := nq.property)
          go_wp2
          go_returns
          exact ⟨rfl, BB.out.trans (hbq.mono BB.out.size)⟩
        · have d1 : decide ((30 : Int) < (X.length : Int)) = false := decide_eq_false (by omega)
          have F8 := hid_ (F7.out (by omega)); clear F7
          have L0 := cell_lt c30
          simp only at L0
          go_wp2_with fail
          clear HL f2 f3 f4 f5
          go_region_held3 (fun w' => w'.cell? ⟨w1.heap.size, 0, none⟩ = some (.int .i64 r.at_) ∧ w'.cell? ⟨w1.heap.size, 1, none⟩ = some (.int .i64 r.count) ∧ w'.cell? ⟨w1.heap.size, 2, none⟩ = some (.bool r.write)) (go_keep) (first
              | (go_at_call 28; refine (implMrg_any X _ X.length co 200 _ rfl (by omega) hco HCo.out (by first | exact HRo.out.drew | exact HRo.out.drew.alloc _)).mono ?_; rw [F8.out]; rintro e w6 ⟨A6, c6, rfl, hc6, hcm6, ho6, hb6⟩; have n0 : w6.cell? ⟨w1.heap.size, 0, none⟩ = some (.int .i64 r.at_) := (hb6.cell (p := ⟨w1.heap.size, 0, none⟩) (by simp; omega)).trans (by first | exact c30 | exact (World.cell?_alloc_past _ _ _ (cell_lt c30)).trans c30); have n1 : w6.cell? ⟨w1.heap.size, 1, none⟩ = some (.int .i64 r.count) := (hb6.cell (p := ⟨w1.heap.size, 1, none⟩) (by simp; omega)).trans (by first | exact c31 | exact (World.cell?_alloc_past _ _ _ (cell_lt c31)).trans c31); have n2 : w6.cell? ⟨w1.heap.size, 2, none⟩ = some (.bool r.write) := (hb6.cell (p := ⟨w1.heap.size, 2, none⟩) (by simp; omega)).trans (by first | exact c32 | exact (World.cell?_alloc_past _ _ _ (cell_lt c32)).trans c32); have HR6 := hid_ (own_rd ho6); have HB6 := hid_ hb6; clear ho6 hcm6 hb6)
              | (go_at_call 30; refine (sameRequests_self [r] A6 _ _ _ _ _ _ rfl rfl (by first | (unfold maxLen; omega) | (simp [maxLen])) (by first | exact HR6.out | exact HR6.out.alloc _) (by first | exact rd_rq1 _ r _ (by rfl) | exact ((rd_rq1 _ r _ (by rfl)).drew).below HB6.out)).mono ?_; rintro e w7 ⟨rfl, hb7⟩; have HB7 := hid_ hb7; have m0 := (hb7.cell (p := ⟨w1.heap.size, 0, none⟩) (by have := cell_lt n0; simp at this ⊢; omega)).trans (by first | exact n0 | exact (World.cell?_alloc_past _ _ _ (cell_lt n0)).trans n0); have m1 := (hb7.cell (p := ⟨w1.heap.size, 1, none⟩) (by have := cell_lt n0; simp at this ⊢; omega)).trans (by first | exact n1 | exact (World.cell?_alloc_past _ _ _ (cell_lt n1)).trans n1); have m2 := (hb7.cell (p := ⟨w1.heap.size, 2, none⟩) (by have := cell_lt n0; simp at this ⊢; omega)).trans (by first | exact n2 | exact (World.cell?_alloc_past _ _ _ (cell_lt n2)).trans n2); clear hb7))
          all_goals
            go_wp2
            go_returns
            refine ⟨rfl, ?_⟩
            first
              | (have b1 := BB.out.drew.trans (HB6.out.mono BB.out.size); have b1s := b1.size; exact (b1.alloc b1s _).trans (HB7.out.mono (by simp; omega)))
              | (have b0 := BB.out.size; have b1 := (BB.out.alloc b0 _).drew.trans (HB6.out.mono (by simp; omega)); exact b1.trans (HB7.out.mono b1.size))

set_option maxRecDepth 100000 in
theorem fnSplitRequest_lifted (os : Os) (started : os.Started) (H : Type) (enc : TypeId × Value → H) :
    ReturnsInHanded {} Try.checked os 9 .any (Rows.fnSplitRequestSpec.pre6 enc Try.prog Try.f9 Rows.fnSplitRequestRow.domain false) (Rows.fnSplitRequestSpec.post enc Try.prog Try.f9 false true false false) := by
  refine returnsInHanded_of_change (C := Try.checked) own_ started (by kernel_rfl) Try.func9
    (ChangeSpec.witness6 (enc := enc) (C := Try.checked) false ⟨#[], #[.slice none 0 0], []⟩ 8 (by kernel_rfl) (by kernel_rfl) (by kernel_rfl) (by kernel_rfl)) ?_
  intro W base args ds gs before hval0 hW hcnd _
  have hval : ∀ (j : Nat) t v, Try.f9.params[j]? = some t → args[j]? = some v → Value.okWide Try.prog W .any base t v := hval0
  have hW' := hW
  obtain ⟨p, q, hA0, hV, rfl, hfz, hnd⟩ := hW
  have hA : DataW.TrodAll enc Try.prog W 0 (fun _ => true) true Try.f9.params.toList args.toList ds p := hA0
  rw [Try.params9] at hA hval
  obtain ⟨v0, vs0, d0, ds0, p0, q0, hargs, rfl, rfl, h0, r0⟩ := trodAll_cons hA
  obtain ⟨rfl, rfl, rfl⟩ := trodAll_nil r0
  obtain rfl : args = #[v0] := by cases args; simp_all
  obtain ⟨rfl, rfl⟩ := trodVars_none hV
  obtain ⟨a0, len0, cap0, rfl⟩ := okWide_slice Try.underlying37 (hval 0 37 v0 rfl rfl)
  have k0 := h0
  have lt0 : ∀ x ∈ p0, x.block < W.heap.size := by obtain ⟨m, hm⟩ := k0; exact DataW.trod_lt m _ _ _ hm
  obtain ⟨z0, e0, lc0, cm0, w0, rd0⟩ := open_bytes h0
  clear hA0 hval0
  refine (lawSpl_walk z0 a0 len0 cap0 W e0 lc0 cm0 w0 rd0).mono fun e W' ⟨he, bel⟩ => ?_
  subst he
  exact ⟨_, rfl, _, _, _, [], _, [], hW', trodAll_mk1 (shut_bool Try.underlying4 _), (trodAll_cons_mk (Below.trod laidOut_ (by kernel_rfl) (of_decide_eq_true (by kernel_rfl)) k0 bel lt0) trodAll_mk0), rfl, bel.frame _, fun h => by cases h⟩

theorem fnSplitRequest_holds : Rows.FnSplitRequestSaid :=
  OpenClaim.holds_of_wide 9 Try.f9 rfl rfl rfl rfl rfl rfl rfl ⟨rfl, rfl, rfl, rfl, rfl⟩ rfl rfl rfl rfl rfl (by kernel_rfl) Try.func9 (by kernel_rfl)
    (of_decide_eq_true (by kernel_rfl)) (by unfold Func.isWrapper; first | (rw [if_pos (by decide +kernel)]; kernel_rfl) | (rw [if_neg (by decide +kernel)]; exact ⟨rfl, rfl⟩))
    (fun os started H enc _ => fnSplitRequest_lifted os started H enc)

end Go.Proofs.Ytmcpkoogcglomaa
