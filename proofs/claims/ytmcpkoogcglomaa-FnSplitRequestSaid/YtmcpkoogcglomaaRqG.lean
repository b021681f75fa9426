/-
  Requests: dividing as the reference does it.
-/
import Derived.Test.YtmcpkoogcglomaaRqF
import Derived.IntWalk
namespace Go.Proofs.Ytmcpkoogcglomaa
open Go.ChangeShapes Go.WideShapes Go.ChangeAt Go.RowKit Go.BigFrame

theorem run_min2 (a b M : Int) (w : World) (h : min a b = M) : (Builtin.min_ #[3, 3] 3 #[.int .i64 a, .int .i64 b]).run Try.prog w = .ok (.int .i64 M) w := by
  have e : (Builtin.min_ #[3, 3] 3 #[.int .i64 a, .int .i64 b]).run Try.prog w = .ok (.int .i64 (if b < a then b else a)) w := by
    simp [Builtin.min_, Builtin.min2, go_sem]
  rw [e]
  have : (if b < a then b else a) = M := by split <;> omega
  rw [this]
theorem rv_one (r : Rq) : rv [r] = okR r := by unfold rv; simp
theorem rd_rq1 (w : World) (r : Rq) (g : Nat) (hg : w.heap.size = g) : Rd (w.alloc (.cells #[.int .i64 r.at_, .int .i64 r.count, .bool r.write] 33)) 3 (some ⟨g, 0, none⟩) 1 (rqC [r]) := by
  subst hg
  exact ⟨rfl, fun _ => ⟨_, _, rfl, fun j u hu => by
    have := news_alloc w [.int .i64 r.at_, .int .i64 r.count, .bool r.write] 33 j u hu
    rwa [add_mid] at this⟩⟩

set_option maxHeartbeats 2000000 in
theorem specSpl_any (r : Rq) (most border : Int) (w : World) :
    Calls Try.prog 19 #[.agg #[.int .i64 r.at_, .int .i64 r.count, .bool r.write], .int .i64 most, .int .i64 border] w (RSl w 33 3 (splR r most border).length (rqC (splR r most border))) := by
  rcases splOk_cases r most border with ⟨q0, h0⟩ | ⟨q0, q1, h0⟩ | ⟨q0, q1, q2, h0⟩ | ⟨q0, q1, q2, h0⟩
  rotate_right
  · have hR0 := hid_ h0; clear h0
    have b0 := okR_iff.1 q0
    have b1 := inB_iff.1 q1
    have b2 := inB_iff.1 q2
    have hSL := hid_ (splP_length most border b1.1 b2.1)
    have HQ0 := hid_ q0
    go_enter Try.func19, Try.ntmps19
    go_wp2_with (first | (go_at_call 13; refine (specRV_any [r] _ 1 1 _ rfl (by omega) (rd_rq1 _ r _ (by simp))).mono ?_; rw [rv_one, HQ0.out]; rintro e w1 ⟨rfl, rfl⟩) | (go_at_call 33; refine (l1In_any _ _ _ _).mono ?_; rintro e w2 ⟨rfl, rfl⟩))
    clear q0 q1 q2
    obtain ⟨w1, hw1⟩ : ∃ w1, w1 = ((w.alloc (.cells #[.int .i64 r.at_, .int .i64 r.count, .bool r.write] 33)).alloc (.cells #[] 33)).alloc (.cells #[.int .i64 r.at_, .int .i64 r.count, .bool r.write] 33) := ⟨_, rfl⟩
    rw [← hw1]
    have hz1 : w1.heap.size = w.heap.size + 3 := by rw [hw1]; simp
    have hbx : BoxR w1 w.heap.size r := by rw [hw1]; refine ⟨⟨?_, ?_, ?_⟩, ?_, ?_⟩ <;> simp [go_sem]
    have HBX := hid_ hbx; clear hbx
    have HBB := hid_ (show Below w.heap.size w w1 by rw [hw1]; exact (((Below.refl _ _).alloc (Nat.le_refl _) _).alloc (by simp) _).alloc (by simp; omega) _)
    have HOE := hid_ (show w1.ownsRow (w.heap.size + 1) 33 3 (.slice (some ⟨w.heap.size + 1, 0, none⟩) 0 0) 0 [] by rw [hw1]; exact (own_empty_at (w.alloc (.cells #[.int .i64 r.at_, .int .i64 r.count, .bool r.write] 33)) 33 3 (w.heap.size + 1) (by simp)).alloc _)
    clear hw1
    go_loopw [7] (fun v wr => ∃ (q : Rq) (out : List Rq), BoxR wr w.heap.size q ∧ (0 ≤ q.at_ ∧ q.at_ ≤ 100200) ∧ (0 ≤ q.count ∧ q.count ≤ 200) ∧ q.write = r.write ∧ (out.length : Int) + q.count ≤ 200 ∧ wr.ownsRow (w.heap.size + 1) 33 3 v out.length (rqC out) ∧ Below w.heap.size w wr ∧ w.heap.size + 1 ≤ wr.heap.size ∧ q.at_ + q.count ≤ 100200 ∧ out ++ splP most border q = splP most border r) (fun _ wr => cntBox w.heap.size wr)
    case atStart => exact ⟨r, [], HBX.out, by omega, by omega, rfl, by simp; omega, HOE.out, HBB.out, by omega, by omega, rfl⟩
    case round =>
      obtain ⟨q, out, hbx, hqa, hqc, hqw, hol, ho, hb, hsz, hac, hs⟩ := hrel
      have HO := hid_ ho; clear ho
      have HS := hid_ hs; clear hs
      have HQW := hid_ hqw; clear hqw
      have HX := hid_ hbx
      have hmb := cntBox_eq hbx.1.2.1
      have HMB := hid_ hmb; clear hmb
      obtain ⟨⟨x0, x1, x2⟩, y0, y1⟩ := hbx
      have hbs := hb.size
      by_cases hlt : 0 < q.count
      · have hst := hid_ (splP_step most border b1.1 b2.1 q (by omega))
        have hbd := splN_bd (most := most) (border := border) (r := q) b1.1 b2.1 (by omega)
        obtain ⟨M, hM⟩ : ∃ M, M = splN most border q := ⟨_, rfl⟩
        rw [← hM] at hst hbd
        unfold splN at hM
        have hM' : min q.count (min most (border - q.at_ % border)) = M := by omega
        have HM := hid_ hM'; clear hM hM'
        have hne : ¬ border = 0 := by omega
        have hmod := emod_facts_ q.at_ border (by omega)
        obtain ⟨M1, hM1⟩ : ∃ M1, M1 = min q.count most := ⟨_, rfl⟩
        have hrun1 := fun W => run_min2 q.count most M1 W hM1.symm
        have hrun2 := fun W => run_min2 M1 (border - q.at_ % border) M W (by have := HM.out; omega)
        have r1 : q.at_.tmod border = q.at_ % border := Int.tmod_eq_emod_of_nonneg hqa.1
        have r2 : IntKind.i64.wrap (q.at_ % border) = q.at_ % border := IntWalk.i64_in _ (by omega)
        have r3 : IntKind.i64.wrap (border - q.at_ % border) = border - q.at_ % border := IntWalk.i64_in _ (by omega)
        clear hM1
        go_wp2
        go_quiet (fail)
        clear hrun1 hrun2 r1 r2 r3
        have hown2 : (wr.drewN nq).ownsRow (w.heap.size + 1) 33 3 u7 out.length (rqC out) := HO.out
        have hXd := hid_ (show BoxR (wr.drewN nq) w.heap.size q from HX.out)
        have hnb := hid_ (show u7.ownBlock ≠ some w.heap.size from fun e => by have := (HO.out.lt _ e).1; omega)
        clear HX
        go_wp2_with ((at_builtin; refine wpList_push _ rfl _ _ 25 rfl (w.heap.size + 1) 33 (.agg #[.int .i64 0, .int .i64 0, .bool false]) 3 24 Try.underlying25 rq_info rfl (by decide) (by decide) _ _ rfl rfl _ _ _ hown2 rfl _ rfl (by simp) (by omega) (by simp; omega) ?_; intro v' w' ho' hg'); clear x0 x1 x2 y0 y1; have hbx2 := hXd.out.grown hg' hnb.out; obtain ⟨⟨x0, x1, x2⟩, y0, y1⟩ := hbx2)
        go_roundw
        case rel =>
          have hb2 := ((bdN hb nq).grown hg' (by simp; omega) (fun g e => by have := (HO.out.lt g e).1; omega) : Below w.heap.size w w')
          have hs2 : wr.heap.size ≤ w'.heap.size := hg'.size
          have g1 := gb_setCell w' w.heap.size 0 (.int .i64 (q.at_ + M))
          have g2 := gb_setCell (w'.setCell ⟨w.heap.size, 0, none⟩ (.int .i64 (q.at_ + M))) w.heap.size 1 (.int .i64 (q.count - M))
          refine ⟨⟨q.at_ + M, q.count - M, q.write⟩, out ++ [⟨q.at_, M, q.write⟩], BoxR.set (q := q) ⟨⟨x0, x1, x2⟩, y0, y1⟩ _ _, by simp only; omega, by simp only; omega, HQW.out, by simp; omega, own_eq (own_pick (own_pick ho' g1 (by omega)) g2 (by omega)) (by simp) (by rw [rqC_append]; rfl), (hb2.setCell (Nat.le_refl _) _).setCell (Nat.le_refl _) _, by simp; omega, by simp only; omega, ?_⟩
          rw [← HS.out, hst.out]
          simp
        case measure =>
          have hm1 := cntBox_eq ((BoxR.set (q := q) ⟨⟨x0, x1, x2⟩, y0, y1⟩ (q.at_ + M) (q.count - M)).1.2.1)
          rw [HMB.out, hm1]
          simp only
          omega
      · go_wp2
        go_returns
        have hnil := splP_nil most border q (by omega)
        have hS := HS.out
        rw [hnil, List.append_nil] at hS
        exact RSl.of_own' (own_base HO.out (by omega)) hb (by rw [hR0.out, hS]) (by rw [hR0.out, hS])
  all_goals
    have hR0 := hid_ h0; clear h0
    have HQ0 := hid_ q0
    go_enter Try.func19, Try.ntmps19
    go_wp2_with (first | (go_at_call 13; refine (specRV_any [r] _ 1 1 _ rfl (by omega) (rd_rq1 _ r _ (by simp))).mono ?_; rw [rv_one, HQ0.out]; rintro e w1 ⟨rfl, rfl⟩) | (go_at_call 33; refine (l1In_any _ _ _ _).mono ?_; rintro e w2 ⟨rfl, rfl⟩))
    go_returns
    exact RSl.of_own' (own_base ((own_empty_at (w.alloc (.cells #[.int .i64 r.at_, .int .i64 r.count, .bool r.write] 33)) 33 3 (w.heap.size + 1) (by simp)).alloc _) (Nat.le_succ _)) ((((Below.refl _ _).alloc (Nat.le_refl _) _).alloc (by simp) _).alloc (by simp; omega) _) (by rw [hR0.out]; rfl) (by rw [hR0.out]; rfl)
end Go.Proofs.Ytmcpkoogcglomaa
