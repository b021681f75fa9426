/-
  Requests: dividing.
-/
import Derived.Test.YtmcpkoogcglomaaRqD
namespace Go.Proofs.Ytmcpkoogcglomaa
open Go.ChangeShapes Go.WideShapes Go.ChangeAt Go.RowKit Go.BigFrame

theorem splOk_cases (r : Rq) (most border : Int) : (okR r = false ∧ splR r most border = []) ∨ (okR r = true ∧ inB most 1 200 = false ∧ splR r most border = []) ∨ (okR r = true ∧ inB most 1 200 = true ∧ inB border 1 200 = false ∧ splR r most border = []) ∨ (okR r = true ∧ inB most 1 200 = true ∧ inB border 1 200 = true ∧ splR r most border = splP most border r) := by
  unfold splR splOk
  cases q0 : okR r <;> cases q1 : inB most 1 200 <;> cases q2 : inB border 1 200 <;> simp
theorem run_min3 (a b c M : Int) (w : World) (h : min a (min b c) = M) : (Builtin.min_ #[3, 3, 3] 3 #[.int .i64 a, .int .i64 b, .int .i64 c]).run Try.prog w = .ok (.int .i64 M) w := by
  have e : (Builtin.min_ #[3, 3, 3] 3 #[.int .i64 a, .int .i64 b, .int .i64 c]).run Try.prog w = .ok (.int .i64 (if c < (if b < a then b else a) then c else (if b < a then b else a))) w := by
    simp [Builtin.min_, Builtin.min2, go_sem]
  rw [e]
  have : (if c < (if b < a then b else a) then c else (if b < a then b else a)) = M := by split <;> split <;> omega
  rw [this]
def cntBox (g : Nat) (w : World) : Nat := (intOf ((w.cell? ⟨g, 1, none⟩).getD (.int .i64 0))).toNat
theorem cntBox_eq {g : Nat} {w : World} {v : Int} (h : w.cell? ⟨g, 1, none⟩ = some (.int .i64 v)) : cntBox g w = v.toNat := by
  unfold cntBox; rw [h]; rfl
theorem emod_facts_ (p n : Int) (hn : 0 < n) : 0 ≤ p % n ∧ p % n < n := ⟨Int.emod_nonneg _ (by omega), Int.emod_lt_of_pos _ hn⟩
/-- the box holds a request that may be written -/
def BoxR (w : World) (g : Nat) (q : Rq) : Prop := (w.cell? ⟨g, 0, none⟩ = some (.int .i64 q.at_) ∧ w.cell? ⟨g, 1, none⟩ = some (.int .i64 q.count) ∧ w.cell? ⟨g, 2, none⟩ = some (.bool q.write)) ∧ w.frozen? ⟨g, 0, none⟩ = false ∧ w.frozen? ⟨g, 1, none⟩ = false
theorem BoxR.grown {w w' : World} {g : Nat} {q : Rq} {row : Option Nat} (h : BoxR w g q) (hg : w.grownBy w' row) (hne : row ≠ some g) : BoxR w' g q := by
  obtain ⟨⟨a, b, c⟩, d, e⟩ := h
  have hlt := cell_lt a
  have hb := hg.block g hlt hne.symm
  refine ⟨⟨?_, ?_, ?_⟩, ?_, ?_⟩
  · rw [World.cell?_of_block (w := w) hb]; exact a
  · rw [World.cell?_of_block (w := w) hb]; exact b
  · rw [World.cell?_of_block (w := w) hb]; exact c
  · rw [← d]; unfold World.frozen?; simp only [hb]
  · rw [← e]; unfold World.frozen?; simp only [hb]

theorem BoxR.set {w : World} {g : Nat} {q : Rq} (h : BoxR w g q) (a c : Int) : BoxR ((w.setCell ⟨g, 0, none⟩ (.int .i64 a)).setCell ⟨g, 1, none⟩ (.int .i64 c)) g ⟨a, c, q.write⟩ := by
  obtain ⟨⟨x0, x1, x2⟩, y0, y1⟩ := h
  refine ⟨⟨?_, ?_, ?_⟩, ?_, ?_⟩
  · simp [go_sem, x0, x1, x2]
  · simp [go_sem, x0, x1, x2]
  · simp [go_sem, x0, x1, x2]
  · rw [World.frozen?_setCell, World.frozen?_setCell]; exact y0
  · rw [World.frozen?_setCell, World.frozen?_setCell]; exact y1

set_option maxHeartbeats 2000000 in
theorem implSpl_any (r : Rq) (most border : Int) (w : World) :
    Calls Try.prog 21 #[.agg #[.int .i64 r.at_, .int .i64 r.count, .bool r.write], .int .i64 most, .int .i64 border] w (RSl w 33 3 (splR r most border).length (rqC (splR r most border))) := by
  rcases splOk_cases r most border with ⟨q0, h0⟩ | ⟨q0, q1, h0⟩ | ⟨q0, q1, q2, h0⟩ | ⟨q0, q1, q2, h0⟩
  rotate_right
  · have hR0 := hid_ h0; clear h0
    have b0 := okR_iff.1 q0
    have b1 := inB_iff.1 q1
    have b2 := inB_iff.1 q2
    have hSL := hid_ (splP_length most border b1.1 b2.1)
    go_enter Try.func21, Try.ntmps21
    go_wp2_with (first | (go_at_call 36; refine (isRequest_any r _).mono ?_; rintro e w1 ⟨rfl, hb1⟩; obtain ⟨hcw, hfw⟩ := bcell hb1) | (go_at_call 38; refine (within_any _ _ _ _).mono ?_; rintro e w2 ⟨rfl, rfl⟩))
    clear q0 q1 q2
    have hz1 := hb1.size
    simp only [World.size_alloc] at hz1
    have hbx : BoxR w1 w.heap.size r := ⟨⟨by rw [hcw _ _ (by simp)]; simp, by rw [hcw _ _ (by simp)]; simp, by rw [hcw _ _ (by simp)]; simp⟩, by rw [hfw _ _ (by simp)]; simp [go_sem], by rw [hfw _ _ (by simp)]; simp [go_sem]⟩
    have HBX := hid_ hbx; clear hbx hcw hfw
    have HBB := hid_ (((Below.refl w.heap.size w).alloc (Nat.le_refl _) (.cells #[.int .i64 r.at_, .int .i64 r.count, .bool r.write] 33)).trans (hb1.mono (by simp)))
    clear hb1
    go_loopw [7] (fun v wr => ∃ (q : Rq) (out : List Rq), BoxR wr w.heap.size q ∧ (0 ≤ q.at_ ∧ q.at_ ≤ 100200) ∧ (0 ≤ q.count ∧ q.count ≤ 200) ∧ q.write = r.write ∧ (out.length : Int) + q.count ≤ 200 ∧ wr.ownsRow (w.heap.size + 1) 33 3 v out.length (rqC out) ∧ Below w.heap.size w wr ∧ w.heap.size + 1 ≤ wr.heap.size ∧ q.at_ + q.count ≤ 100200 ∧ out ++ splP most border q = splP most border r) (fun _ wr => cntBox w.heap.size wr)
    case atStart => exact ⟨r, [], HBX.out, by omega, by omega, rfl, by simp; omega, World.ownsRow_nil _ _ _ _, HBB.out, by omega, by omega, rfl⟩
    case round =>
      obtain ⟨q, out, hbx, hqa, hqc, hqw, hol, ho, hb, hsz, hac, hs⟩ := hrel
      have HO := hid_ ho; clear ho
      have HS := hid_ hs; clear hs
      have HQW := hid_ hqw; clear hqw
      have HX := hid_ hbx
      have hmb := cntBox_eq hbx.1.2.1
      have HMB := hid_ hmb; clear hmb
      obtain ⟨⟨x0, x1, x2⟩, y0, y1⟩ := hbx
      have hbs := hb.size
      by_cases hlt : 0 < q.count
      · have hst := hid_ (splP_step most border b1.1 b2.1 q (by omega))
        have hbd := splN_bd (most := most) (border := border) (r := q) b1.1 b2.1 (by omega)
        obtain ⟨M, hM⟩ : ∃ M, M = splN most border q := ⟨_, rfl⟩
        rw [← hM] at hst hbd
        unfold splN at hM
        have hM' : min q.count (min most (border - q.at_ % border)) = M := by omega
        have HM := hid_ hM'; clear hM hM'
        have hne : ¬ border = 0 := by omega
        have hmod := emod_facts_ q.at_ border (by omega)
        have hrun := fun W => run_min3 q.count most (border - q.at_ % border) M W HM.out
        go_wp2
        go_still_tail 9, (by kernel_rfl)
        go_wp2_with fail
        simp only [hrun, Result.andThen_ok]
        clear hrun
        have hown2 := HO.out.drew
        have hXd := hid_ (show BoxR wr.drew w.heap.size q from HX.out)
        have hnb := hid_ (show u7.ownBlock ≠ some w.heap.size from fun e => by have := (HO.out.lt _ e).1; omega)
        clear HX
        go_wp2_with ((at_builtin; refine wpList_push _ rfl _ _ 25 rfl (w.heap.size + 1) 33 (.agg #[.int .i64 0, .int .i64 0, .bool false]) 3 24 Try.underlying25 rq_info rfl (by decide) (by decide) _ _ rfl rfl _ _ _ hown2 rfl _ rfl (by simp) (by omega) (by simp; omega) ?_; intro v' w' ho' hg'); clear x0 x1 x2 y0 y1; have hbx2 := hXd.out.grown hg' hnb.out; obtain ⟨⟨x0, x1, x2⟩, y0, y1⟩ := hbx2)
        go_roundw
        case rel =>
          have hb2 := (hb.drew.grown hg' (by simp; omega) (fun g e => by have := (HO.out.lt g e).1; omega) : Below w.heap.size w w')
          have hs2 := hg'.size
          simp only [World.size_drew] at hs2
          have g1 := gb_setCell w' w.heap.size 0 (.int .i64 (q.at_ + M))
          have g2 := gb_setCell (w'.setCell ⟨w.heap.size, 0, none⟩ (.int .i64 (q.at_ + M))) w.heap.size 1 (.int .i64 (q.count - M))
          refine ⟨⟨q.at_ + M, q.count - M, q.write⟩, out ++ [⟨q.at_, M, q.write⟩], BoxR.set (q := q) ⟨⟨x0, x1, x2⟩, y0, y1⟩ _ _, by simp only; omega, by simp only; omega, HQW.out, by simp; omega, own_eq (own_pick (own_pick ho' g1 (by omega)) g2 (by omega)) (by simp) (by rw [rqC_append]; rfl), (hb2.setCell (Nat.le_refl _) _).setCell (Nat.le_refl _) _, by simp; omega, by simp only; omega, ?_⟩
          rw [← HS.out, hst.out]
          simp
        case measure =>
          have hm1 := cntBox_eq ((BoxR.set (q := q) ⟨⟨x0, x1, x2⟩, y0, y1⟩ (q.at_ + M) (q.count - M)).1.2.1)
          rw [HMB.out, hm1]
          simp only
          omega
      · go_wp2
        go_returns
        have hnil := splP_nil most border q (by omega)
        have hS := HS.out
        rw [hnil, List.append_nil] at hS
        exact RSl.of_own' (own_base HO.out (by omega)) hb (by rw [hR0.out, hS]) (by rw [hR0.out, hS])
  all_goals
    have hR0 := hid_ h0; clear h0
    go_enter Try.func21, Try.ntmps21
    go_wp2_with (first | (go_at_call 36; refine (isRequest_any r _).mono ?_; rintro e w1 ⟨rfl, hb1⟩; obtain ⟨hcw, hfw⟩ := bcell hb1) | (go_at_call 38; refine (within_any _ _ _ _).mono ?_; rintro e w2 ⟨rfl, rfl⟩))
    go_returns
    exact RSl.of_own' (World.ownsRow_nil _ _ _ _) (((Below.refl _ _).alloc (Nat.le_refl _) _).trans (hb1.mono (by simp))) (by rw [hR0.out]; rfl) (by rw [hR0.out]; rfl)
end Go.Proofs.Ytmcpkoogcglomaa
