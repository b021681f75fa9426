/-
  Requests: merging.
-/
import Derived.Test.YtmcpkoogcglomaaRqP
import Derived.Test.YtmcpkoogcglomaaApp
import Derived.StillTailTactics
namespace Go.Proofs.Ytmcpkoogcglomaa
open Go.ChangeShapes Go.WideShapes Go.ChangeAt Go.RowKit Go.BigFrame

theorem rqC_set (l : List Rq) (k : Nat) (c : Int) (hk : k < l.length) : (rqC l).set (k * 3 + 1) (.int .i64 c) = rqC (l.set k ⟨l[k].at_, c, l[k].write⟩) := by
  induction l generalizing k with
  | nil => simp at hk
  | cons x r ih =>
    have e : ∀ (y : Rq) (s : List Rq), rqC (y :: s) = Value.int .i64 y.at_ :: .int .i64 y.count :: .bool y.write :: rqC s := fun y s => rfl
    cases k with
    | zero => simp [e]
    | succ k =>
      have hk' : k < r.length := by simpa using hk
      have e2 : (k + 1) * 3 + 1 = (k * 3 + 1) + 1 + 1 + 1 := by omega
      rw [e, e2]
      simp only [List.set_cons_succ, List.getElem_cons_succ]
      rw [ih k hk', e]

theorem joins_lt {most : Int} {a b : Rq} (h1 : ((a.write == b.write) = true)) (h2 : ((a.at_ + a.count == b.at_) = true)) : joins most a b = decide (a.count + b.count ≤ most) := by
  unfold joins; rw [h1, h2]; simp

theorem l9Joins_any (a b : Rq) (most : Int) (w : World) (ha : (0 ≤ a.at_ ∧ a.at_ ≤ 1000000) ∧ 0 ≤ a.count ∧ a.count ≤ 1000000) (hb : (0 ≤ b.at_ ∧ b.at_ ≤ 1000000) ∧ 0 ≤ b.count ∧ b.count ≤ 1000000) :
    Calls Try.prog 42 #[.agg #[.int .i64 a.at_, .int .i64 a.count, .bool a.write], .agg #[.int .i64 b.at_, .int .i64 b.count, .bool b.write], .int .i64 most] w fun e w' => e = .returned (.bool (joins most a b)) ∧ Below w.heap.size w w' := by
  have hj : joins most a b = ((a.write == b.write) && (a.at_ + a.count == b.at_) && decide (a.count + b.count ≤ most)) := rfl
  obtain ⟨⟨_, _⟩, _, _⟩ := ha
  obtain ⟨⟨_, _⟩, _, _⟩ := hb
  have HJ := hid_ hj; clear hj
  obtain ⟨J, hJ⟩ : ∃ J, joins most a b = J := ⟨_, rfl⟩
  rw [hJ]
  have HJJ := hid_ hJ; clear hJ
  obtain ⟨a1, a2, a3⟩ := a
  obtain ⟨b1, b2, b3⟩ := b
  simp only at *
  cases q1 : (a3 == b3)
  · go_enter Try.func42, Try.ntmps42
    go_wp2
    go_returns
    refine ⟨ret_bool ?_, by go_grown⟩
    have := HJ.out
    rw [HJJ.out, q1] at this
    simpa using this.symm
  · cases q2 : (a1 + a2 == b1)
    all_goals
      go_enter Try.func42, Try.ntmps42
      go_wp2
      go_returns
      refine ⟨ret_bool ?_, by go_grown⟩
      have := HJ.out
      rw [HJJ.out, q1, q2] at this
      simpa using this.symm

theorem mr1_any (a : Rq) (b : Rq) (most : Int) (gr gm : Nat) (w : World) (ha : (0 ≤ a.at_ ∧ a.at_ ≤ 1000000) ∧ 0 ≤ a.count ∧ a.count ≤ 1000000) (hb : (0 ≤ b.at_ ∧ b.at_ ≤ 1000000) ∧ 0 ≤ b.count ∧ b.count ≤ 1000000)
    (c0 : w.cell? ⟨gr, 0, none⟩ = some (.int .i64 b.at_)) (c1 : w.cell? ⟨gr, 1, none⟩ = some (.int .i64 b.count)) (c2 : w.cell? ⟨gr, 2, none⟩ = some (.bool b.write)) (c3 : w.cell? ⟨gm, 0, none⟩ = some (.int .i64 most)) :
    Calls Try.prog 44 #[.agg #[.int .i64 a.at_, .int .i64 a.count, .bool a.write], .pointer (some ⟨gr, 0, none⟩), .pointer (some ⟨gm, 0, none⟩)] w fun e w' => e = .returned (.bool (joins most a b)) ∧ Below w.heap.size w w' := by
  have hj : joins most a b = ((a.write == b.write) && (a.at_ + a.count == b.at_) && decide (a.count + b.count ≤ most)) := rfl
  obtain ⟨⟨_, _⟩, _, _⟩ := ha
  obtain ⟨⟨_, _⟩, _, _⟩ := hb
  have HJ := hid_ hj; clear hj
  have l0 := cell_lt c0
  have l3 := cell_lt c3
  simp only at l0 l3
  obtain ⟨J, hJ⟩ : ∃ J, joins most a b = J := ⟨_, rfl⟩
  rw [hJ]
  have HJJ := hid_ hJ; clear hJ
  obtain ⟨a1, a2, a3⟩ := a
  obtain ⟨b1, b2, b3⟩ := b
  simp only at *
  cases q1 : (a3 == b3)
  · go_enter Try.func44, Try.ntmps44
    go_wp2
    go_returns
    refine ⟨ret_bool ?_, by go_grown⟩
    have := HJ.out
    rw [HJJ.out, q1] at this
    simpa using this.symm
  · cases q2 : (a1 + a2 == b1)
    all_goals
      go_enter Try.func44, Try.ntmps44
      go_wp2
      go_returns
      refine ⟨ret_bool ?_, by go_grown⟩
      have := HJ.out
      rw [HJJ.out, q1, q2] at this
      simpa using this.symm

/-- small requests -/
def SmR (l : List Rq) : Prop := ∀ x ∈ l, (0 ≤ x.at_ ∧ x.at_ ≤ 1000000) ∧ 0 ≤ x.count ∧ x.count ≤ 1000000
theorem SmR.get {l : List Rq} (h : SmR l) (k : Nat) (hk : k < l.length) : (0 ≤ l[k].at_ ∧ l[k].at_ ≤ 1000000) ∧ 0 ≤ l[k].count ∧ l[k].count ≤ 1000000 := h _ (List.getElem_mem hk)
theorem rv_sm {l : List Rq} (h : rv l = true) : SmR l := fun x hx => by
  have := okR_iff.1 ((rv_iff.1 h).1 x hx); omega
theorem mrg_sm {l : List Rq} {most : Int} (h : rv l = true) (hm : most ≤ 200) (k : Nat) : rv (mrg most (l.take k)) = true := by
  apply mrg_ok _ _ _ hm
  rw [rv_iff] at h ⊢
  exact ⟨fun x hx => h.1 x (List.mem_of_mem_take hx), Nat.le_trans (List.length_take_le' _ _) h.2⟩

set_option maxHeartbeats 1000000 in
theorem indexM_any (fl : List Rq) (A : Option Addr) (n c : Nat) (b : Rq) (most : Int) (gr gm : Nat) (w : World) (hn : fl.length = n) (hm : n ≤ maxLen) (hs : SmR fl) (hb : (0 ≤ b.at_ ∧ b.at_ ≤ 1000000) ∧ 0 ≤ b.count ∧ b.count ≤ 1000000)
    (c0 : w.cell? ⟨gr, 0, none⟩ = some (.int .i64 b.at_)) (c1 : w.cell? ⟨gr, 1, none⟩ = some (.int .i64 b.count)) (c2 : w.cell? ⟨gr, 2, none⟩ = some (.bool b.write)) (c3 : w.cell? ⟨gm, 0, none⟩ = some (.int .i64 most)) (hR : Rd w 3 A n (rqC fl)) :
    Calls Try.prog 43 #[.slice A n c, .func (.func 44) #[] #[.pointer (some ⟨gr, 0, none⟩), .pointer (some ⟨gm, 0, none⟩)]] w fun e w' => e = .returned (.int .i64 (idxP (fun r => joins most r b) 0 fl)) ∧ Below w.heap.size w w' := by
  unfold maxLen at hm
  have HR := hid_ hR; clear hR
  have HN := hid_ hn; clear hn
  have HS := hid_ hs; clear hs
  have C0 := hid_ c0; have C1 := hid_ c1; have C2 := hid_ c2; have C3 := hid_ c3
  clear c0 c1 c2 c3
  go_enter Try.func43, Try.ntmps43
  go_wp2
  go_loopw [8] (fun v wr => ∃ k : Nat, k ≤ n ∧ v = .int .i64 k ∧ Below w.heap.size w wr ∧ idxP (fun r => joins most r b) 0 fl = idxP (fun r => joins most r b) k (fl.drop k)) (fun v _ => n - (intOf v).toNat)
  case atStart => exact ⟨0, Nat.zero_le _, rfl, Below.refl _ _, by simp⟩
  case round =>
    obtain ⟨k, hk, rfl, hbw, hid⟩ := hrel
    have HI := hid_ hid; clear hid
    by_cases hlt : k < n
    · have hlt' : k < fl.length := by rw [HN.out]; exact hlt
      obtain ⟨bk, o, rfl, h0, h1, h2⟩ := (HR.out.below hbw).rq k hlt HN.out
      have d0 := (hbw.cell (cell_lt C0.out)).trans C0.out
      have d1 := (hbw.cell (cell_lt C1.out)).trans C1.out
      have d2 := (hbw.cell (cell_lt C2.out)).trans C2.out
      have d3 := (hbw.cell (cell_lt C3.out)).trans C3.out
      have HD := hid_ (And.intro d0 (And.intro d1 (And.intro d2 d3))); clear d0 d1 d2 d3
      have bk1 := hid_ (HS.out.get k hlt')
      cases q : joins most fl[k] b
      · go_wp2_with (go_at_call 44; refine (mr1_any fl[k] b most gr gm _ bk1.out hb HD.out.1 HD.out.2.1 HD.out.2.2.1 HD.out.2.2.2).mono ?_; rintro e w1 ⟨rfl, hb1⟩)
        go_roundw
        case rel => exact ⟨k + 1, by omega, by go_num, hbw.trans (hb1.mono hbw.size), by rw [HI.out, idxP_step _ fl k hlt', if_neg (by simp [q])]⟩
        case measure => simp [intOf] <;> omega
      · go_wp2_with (go_at_call 44; refine (mr1_any fl[k] b most gr gm _ bk1.out hb HD.out.1 HD.out.2.1 HD.out.2.2.1 HD.out.2.2.2).mono ?_; rintro e w1 ⟨rfl, hb1⟩)
        go_returns
        exact ⟨ret_int (by rw [HI.out, idxP_step _ fl k hlt', if_pos (by simp [q])]), hbw.trans (hb1.mono hbw.size)⟩
    · go_wp2
      go_returns
      refine ⟨ret_int ?_, hbw⟩
      rw [HI.out, List.drop_of_length_le (by rw [HN.out]; omega)]; rfl

theorem mrR_cases (l : List Rq) (most : Int) : (rv l = false ∧ mrR l most = []) ∨ (rv l = true ∧ inB most 1 200 = false ∧ mrR l most = []) ∨ (rv l = true ∧ inB most 1 200 = true ∧ mrR l most = mrg most l) := by
  unfold mrR
  cases q1 : rv l <;> cases q2 : inB most 1 200 <;> simp

set_option maxHeartbeats 2000000 in
theorem implMrg_any (fl : List Rq) (A : Option Addr) (n c : Nat) (most : Int) (w : World) (hn : fl.length = n) (hm : n ≤ 1048576) (hc : n ≤ c) (hcm : c ≤ maxLen) (hR : Rd w 3 A n (rqC fl)) :
    Calls Try.prog 28 #[.slice A n c, .int .i64 most] w (RSl w 33 3 (mrR fl most).length (rqC (mrR fl most))) := by
  have HR := hid_ hR; clear hR
  have HN := hid_ hn; clear hn
  have HC := hid_ hcm; clear hcm
  rcases mrR_cases fl most with ⟨q1, h0⟩ | ⟨q1, q2, h0⟩ | ⟨q1, q2, h0⟩
  · have hR0 := hid_ h0; clear h0
    go_enter Try.func28, Try.ntmps28
    go_wp2_with (go_at_call 15; refine (implRV_any fl A n c _ HN.out (by omega) hc HC.out (HR.out.alloc _)).mono ?_; rintro e w1 ⟨rfl, hb1⟩)
    go_returns
    exact RSl.of_own' (World.ownsRow_nil _ _ _ _) (((Below.refl _ _).alloc (Nat.le_refl _) _).trans (hb1.mono (by simp))) (by rw [hR0.out]; rfl) (by rw [hR0.out]; rfl)
  · have hR0 := hid_ h0; clear h0
    go_enter Try.func28, Try.ntmps28
    go_wp2_with (first | (go_at_call 15; refine (implRV_any fl A n c _ HN.out (by omega) hc HC.out (HR.out.alloc _)).mono ?_; rintro e w1 ⟨rfl, hb1⟩; obtain ⟨hcw, hfw⟩ := bcell hb1) | (go_at_call 38; refine (within_any _ _ _ _).mono ?_; rintro e w2 ⟨rfl, rfl⟩))
    go_returns
    exact RSl.of_own' (World.ownsRow_nil _ _ _ _) (((Below.refl _ _).alloc (Nat.le_refl _) _).trans (hb1.mono (by simp))) (by rw [hR0.out]; rfl) (by rw [hR0.out]; rfl)
  · have hR0 := hid_ h0; clear h0
    have b2 := inB_iff.1 q2
    have HS := hid_ (rv_sm q1)
    have HM := hid_ (fun k => mrg_sm (l := fl) (most := most) q1 b2.2 k)
    have hl30 := rv_length q1
    rw [HN.out] at hl30
    go_enter Try.func28, Try.ntmps28
    go_wp2_with (first | (go_at_call 15; refine (implRV_any fl A n c _ HN.out (by omega) hc HC.out (HR.out.alloc _)).mono ?_; rintro e w1 ⟨rfl, hb1⟩; obtain ⟨hcw, hfw⟩ := bcell hb1) | (go_at_call 38; refine (within_any _ _ _ _).mono ?_; rintro e w2 ⟨rfl, rfl⟩))
    clear q1 q2
    have hbox : w1.cell? ⟨w.heap.size, 0, none⟩ = some (.int .i64 most) := by rw [hcw _ _ (by simp)]; simp
    have HBX := hid_ hbox; clear hbox hcw hfw
    have hz1 := hb1.size
    simp only [World.size_alloc] at hz1
    have HBB := hid_ (((Below.refl w.heap.size w).alloc (Nat.le_refl _) (.cells #[.int .i64 most] 3)).trans (hb1.mono (by simp)))
    clear hb1
    go_loopw [5, 19] (fun v i wr => ∃ k : Nat, k ≤ n ∧ i = .int .i64 k ∧ wr.ownsRow w1.heap.size 33 3 v (mrg most (fl.take k)).length (rqC (mrg most (fl.take k))) ∧ Below w1.heap.size w1 wr) (fun _ i _ => n - (intOf i).toNat)
    case atStart => exact ⟨0, Nat.zero_le _, rfl, World.ownsRow_nil _ _ _ _, Below.refl _ _⟩
    case round =>
      obtain ⟨k, hk, rfl, ho, hb⟩ := hrel
      have HO := hid_ ho; clear ho
      have hbs := hb.size
      have hbx := (hb.cell (cell_lt HBX.out)).trans HBX.out
      by_cases hlt : k < n
      · have hlt' : k < fl.length := by rw [HN.out]; exact hlt
        obtain ⟨b, o, rfl, h0, h1, h2⟩ := (HR.out.below (HBB.out.trans (hb.mono (by omega)))).rq k hlt HN.out
        have hT := hid_ (mrg_take most fl k hlt')
        have hsm := hid_ (HS.out.get k hlt')
        have hmm := hid_ (HM.out k)
        have hml := mrg_length most (fl.take k)
        have hml2 : (fl.take k).length ≤ k := List.length_take_le _ _
        obtain ⟨X, hX⟩ : ∃ X, mrg most (fl.take k) = X := ⟨_, rfl⟩
        rw [hX] at HO hT hmm hml
        clear hX
        obtain ⟨A5, c5, rfl, hc5, hcm5⟩ := own_shape HO.out
        have HC5 := hid_ hcm5; clear hcm5
        go_wp2_with fail
        refine (indexM_any X _ _ _ fl[k] most wr.heap.size w.heap.size _ rfl (by unfold maxLen; omega) (rv_sm hmm.out) hsm.out (by simp) (by simp) (by simp) (by rw [World.cell?_alloc_past _ _ _ (by omega)]; exact hbx) (own_rd (HO.out.alloc _))).mono ?_
        rintro e w3 ⟨rfl, hb3⟩
        have hz3 := hb3.size
        simp only [World.size_alloc] at hz3
        have ho3 := own_below (HO.out.alloc (.cells #[.int .i64 fl[k].at_, .int .i64 fl[k].count, .bool fl[k].write] 33)) hb3
        have HO3 := hid_ ho3; clear ho3
        have hbb := (hb.alloc hb.size (.cells #[.int .i64 fl[k].at_, .int .i64 fl[k].count, .bool fl[k].write] 33)).trans (hb3.mono (by simp; omega))
        have r0 : w3.cell? ⟨wr.heap.size, 0, none⟩ = some (.int .i64 fl[k].at_) := by rw [hb3.cell (by simp)]; simp
        have r1 : w3.cell? ⟨wr.heap.size, 1, none⟩ = some (.int .i64 fl[k].count) := by rw [hb3.cell (by simp)]; simp
        have r2 : w3.cell? ⟨wr.heap.size, 2, none⟩ = some (.bool fl[k].write) := by rw [hb3.cell (by simp)]; simp
        rcases idxP_cases (fun r => joins most r fl[k]) X 0 with ⟨e0, e1⟩ | ⟨j, hj, e0, e1, e2⟩
        · rw [e0]
          have hI := hid_ (mIns_no most fl[k] X e1); clear e0 e1
          go_wp2_with (at_builtin; refine wpList_push _ rfl _ _ 25 rfl w1.heap.size 33 (.agg #[.int .i64 0, .int .i64 0, .bool false]) 3 24 Try.underlying25 rq_info rfl (by decide) (by decide) _ _ rfl rfl _ _ _ HO3.out rfl _ rfl (by simp) (by omega) (by omega) ?_; intro v' w' ho' hg')
          go_roundw
          case rel => exact ⟨k + 1, by omega, by go_num, own_eq ho' (by rw [hT.out, hI.out]; simp) (by rw [hT.out, hI.out, rqC_append]; rfl), below_push hbb HO3.out hg' (by omega)⟩
          case measure => simp [intOf] <;> omega
        · rw [e0]
          have hI := hid_ (mIns_at most fl[k] X j hj e2 e1); clear e0 e1 e2
          have hjm := hid_ ((rv_sm hmm.out).get j hj)
          obtain ⟨g, rfl, hB, hgl, hcells, hfz⟩ := own_block HO3.out (by omega)
          have x1 := hcells (j * 3 + 1) _ (rqC_get X j hj).2.1
          have f1 := hfz (j * 3 + 1)
          clear hcells hfz
          have hjl : (j : Int) < (X.length : Int) := by omega
          have hj0 : (0 : Int) ≤ (j : Int) := by omega
          rw [Nat.zero_add]
          have hne : g ≠ wr.heap.size := by
            obtain ⟨g', hA, h1, h2, _⟩ := own_block HO.out (by omega)
            injection hA with hA; injection hA with hA
            omega
          have hs1 := hjm.out
          have hs2 := hsm.out
          go_wp2
          go_still_tail 10, (by kernel_rfl)
          go_wp2
          go_roundw
          case rel =>
            refine ⟨k + 1, by omega, by go_num, own_eq (HO3.out.stored (j * 3 + 1) (.int .i64 (X[j].count + fl[k].count))).1.drew (by rw [hT.out, hI.out]; simp) ?_, hbb.drew.setCell (by omega) _⟩
            rw [hT.out, hI.out, rqC_set X j _ hj]
          case measure => exact meas_ hlt
      · go_wp2
        go_returns
        have hk' : fl.take k = fl := List.take_of_length_le (by rw [HN.out]; omega)
        exact RSl.of_own' (own_base HO.out (by omega)) (HBB.out.trans (hb.mono (by omega))) (by rw [hR0.out, hk']) (by rw [hR0.out, hk'])
end Go.Proofs.Ytmcpkoogcglomaa
