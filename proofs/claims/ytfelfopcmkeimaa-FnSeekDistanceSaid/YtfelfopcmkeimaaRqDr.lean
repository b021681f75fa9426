/-
  Requests: what is drawn.
-/
import Derived.Test.YtfelfopcmkeimaaRqB
import Derived.Test.YtfelfopcmkeimaaDraw
import Derived.Test.YtfelfopcmkeimaaApp
namespace Go.Proofs.Ytfelfopcmkeimaa
open Go.ChangeShapes Go.WideShapes Go.ChangeAt Go.RowKit Go.BigFrame

theorem gb_own {w wr w' : World} {row : Option Nat} {B E k n : Nat} {v : Value} {xs : List Value} (h : w.grownBy wr row) (ho : wr.ownsRow B E k v n xs) (hg : wr.grownBy w' v.ownBlock) (hB : w.heap.size ≤ B) : w.grownBy w' row :=
  ⟨hg.os.trans h.os, hg.tape.trans h.tape, hg.output.trans h.output, Nat.le_trans h.size hg.size, fun i hi hn =>
    (hg.block i (Nat.lt_of_lt_of_le hi h.size) (fun e => by have := (ho.lt i e.symm).1; omega)).trans (h.block i hi hn)⟩
theorem rdr_own {wr w' : World} {g : Nat} {p : Int} {B E k n : Nat} {v : Value} {xs : List Value} (h : Rdr wr g p) (ho : wr.ownsRow B E k v n xs) (hg : wr.grownBy w' v.ownBlock) (hB : g < B) : Rdr w' g p :=
  h.keep (fun b hb => hg.block b (by have := h.lt; omega) (fun e => by have := (ho.lt b e.symm).1; omega))
theorem gb_set_new {w wr : World} {row : Option Nat} {b o : Nat} {v : Value} (h : w.grownBy wr row) (hb : w.heap.size ≤ b) : w.grownBy (wr.setCell ⟨b, o, none⟩ v) row :=
  ⟨h.os, h.tape, h.output, by simpa using h.size, fun i hi hn => (Below.heap_setCell _ _ _ _ (show i ≠ b by omega)).trans (h.block i hi hn)⟩
theorem rdr_set {w : World} {g : Nat} {p : Int} {b o : Nat} {v : Value} (h : Rdr w g p) (hb : g < b) : Rdr (w.setCell ⟨b, o, none⟩ v) g p :=
  h.keep (fun i hi => Below.heap_setCell _ _ _ _ (show i ≠ b by omega))

/-- how long a slice is -/
def lenV : Value → Nat
  | .slice _ n _ => n
  | _ => 0
/-- a box that holds a request and may be written -/
def BoxQ (w : World) (g : Nat) (q : Rq) : Prop := (w.cell? ⟨g, 0, none⟩ = some (.int .i64 q.at_) ∧ w.cell? ⟨g, 1, none⟩ = some (.int .i64 q.count) ∧ w.cell? ⟨g, 2, none⟩ = some (.bool q.write)) ∧ w.frozen? ⟨g, 0, none⟩ = false ∧ w.frozen? ⟨g, 1, none⟩ = false ∧ w.frozen? ⟨g, 2, none⟩ = false
theorem BoxQ.grown {w w' : World} {g : Nat} {q : Rq} {row : Option Nat} (h : BoxQ w g q) (hg : w.grownBy w' row) (hne : row ≠ some g) : BoxQ w' g q := by
  obtain ⟨⟨a, b, c⟩, d, e, f⟩ := h
  have hlt := cell_lt a
  have hb := hg.block g hlt hne.symm
  refine ⟨⟨?_, ?_, ?_⟩, ?_, ?_, ?_⟩
  · rw [World.cell?_of_block (w := w) hb]; exact a
  · rw [World.cell?_of_block (w := w) hb]; exact b
  · rw [World.cell?_of_block (w := w) hb]; exact c
  · rw [← d]; unfold World.frozen?; simp only [hb]
  · rw [← e]; unfold World.frozen?; simp only [hb]
  · rw [← f]; unfold World.frozen?; simp only [hb]
theorem BoxQ.new (w : World) (q : Rq) (g : Nat) (hg : w.heap.size = g) : BoxQ (w.alloc (.cells #[.int .i64 q.at_, .int .i64 q.count, .bool q.write] 31)) g q := by
  subst hg
  refine ⟨⟨?_, ?_, ?_⟩, ?_, ?_, ?_⟩ <;> simp [go_sem]

/-- drawn so far -/
def DRq (l : List Rq) : Prop := ∀ x ∈ l, 0 ≤ x.at_ ∧ 1 ≤ x.count ∧ x.count ≤ 12 ∧ x.at_ + x.count ≤ 111 + 12 * (l.length : Int)
theorem DRq.push {l : List Rq} (h : DRq l) (x : Rq) (h0 : 0 ≤ x.at_) (h1 : 1 ≤ x.count) (h2 : x.count ≤ 12) (h3 : x.at_ ≤ 111 + 12 * (l.length : Int)) : DRq (l ++ [x]) := by
  intro y hy
  rcases List.mem_append.1 hy with hy | hy
  · have := h y hy; simp; omega
  · simp at hy; subst hy; simp; omega
/-- drawn -/
def DrR (l : List Rq) : Prop := ∀ x ∈ l, -1 ≤ x.at_ ∧ (x.at_ ≤ 300 ∨ x.at_ = 100001) ∧ 0 ≤ x.count ∧ x.count ≤ 201
theorem DRq.dr {l : List Rq} (h : DRq l) (hl : l.length ≤ 8) : DrR l := fun x hx => by have := h x hx; omega
theorem DrR.set {l : List Rq} (h : DrR l) (k : Nat) (x : Rq) (h0 : -1 ≤ x.at_) (h1 : x.at_ ≤ 300 ∨ x.at_ = 100001) (h2 : 0 ≤ x.count) (h3 : x.count ≤ 201) : DrR (l.set k x) := by
  intro y hy
  rcases List.mem_or_eq_of_mem_set hy with hy | rfl
  · exact h y hy
  · exact ⟨h0, h1, h2, h3⟩
theorem DrR.append {a b : List Rq} (ha : DrR a) (hb : DrR b) : DrR (a ++ b) := fun x hx => by
  rcases List.mem_append.1 hx with hx | hx
  · exact ha x hx
  · exact hb x hx
theorem rqC_set0 (l : List Rq) (k : Nat) (c : Int) (hk : k < l.length) : (rqC l).set (k * 3) (.int .i64 c) = rqC (l.set k ⟨c, l[k].count, l[k].write⟩) := by
  induction l generalizing k with
  | nil => simp at hk
  | cons x r ih =>
    have e : ∀ (y : Rq) (s : List Rq), rqC (y :: s) = Value.int .i64 y.at_ :: .int .i64 y.count :: .bool y.write :: rqC s := fun y s => rfl
    cases k with
    | zero => simp [e]
    | succ k =>
      have hk' : k < r.length := by simpa using hk
      have e2 : (k + 1) * 3 = (k * 3) + 1 + 1 + 1 := by omega
      rw [e, e2]
      simp only [List.set_cons_succ, List.getElem_cons_succ]
      rw [ih k hk', e]
theorem rqC_set1 (l : List Rq) (k : Nat) (c : Int) (hk : k < l.length) : (rqC l).set (k * 3 + 1) (.int .i64 c) = rqC (l.set k ⟨l[k].at_, c, l[k].write⟩) := by
  induction l generalizing k with
  | nil => simp at hk
  | cons x r ih =>
    have e : ∀ (y : Rq) (s : List Rq), rqC (y :: s) = Value.int .i64 y.at_ :: .int .i64 y.count :: .bool y.write :: rqC s := fun y s => rfl
    cases k with
    | zero => simp [e]
    | succ k =>
      have hk' : k < r.length := by simpa using hk
      have e2 : (k + 1) * 3 + 1 = (k * 3 + 1) + 1 + 1 + 1 := by omega
      rw [e, e2]
      simp only [List.set_cons_succ, List.getElem_cons_succ]
      rw [ih k hk', e]

/-- a drawn list of requests, of the call's own -/
def DrawnR (g : Nat) (q : Int) (w : World) (e : Ending) (w' : World) : Prop :=
  ∃ (l : List Rq) (A : Option Addr) (c : Nat), e = .returned (.slice A l.length c) ∧ l.length ≤ 60 ∧ l.length ≤ c ∧ c ≤ maxLen ∧ DrR l ∧ w'.ownsRow w.heap.size 31 3 (.slice A l.length c) l.length (rqC l) ∧ Rdr w' g q ∧ w.grownBy w' (some g)
theorem DrawnR.mk_ {g : Nat} {q p : Int} {w w' : World} {v : Value} (l : List Rq) (hl : l.length ≤ 60) (hd : DrR l) (ho : w'.ownsRow w.heap.size 31 3 v l.length (rqC l)) (hR : Rdr w' g p) (hp : p ≤ q) (hg : w.grownBy w' (some g)) : DrawnR g q w (.returned v) w' := by
  obtain ⟨A, c, rfl, h1, h2⟩ := own_shape ho
  exact ⟨l, A, c, rfl, hl, h1, h2, hd, ho, hR.mono hp, hg⟩

set_option maxHeartbeats 2000000 in
theorem l20Requests_any (g : Nat) (n : Int) (w : World) (hn1 : -1000000 ≤ n) (hn : n ≤ 1000000) (hR : Rdr w g 0) :
    Calls Try.prog 37 #[.pointer (some ⟨g, 0, none⟩), .int .i64 n] w (DrawnR g 200 w) := by
  have hlt := hR.lt
  have HR := hid_ (hR.alloc (.cells #[] 31)); clear hR
  have G := hid_ (World.grownBy_alloc w (.cells #[] 31) (some g))
  have HO := hid_ (own_empty w 31 3)
  go_enter Try.func37, Try.ntmps37
  go_wp2_with fail
  refine (pick_any g (0) 9 _ (by omega) (by omega) (by omega) HR.out).mono ?_
  rintro e w1 ⟨k1, rfl, hk10, hk11, hx_, hr_, hg_⟩
  replace hk11 := hk11 (by omega)
  clear hx_
  have HGo := hid_ hg_
  have hs_hg_ := hg_.size
  try simp only [World.size_alloc, World.size_setCell] at hs_hg_
  replace HO := hid_ (own_pick HO.out hg_ hlt)
  replace G := hid_ (gb_trans G.out hg_); clear hg_
  replace HR := hid_ hr_; clear hr_
  go_wp2
  go_loopw [5, 6] (fun v i wr => ∃ (k : Int) (l : List Rq), 0 ≤ k ∧ k + l.length ≤ 8 ∧ i = .int .i64 k ∧ wr.ownsRow w.heap.size 31 3 v l.length (rqC l) ∧ Rdr wr g (1 + 6 * l.length) ∧ w.grownBy wr (some g) ∧ DRq l) (fun _ i _ => (intOf i).toNat)
  case atStart => exact ⟨k1, [], by omega, by simp; omega, rfl, HO.out, HR.out.mono (by simp), G.out, fun x hx => by simp at hx⟩
  case round =>
    obtain ⟨k, l, k0, hkl, rfl, ho, hr, hg, hdq⟩ := hrel
    clear HO HR G
    have HO := hid_ ho; clear ho
    have HR := hid_ hr; clear hr
    have G := hid_ hg; clear hg
    have HD := hid_ hdq; clear hdq
    have hsz := G.out.size
    by_cases hlt2 : 0 < k
    · go_wp2_with fail
      refine (pick_any g ((1 + 6 * l.length)) 100 _ (by omega) (by omega) (by omega) HR.out).mono ?_
      rintro e w2 ⟨k2, rfl, hk20, hk21, hx_, hr_, hg_⟩
      replace hk21 := hk21 (by omega)
      clear hx_
      have HGo := hid_ hg_
      have hs_hg_ := hg_.size
      try simp only [World.size_alloc, World.size_setCell] at hs_hg_
      replace HO := hid_ (own_pick HO.out hg_ hlt)
      replace G := hid_ (gb_trans G.out hg_); clear hg_
      replace HR := hid_ hr_; clear hr_
      go_wp2_with fail
      refine (pick_any g ((1 + 6 * l.length + 1)) 12 _ (by omega) (by omega) (by omega) HR.out).mono ?_
      rintro e w3 ⟨k3, rfl, hk30, hk31, hx_, hr_, hg_⟩
      replace hk31 := hk31 (by omega)
      clear hx_
      have HGo := hid_ hg_
      have hs_hg_ := hg_.size
      try simp only [World.size_alloc, World.size_setCell] at hs_hg_
      replace HO := hid_ (own_pick HO.out hg_ hlt)
      replace G := hid_ (gb_trans G.out hg_); clear hg_
      replace HR := hid_ hr_; clear hr_
      go_wp2_with fail
      refine (pick_any g ((1 + 6 * l.length + 1 + 1)) 3 _ (by omega) (by omega) (by omega) HR.out).mono ?_
      rintro e w4 ⟨k4, rfl, hk40, hk41, hx_, hr_, hg_⟩
      replace hk41 := hk41 (by omega)
      clear hx_
      have HGo := hid_ hg_
      have hs_hg_ := hg_.size
      try simp only [World.size_alloc, World.size_setCell] at hs_hg_
      replace HO := hid_ (own_pick HO.out hg_ hlt)
      replace G := hid_ (gb_trans G.out hg_); clear hg_
      replace HR := hid_ hr_; clear hr_
      have hs4 := G.out.size
      obtain ⟨A, c, rfl, hc1, hc2⟩ := own_shape HO.out
      have HC2 := hid_ hc2; clear hc2
      by_cases hl0 : l.length = 0
      · have hl1 : l = [] := List.eq_nil_of_length_eq_zero hl0
        subst hl1
        simp only [List.length_nil] at *
        go_wp2_with (at_builtin; refine wpList_push _ rfl _ _ 23 rfl w.heap.size 31 (.agg #[.int .i64 0, .int .i64 0, .bool false]) 3 24 Try.underlying23 rq_info rfl (by decide) (by decide) _ _ rfl rfl _ _ _ (HO.out.alloc _) rfl _ rfl (by simp) (by omega) (by simp; omega) ?_; intro v' w' ho' hg')
        go_roundw
        case rel =>
          refine ⟨k - 1, [⟨k2, 1 + k3, k4 == 0⟩], by omega, by simp; omega, by go_num, own_eq ho' (by simp) (by simp [rqC, Rq.row]), ?_, gb_own (gb_trans G.out (World.grownBy_alloc _ _ _)) (HO.out.alloc _) hg' (Nat.le_refl _), DRq.push (l := []) (fun x hx => by simp at hx) _ (by simp only; omega) (by simp only; omega) (by simp only; omega) (by simp; omega)⟩
          exact (rdr_own (HR.out.alloc _) (HO.out.alloc _) hg' hlt).mono (by simp)
        case measure => simp [intOf] <;> omega
      · have hpos : (0 : Int) < (l.length : Int) := by omega
        have hpn : 0 < l.length := by omega
        obtain ⟨gb, rfl, hB, hgl4, _, _⟩ := own_block HO.out hpn
        have HX := hid_ (BoxQ.new w4 ⟨k2, 1 + k3, k4 == 0⟩ _ rfl)
        replace HO := hid_ (HO.out.alloc (.cells #[.int .i64 k2, .int .i64 (1 + k3), .bool (k4 == 0)] 31))
        replace HR := hid_ (HR.out.alloc (.cells #[.int .i64 k2, .int .i64 (1 + k3), .bool (k4 == 0)] 31))
        replace G := hid_ (gb_trans G.out (World.grownBy_alloc w4 (.cells #[.int .i64 k2, .int .i64 (1 + k3), .bool (k4 == 0)] 31) (some g)))
        go_wp2_with fail
        refine (pick_any g ((1 + 6 * l.length + 1 + 1 + 1)) 2 _ (by omega) (by omega) (by omega) HR.out).mono ?_
        rintro e w5 ⟨k5, rfl, hk50, hk51, hx_, hr_, hg_⟩
        replace hk51 := hk51 (by omega)
        clear hx_
        have HGo := hid_ hg_
        have hs_hg_ := hg_.size
        try simp only [World.size_alloc, World.size_setCell] at hs_hg_
        replace HO := hid_ (own_pick HO.out hg_ hlt)
        replace HX := hid_ (HX.out.grown hg_ (by simp; omega))
        replace G := hid_ (gb_trans G.out hg_); clear hg_
        replace HR := hid_ hr_; clear hr_
        by_cases hk5 : k5 = 0
        · have hk5' : (k5 == 0) = true := by simp [hk5]
          have HK5 := hid_ hk5; clear hk5
          go_wp2_with fail
          refine (pick_any g ((1 + 6 * l.length + 1 + 1 + 1 + 1)) l.length _ (by omega) (by omega) (by omega) HR.out).mono ?_
          rintro e w6 ⟨j, rfl, hj0, hj1, hx_, hr_, hg_⟩
          replace hj1 := hj1 (by omega)
          clear hx_
          have HGo := hid_ hg_
          have hs_hg_ := hg_.size
          try simp only [World.size_alloc, World.size_setCell] at hs_hg_
          replace HO := hid_ (own_pick HO.out hg_ hlt)
          replace HX := hid_ (HX.out.grown hg_ (by simp; omega))
          replace G := hid_ (gb_trans G.out hg_); clear hg_
          replace HR := hid_ hr_; clear hr_
          obtain ⟨j, rfl⟩ := Int.eq_ofNat_of_zero_le hj0
          have hjl : j < l.length := by omega
          have y0 := (HO.out.cellAt (j * 3) (by omega)).trans (rqC_get l j hjl).1
          have y1 := (HO.out.cellAt (j * 3 + 1) (by omega)).trans (rqC_get l j hjl).2.1
          have y2 := (HO.out.cellAt (j * 3 + 2) (by omega)).trans (rqC_get l j hjl).2.2
          obtain ⟨⟨x0, x1, x2⟩, f0, f1, f2⟩ := HX.out
          have hdj := HD.out _ (List.getElem_mem hjl)
          have hs6 := G.out.size
          have hne : w6.heap.size ≠ w4.heap.size := by omega
          have hne' : w4.heap.size ≠ w6.heap.size := by omega
          have hl46 : w4.heap.size < w6.heap.size := by omega
          simp only at x0 x1 x2
          have HOs := hid_ ((own_set (own_set HO.out (b := w4.heap.size) (o := 0) (x := .int .i64 (l[j].at_ + l[j].count)) (by simp [Value.ownBlock]; omega)) (b := w4.heap.size) (o := 2) (x := .bool l[j].write) (by simp [Value.ownBlock]; omega)).alloc (.cells #[.int .i64 l[j].at_, .int .i64 l[j].count, .bool l[j].write] 31))
          have HRs := hid_ ((rdr_set (rdr_set HR.out (b := w4.heap.size) (o := 0) (v := .int .i64 (l[j].at_ + l[j].count)) (by omega)) (b := w4.heap.size) (o := 2) (v := .bool l[j].write) (by omega)).alloc (.cells #[.int .i64 l[j].at_, .int .i64 l[j].count, .bool l[j].write] 31))
          have Gs := hid_ (gb_trans (gb_set_new (gb_set_new G.out (b := w4.heap.size) (o := 0) (v := .int .i64 (l[j].at_ + l[j].count)) (by omega)) (b := w4.heap.size) (o := 2) (v := .bool l[j].write) (by omega)) (World.grownBy_alloc _ (.cells #[.int .i64 l[j].at_, .int .i64 l[j].count, .bool l[j].write] 31) (some g)))
          go_wp2_with (at_builtin; refine wpList_push _ rfl _ _ 23 rfl w.heap.size 31 (.agg #[.int .i64 0, .int .i64 0, .bool false]) 3 24 Try.underlying23 rq_info rfl (by decide) (by decide) _ _ rfl rfl _ _ _ HOs.out rfl _ rfl (by simp) (by omega) (by simp; omega) ?_; intro v' w' ho' hg')
          go_roundw
          case rel =>
            refine ⟨k - 1, l ++ [⟨l[j].at_ + l[j].count, 1 + k3, l[j].write⟩], by omega, by simp; omega, by go_num, own_eq ho' (by simp) (by rw [rqC_append]; rfl), ?_, gb_own Gs.out HOs.out hg' (Nat.le_refl _), DRq.push HD.out _ (by simp only; omega) (by simp only; omega) (by simp only; omega) (by simp only; omega)⟩
            exact (rdr_own HRs.out HOs.out hg' hlt).mono (by simp; omega)
          case measure => simp [intOf] <;> omega
        · have hk5' : (k5 == 0) = false := by simp [hk5]
          obtain ⟨⟨x0, x1, x2⟩, f0, f1, f2⟩ := HX.out
          go_wp2_with (at_builtin; refine wpList_push _ rfl _ _ 23 rfl w.heap.size 31 (.agg #[.int .i64 0, .int .i64 0, .bool false]) 3 24 Try.underlying23 rq_info rfl (by decide) (by decide) _ _ rfl rfl _ _ _ HO.out rfl _ rfl (by simp) (by omega) (by omega) ?_; intro v' w' ho' hg')
          go_roundw
          case rel =>
            refine ⟨k - 1, l ++ [⟨k2, 1 + k3, k4 == 0⟩], by omega, by simp; omega, by go_num, own_eq ho' (by simp) (by rw [rqC_append]; rfl), ?_, gb_own G.out HO.out hg' (Nat.le_refl _), DRq.push HD.out _ (by simp only; omega) (by simp only; omega) (by simp only; omega) (by simp only; omega)⟩
            exact (rdr_own HR.out HO.out hg' hlt).mono (by simp; omega)
          case measure => simp [intOf] <;> omega
    · obtain ⟨A, c, rfl, hc1, hc2⟩ := own_shape HO.out
      have HC2 := hid_ hc2; clear hc2
      have hl8 : l.length ≤ 8 := by omega
      by_cases hl0 : l.length = 0
      · have hl1 : l = [] := List.eq_nil_of_length_eq_zero hl0
        subst hl1
        go_wp2
        go_returns
        exact DrawnR.mk_ [] (by simp) (HD.out.dr (by simp)) HO.out HR.out (by simp) G.out
      · have hpos : (0 : Int) < (l.length : Int) := by omega
        have hpn : 0 < l.length := by omega
        go_wp2_with fail
        refine (odd_any g ((1 + 6 * l.length)) n _ (by omega) (by omega) (by omega) HR.out).mono ?_
        rintro e w3 ⟨b, rfl, hr_, hg_⟩
        have HGo := hid_ hg_
        have hs_hg_ := hg_.size
        try simp only [World.size_alloc, World.size_setCell] at hs_hg_
        replace HO := hid_ (own_pick HO.out hg_ hlt)
        replace G := hid_ (gb_trans G.out hg_); clear hg_
        replace HR := hid_ hr_; clear hr_
        cases b
        · go_wp2
          go_returns
          exact DrawnR.mk_ l (by omega) (HD.out.dr hl8) HO.out HR.out (by omega) G.out
        · go_wp2_with fail
          refine (pick_any g ((1 + 6 * l.length + 1)) l.length _ (by omega) (by omega) (by omega) HR.out).mono ?_
          rintro e w4 ⟨j, rfl, hj0, hj1, hx_, hr_, hg_⟩
          replace hj1 := hj1 (by omega)
          clear hx_
          have HGo := hid_ hg_
          have hs_hg_ := hg_.size
          try simp only [World.size_alloc, World.size_setCell] at hs_hg_
          replace HO := hid_ (own_pick HO.out hg_ hlt)
          replace G := hid_ (gb_trans G.out hg_); clear hg_
          replace HR := hid_ hr_; clear hr_
          obtain ⟨j, rfl⟩ := Int.eq_ofNat_of_zero_le hj0
          have hjl : j < l.length := by omega
          have hjc : (j : Int) < (l.length : Int) := by omega
          go_wp2_with fail
          refine (pick_any g ((1 + 6 * l.length + 1 + 1)) 3 _ (by omega) (by omega) (by omega) HR.out).mono ?_
          rintro e w5 ⟨k5, rfl, hk50, hk51, hx_, hr_, hg_⟩
          replace hk51 := hk51 (by omega)
          clear hx_
          have HGo := hid_ hg_
          have hs_hg_ := hg_.size
          try simp only [World.size_alloc, World.size_setCell] at hs_hg_
          replace HO := hid_ (own_pick HO.out hg_ hlt)
          replace G := hid_ (gb_trans G.out hg_); clear hg_
          replace HR := hid_ hr_; clear hr_
          have hk : k5 = 0 ∨ k5 = 1 ∨ k5 = 2 := by omega
          have hlg := G.out.size
          rcases hk with rfl | rfl | rfl
          · replace HO := hid_ (HO.out.alloc (.cells #[.int .i64 (-1), .int .i64 (100001)] 3))
            replace HR := hid_ (HR.out.alloc (.cells #[.int .i64 (-1), .int .i64 (100001)] 3))
            replace G := hid_ (gb_trans G.out (World.grownBy_alloc w5 (.cells #[.int .i64 (-1), .int .i64 (100001)] 3) (some g)))
            go_wp2_with fail
            refine (pick_any g (1 + 6 * l.length + 1 + 1 + 1) 2 _ (by omega) (by omega) (by omega) HR.out).mono ?_
            rintro e w6 ⟨k6, rfl, hk60, hk61, hx_, hr_, hg_⟩
            replace hk61 := hk61 (by omega)
            clear hx_
            obtain ⟨u6, hu6, cu6⟩ := lit_cell [-1, 100001] w5 w6 3 g hg_ (by omega) k6 hk60 (by simpa using hk61)
            have hs_hg_ := hg_.size
            try simp only [World.size_alloc, World.size_setCell] at hs_hg_
            replace HO := hid_ (own_pick HO.out hg_ hlt)
            replace G := hid_ (gb_trans G.out hg_); clear hg_
            replace HR := hid_ hr_; clear hr_
            obtain ⟨gb, rfl, hB, hgl, _, _⟩ := own_block HO.out hpn
            obtain ⟨v0, c0, f0⟩ := own_store HO.out (j * 3) (by omega)
            have hu : u6 = -1 ∨ u6 = 100001 := by simpa using hu6
            clear hu6
            go_wp2
            go_returns
            have s1 := HO.out.stored (j * 3) (.int .i64 u6)
            have hdj := (HD.out.dr hl8) _ (List.getElem_mem hjl)
            refine DrawnR.mk_ (l.set j ⟨u6, l[j].count, l[j].write⟩) (by simp; omega) (DrR.set (HD.out.dr hl8) j _ (by simp only; omega) (by simp only; omega) (by simp only; omega) (by simp only; omega)) (own_eq s1.1 (by simp) (rqC_set0 l j u6 hjl)) (rdr_own HR.out HO.out s1.2 hlt) (by omega) (gb_own G.out HO.out s1.2 (Nat.le_refl _))
          · replace HO := hid_ (HO.out.alloc (.cells #[.int .i64 (0), .int .i64 (201)] 3))
            replace HR := hid_ (HR.out.alloc (.cells #[.int .i64 (0), .int .i64 (201)] 3))
            replace G := hid_ (gb_trans G.out (World.grownBy_alloc w5 (.cells #[.int .i64 (0), .int .i64 (201)] 3) (some g)))
            go_wp2_with fail
            refine (pick_any g (1 + 6 * l.length + 1 + 1 + 1) 2 _ (by omega) (by omega) (by omega) HR.out).mono ?_
            rintro e w6 ⟨k6, rfl, hk60, hk61, hx_, hr_, hg_⟩
            replace hk61 := hk61 (by omega)
            clear hx_
            obtain ⟨u6, hu6, cu6⟩ := lit_cell [0, 201] w5 w6 3 g hg_ (by omega) k6 hk60 (by simpa using hk61)
            have hs_hg_ := hg_.size
            try simp only [World.size_alloc, World.size_setCell] at hs_hg_
            replace HO := hid_ (own_pick HO.out hg_ hlt)
            replace G := hid_ (gb_trans G.out hg_); clear hg_
            replace HR := hid_ hr_; clear hr_
            obtain ⟨gb, rfl, hB, hgl, _, _⟩ := own_block HO.out hpn
            obtain ⟨v0, c0, f0⟩ := own_store HO.out (j * 3 + 1) (by omega)
            have hu : u6 = 0 ∨ u6 = 201 := by simpa using hu6
            clear hu6
            go_wp2
            go_returns
            have s1 := HO.out.stored (j * 3 + 1) (.int .i64 u6)
            have hdj := (HD.out.dr hl8) _ (List.getElem_mem hjl)
            refine DrawnR.mk_ (l.set j ⟨l[j].at_, u6, l[j].write⟩) (by simp; omega) (DrR.set (HD.out.dr hl8) j _ (by simp only; omega) (by simp only; omega) (by simp only; omega) (by simp only; omega)) (own_eq s1.1 (by simp) (rqC_set1 l j u6 hjl)) (rdr_own HR.out HO.out s1.2 hlt) (by omega) (gb_own G.out HO.out s1.2 (Nat.le_refl _))
          · have HDR := hid_ (HD.out.dr hl8)
            clear HD
            go_wp2
            go_loopw [5] (fun v wr => ∃ q : List Rq, 1 ≤ q.length ∧ q.length ≤ 60 ∧ wr.ownsRow w.heap.size 31 3 v q.length (rqC q) ∧ Rdr wr g 100 ∧ w.grownBy wr (some g) ∧ DrR q) (fun v _ => 61 - lenV v)
            case atStart => exact ⟨l, hpn, by omega, HO.out, HR.out.mono (by omega), G.out, HDR.out⟩
            case round =>
              obtain ⟨q, hq1, hq2, ho, hr, hg, hd⟩ := hrel
              clear HO HR G HDR
              have HO := hid_ ho; clear ho
              have HR := hid_ hr; clear hr
              have G := hid_ hg; clear hg
              have HDR := hid_ hd; clear hd
              have hsz2 := G.out.size
              obtain ⟨A', c', rfl, hc1', hc2'⟩ := own_shape HO.out
              have HC2' := hid_ hc2'; clear hc2'
              by_cases h30 : q.length ≤ 30
              · have h30' : (q.length : Int) ≤ 30 := by omega
                go_wp2_with (at_builtin; refine wpList_append_rd _ rfl _ _ 23 rfl w.heap.size 31 (.agg #[.int .i64 0, .int .i64 0, .bool false]) 3 24 Try.underlying23 rq_info rfl (by decide) (by decide) _ _ _ HO.out rfl _ _ _ _ (own_rd HO.out) rfl (rqC_one q) (by omega) hsz2 ?_; intro v' w' ho' hg')
                go_roundw
                case rel =>
                  exact ⟨q ++ q, by simp; omega, by simp; omega, own_eq ho' (by simp) (by rw [rqC_append]), (rdr_own HR.out HO.out hg' hlt), gb_own G.out HO.out hg' (Nat.le_refl _), HDR.out.append HDR.out⟩
                case measure =>
                  obtain ⟨A2, c2, e2, _, _⟩ := own_shape ho'
                  rw [e2]
                  simp only [lenV]
                  omega
              · have h30' : ¬ ((q.length : Int) ≤ 30) := by omega
                go_wp2
                go_returns
                exact DrawnR.mk_ q hq2 HDR.out HO.out HR.out (by omega) G.out

end Go.Proofs.Ytfelfopcmkeimaa
