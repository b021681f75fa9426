/-
  Flights: what is drawn.
-/
import Derived.Test.YtfinefjihphnhaaFlB
import Derived.Test.YtfinefjihphnhaaTyped
import Derived.Test.YtfinefjihphnhaaApp
namespace Go.Proofs.Ytfinefjihphnhaa
open Go.ChangeShapes Go.WideShapes Go.ChangeAt Go.RowKit Go.BigFrame

theorem gb_own {w wr w' : World} {row : Option Nat} {B E k n : Nat} {v : Value} {xs : List Value} (h : w.grownBy wr row) (ho : wr.ownsRow B E k v n xs) (hg : wr.grownBy w' v.ownBlock) (hB : w.heap.size ≤ B) : w.grownBy w' row :=
  ⟨hg.os.trans h.os, hg.tape.trans h.tape, hg.output.trans h.output, Nat.le_trans h.size hg.size, fun i hi hn =>
    (hg.block i (Nat.lt_of_lt_of_le hi h.size) (fun e => by have := (ho.lt i e.symm).1; omega)).trans (h.block i hi hn)⟩
theorem rdr_own {wr w' : World} {g : Nat} {p : Int} {B E k n : Nat} {v : Value} {xs : List Value} (h : Rdr wr g p) (ho : wr.ownsRow B E k v n xs) (hg : wr.grownBy w' v.ownBlock) (hB : g < B) : Rdr w' g p :=
  h.keep (fun b hb => hg.block b (by have := h.lt; omega) (fun e => by have := (ho.lt b e.symm).1; omega))

/-- drawn -/
def DrF (l : List Fl) : Prop := ∀ x ∈ l, (-1 ≤ x.tag ∧ x.tag ≤ 16) ∧ (-1 ≤ x.since ∧ (x.since ≤ 59 ∨ x.since = 100001)) ∧ (0 ≤ x.tries ∧ x.tries ≤ 6)
theorem DrF.nil : DrF [] := fun x hx => by simp at hx
theorem DrF.push {l : List Fl} (h : DrF l) (x : Fl) (h0 : -1 ≤ x.tag ∧ x.tag ≤ 16) (h1 : -1 ≤ x.since ∧ (x.since ≤ 59 ∨ x.since = 100001)) (h2 : 0 ≤ x.tries ∧ x.tries ≤ 6) : DrF (l ++ [x]) := by
  intro y hy
  rcases List.mem_append.1 hy with hy | hy
  · exact h y hy
  · simp at hy; subst hy; exact ⟨h0, h1, h2⟩
theorem DrF.set {l : List Fl} (h : DrF l) (k : Nat) (x : Fl) (h0 : -1 ≤ x.tag ∧ x.tag ≤ 16) (h1 : -1 ≤ x.since ∧ (x.since ≤ 59 ∨ x.since = 100001)) (h2 : 0 ≤ x.tries ∧ x.tries ≤ 6) : DrF (l.set k x) := by
  intro y hy
  rcases List.mem_or_eq_of_mem_set hy with hy | rfl
  · exact h y hy
  · exact ⟨h0, h1, h2⟩
theorem flC_set (l : List Fl) (k : Nat) (c : Int) (hk : k < l.length) : (flC l).set (k * 3) (.int .i64 c) = flC (l.set k ⟨c, l[k].since, l[k].tries⟩) ∧ (flC l).set (k * 3 + 1) (.int .i64 c) = flC (l.set k ⟨l[k].tag, c, l[k].tries⟩) ∧ (flC l).set (k * 3 + 1 + 1) (.int .i64 c) = flC (l.set k ⟨l[k].tag, l[k].since, c⟩) := by
  induction l generalizing k with
  | nil => simp at hk
  | cons x r ih =>
    have e : ∀ (y : Fl) (s : List Fl), flC (y :: s) = Value.int .i64 y.tag :: .int .i64 y.since :: .int .i64 y.tries :: flC s := fun y s => rfl
    cases k with
    | zero => simp [e]
    | succ k =>
      have hk' : k < r.length := by simpa using hk
      have e2 : (k + 1) * 3 = k * 3 + 1 + 1 + 1 := by omega
      have e3 : (k + 1) * 3 + 1 = (k * 3 + 1) + 1 + 1 + 1 := by omega
      have e4 : (k + 1) * 3 + 1 + 1 = (k * 3 + 1 + 1) + 1 + 1 + 1 := by omega
      obtain ⟨i0, i1, i2⟩ := ih k hk'
      refine ⟨?_, ?_, ?_⟩
      · rw [e, e2]; simp only [List.set_cons_succ, List.getElem_cons_succ]; rw [i0, e]
      · rw [e, e3]; simp only [List.set_cons_succ, List.getElem_cons_succ]; rw [i1, e]
      · rw [e, e4]; simp only [List.set_cons_succ, List.getElem_cons_succ]; rw [i2, e]

/-- a drawn list of flights, of the call's own -/
def DrawnF (g : Nat) (q : Int) (w : World) (e : Ending) (w' : World) : Prop :=
  ∃ (l : List Fl) (A : Option Addr) (c : Nat), e = .returned (.slice A l.length c) ∧ l.length ≤ 17 ∧ l.length ≤ c ∧ c ≤ maxLen ∧ DrF l ∧ w'.ownsRow w.heap.size 35 3 (.slice A l.length c) l.length (flC l) ∧ Rdr w' g q ∧ w.grownBy w' (some g)
theorem DrawnF.mk_ {g : Nat} {q p : Int} {w w' : World} {v : Value} (l : List Fl) (hl : l.length ≤ 17) (hd : DrF l) (ho : w'.ownsRow w.heap.size 35 3 v l.length (flC l)) (hR : Rdr w' g p) (hp : p ≤ q) (hg : w.grownBy w' (some g)) : DrawnF g q w (.returned v) w' := by
  obtain ⟨A, c, rfl, h1, h2⟩ := own_shape ho
  exact ⟨l, A, c, rfl, hl, h1, h2, hd, ho, hR.mono hp, hg⟩

set_option maxHeartbeats 2000000 in
theorem l20Flights_any (g : Nat) (n : Int) (w : World) (hn1 : -1000000 ≤ n) (hn : n ≤ 1000000) (hR : Rdr w g 0) :
    Calls Try.prog 45 #[.pointer (some ⟨g, 0, none⟩), .int .i64 n] w (DrawnF g 100 w) := by
  have hlt := hR.lt
  have HR := hid_ (hR.alloc (.cells #[] 35)); clear hR
  have G := hid_ (World.grownBy_alloc w (.cells #[] 35) (some g))
  have HO := hid_ (own_empty w 35 3)
  go_enter Try.func45, Try.ntmps45
  go_wp2
  go_loopw [5, 6] (fun v i wr => ∃ (k : Nat) (l : List Fl), k ≤ 16 ∧ l.length ≤ k ∧ i = .int .i64 k ∧ wr.ownsRow w.heap.size 35 3 v l.length (flC l) ∧ Rdr wr g (3 * (k : Int)) ∧ w.grownBy wr (some g) ∧ DrF l) (fun _ i _ => 16 - (intOf i).toNat)
  case atStart => exact ⟨0, [], by omega, by simp, rfl, HO.out, HR.out.mono (by simp), G.out, DrF.nil⟩
  case round =>
    obtain ⟨k, l, hk, hkl, rfl, ho, hr, hg, hdf⟩ := hrel
    clear HO HR G
    have HO := hid_ ho; clear ho
    have HR := hid_ hr; clear hr
    have G := hid_ hg; clear hg
    have HD := hid_ hdf; clear hdf
    have hsz := G.out.size
    by_cases hlt2 : k < 16
    · have hltz : (k : Int) < 16 := by omega
      go_wp2_with fail
      refine (pick_any g (3 * (k : Int)) 4 _ (by omega) (by omega) (by omega) HR.out).mono ?_
      rintro e w2 ⟨k2, rfl, hk20, hk21, hx_, hr_, hg_⟩
      replace hk21 := hk21 (by omega)
      clear hx_
      have HGo := hid_ hg_
      have hs_hg_ := hg_.size
      try simp only [World.size_alloc, World.size_setCell] at hs_hg_
      replace HO := hid_ (own_pick HO.out hg_ hlt)
      replace G := hid_ (gb_trans G.out hg_); clear hg_
      replace HR := hid_ hr_; clear hr_
      by_cases hk2 : k2 = 0
      · have HK2 := hid_ hk2
        have hk2' : (k2 == 0) = true := by simp [hk2]
        clear hk2
        go_wp2_with fail
        refine (pick_any g ((3 * (k : Int) + 1)) 60 _ (by omega) (by omega) (by omega) HR.out).mono ?_
        rintro e w3 ⟨k3, rfl, hk30, hk31, hx_, hr_, hg_⟩
        replace hk31 := hk31 (by omega)
        clear hx_
        have HGo := hid_ hg_
        have hs_hg_ := hg_.size
        try simp only [World.size_alloc, World.size_setCell] at hs_hg_
        replace HO := hid_ (own_pick HO.out hg_ hlt)
        replace G := hid_ (gb_trans G.out hg_); clear hg_
        replace HR := hid_ hr_; clear hr_
        go_wp2_with fail
        refine (pick_any g ((3 * (k : Int) + 1 + 1)) 5 _ (by omega) (by omega) (by omega) HR.out).mono ?_
        rintro e w4 ⟨k4, rfl, hk40, hk41, hx_, hr_, hg_⟩
        replace hk41 := hk41 (by omega)
        clear hx_
        have HGo := hid_ hg_
        have hs_hg_ := hg_.size
        try simp only [World.size_alloc, World.size_setCell] at hs_hg_
        replace HO := hid_ (own_pick HO.out hg_ hlt)
        replace G := hid_ (gb_trans G.out hg_); clear hg_
        replace HR := hid_ hr_; clear hr_
        have hs4 := G.out.size
        obtain ⟨A, c, rfl, hc1, hc2⟩ := own_shape HO.out
        have HC2 := hid_ hc2; clear hc2
        go_wp2_with (at_builtin; refine wpList_push _ rfl _ _ 25 rfl w.heap.size 35 (.agg #[.int .i64 0, .int .i64 0, .int .i64 0]) 3 24 Try.underlying25 fl_info rfl (by decide) (by decide) _ _ rfl rfl _ _ _ HO.out rfl _ rfl (by simp) (by omega) (by omega) ?_; intro v' w' ho' hg')
        go_roundw
        case rel =>
          refine ⟨k + 1, l ++ [⟨k, k3, 1 + k4⟩], by omega, by simp; omega, by go_num, own_eq ho' (by simp) (by rw [flC_append]; rfl), ?_, gb_own G.out HO.out hg' (Nat.le_refl _), DrF.push HD.out _ (by simp only; omega) (by simp only; omega) (by simp only; omega)⟩
          exact (rdr_own HR.out HO.out hg' hlt).mono (by omega)
        case measure => exact meas_ hlt2
      · have hk2' : (k2 == 0) = false := by simp [hk2]
        clear hk2
        go_wp2
        go_roundw
        case rel => exact ⟨k + 1, l, by omega, by omega, by go_num, HO.out, HR.out.mono (by omega), G.out, HD.out⟩
        case measure => exact meas_ hlt2
    · have hk16 : k = 16 := by omega
      subst hk16
      obtain ⟨A, c, rfl, hc1, hc2⟩ := own_shape HO.out
      have HC2 := hid_ hc2; clear hc2
      by_cases hl0 : l.length = 0
      · have hl1 : l = [] := List.eq_nil_of_length_eq_zero hl0
        subst hl1
        go_wp2
        go_returns
        exact DrawnF.mk_ [] (by simp) DrF.nil HO.out HR.out (by simp) G.out
      · have hpos : (0 : Int) < (l.length : Int) := by omega
        have hpn : 0 < l.length := by omega
        go_wp2_with fail
        refine (odd_any g ((3 * ((16 : Nat) : Int))) n _ (by omega) (by omega) (by omega) HR.out).mono ?_
        rintro e w3 ⟨b, rfl, hr_, hg_⟩
        have HGo := hid_ hg_
        have hs_hg_ := hg_.size
        try simp only [World.size_alloc, World.size_setCell] at hs_hg_
        replace HO := hid_ (own_pick HO.out hg_ hlt)
        replace G := hid_ (gb_trans G.out hg_); clear hg_
        replace HR := hid_ hr_; clear hr_
        cases b
        · go_wp2
          go_returns
          exact DrawnF.mk_ l (by omega) HD.out HO.out HR.out (by omega) G.out
        · go_wp2_with fail
          refine (pick_any g ((3 * ((16 : Nat) : Int) + 1)) l.length _ (by omega) (by omega) (by omega) HR.out).mono ?_
          rintro e w4 ⟨j, rfl, hj0, hj1, hx_, hr_, hg_⟩
          replace hj1 := hj1 (by omega)
          clear hx_
          have HGo := hid_ hg_
          have hs_hg_ := hg_.size
          try simp only [World.size_alloc, World.size_setCell] at hs_hg_
          replace HO := hid_ (own_pick HO.out hg_ hlt)
          replace G := hid_ (gb_trans G.out hg_); clear hg_
          replace HR := hid_ hr_; clear hr_
          obtain ⟨j, rfl⟩ := Int.eq_ofNat_of_zero_le hj0
          have hjl : j < l.length := by omega
          have hjc : (j : Int) < (l.length : Int) := by omega
          go_wp2_with fail
          refine (pick_any g ((3 * ((16 : Nat) : Int) + 1 + 1)) 4 _ (by omega) (by omega) (by omega) HR.out).mono ?_
          rintro e w5 ⟨k5, rfl, hk50, hk51, hx_, hr_, hg_⟩
          replace hk51 := hk51 (by omega)
          clear hx_
          have HGo := hid_ hg_
          have hs_hg_ := hg_.size
          try simp only [World.size_alloc, World.size_setCell] at hs_hg_
          replace HO := hid_ (own_pick HO.out hg_ hlt)
          replace G := hid_ (gb_trans G.out hg_); clear hg_
          replace HR := hid_ hr_; clear hr_
          have hk : k5 = 0 ∨ k5 = 1 ∨ k5 = 2 ∨ k5 = 3 := by omega
          have hlg := G.out.size
          rcases hk with rfl | rfl | rfl | rfl
          · replace HO := hid_ (HO.out.alloc (.cells #[.int .i64 (-1), .int .i64 (16)] 3))
            replace HR := hid_ (HR.out.alloc (.cells #[.int .i64 (-1), .int .i64 (16)] 3))
            replace G := hid_ (gb_trans G.out (World.grownBy_alloc w5 (.cells #[.int .i64 (-1), .int .i64 (16)] 3) (some g)))
            go_wp2_with fail
            refine (pick_any g (3 * ((16 : Nat) : Int) + 1 + 1 + 1) 2 _ (by omega) (by omega) (by omega) HR.out).mono ?_
            rintro e w6 ⟨k6, rfl, hk60, hk61, hx_, hr_, hg_⟩
            replace hk61 := hk61 (by omega)
            clear hx_
            obtain ⟨u6, hu6, cu6⟩ := lit_cell [-1, 16] w5 w6 3 g hg_ (by omega) k6 hk60 (by simpa using hk61)
            have hs_hg_ := hg_.size
            try simp only [World.size_alloc, World.size_setCell] at hs_hg_
            replace HO := hid_ (own_pick HO.out hg_ hlt)
            replace G := hid_ (gb_trans G.out hg_); clear hg_
            replace HR := hid_ hr_; clear hr_
            obtain ⟨gb, rfl, hB, hgl, _, _⟩ := own_block HO.out hpn
            obtain ⟨v0, c0, f0⟩ := own_store HO.out (j * 3) (by omega)
            have hu : u6 = -1 ∨ u6 = 16 := by simpa using hu6
            clear hu6
            go_wp2
            go_returns
            have s1 := HO.out.stored (j * 3) (.int .i64 u6)
            have hdj := HD.out _ (List.getElem_mem hjl)
            refine DrawnF.mk_ (l.set j ⟨u6, l[j].since, l[j].tries⟩) (by simp; omega) (DrF.set HD.out j _ (by simp only; omega) (by simp only; omega) (by simp only; omega)) (own_eq s1.1 (by simp) (flC_set l j u6 hjl).1) (rdr_own HR.out HO.out s1.2 hlt) (by omega) (gb_own G.out HO.out s1.2 (Nat.le_refl _))
          · replace HO := hid_ (HO.out.alloc (.cells #[.int .i64 (-1), .int .i64 (100001)] 3))
            replace HR := hid_ (HR.out.alloc (.cells #[.int .i64 (-1), .int .i64 (100001)] 3))
            replace G := hid_ (gb_trans G.out (World.grownBy_alloc w5 (.cells #[.int .i64 (-1), .int .i64 (100001)] 3) (some g)))
            go_wp2_with fail
            refine (pick_any g (3 * ((16 : Nat) : Int) + 1 + 1 + 1) 2 _ (by omega) (by omega) (by omega) HR.out).mono ?_
            rintro e w6 ⟨k6, rfl, hk60, hk61, hx_, hr_, hg_⟩
            replace hk61 := hk61 (by omega)
            clear hx_
            obtain ⟨u6, hu6, cu6⟩ := lit_cell [-1, 100001] w5 w6 3 g hg_ (by omega) k6 hk60 (by simpa using hk61)
            have hs_hg_ := hg_.size
            try simp only [World.size_alloc, World.size_setCell] at hs_hg_
            replace HO := hid_ (own_pick HO.out hg_ hlt)
            replace G := hid_ (gb_trans G.out hg_); clear hg_
            replace HR := hid_ hr_; clear hr_
            obtain ⟨gb, rfl, hB, hgl, _, _⟩ := own_block HO.out hpn
            obtain ⟨v0, c0, f0⟩ := own_store HO.out (j * 3 + 1) (by omega)
            have hu : u6 = -1 ∨ u6 = 100001 := by simpa using hu6
            clear hu6
            go_wp2
            go_returns
            have s1 := HO.out.stored (j * 3 + 1) (.int .i64 u6)
            have hdj := HD.out _ (List.getElem_mem hjl)
            refine DrawnF.mk_ (l.set j ⟨l[j].tag, u6, l[j].tries⟩) (by simp; omega) (DrF.set HD.out j _ (by simp only; omega) (by simp only; omega) (by simp only; omega)) (own_eq s1.1 (by simp) (flC_set l j u6 hjl).2.1) (rdr_own HR.out HO.out s1.2 hlt) (by omega) (gb_own G.out HO.out s1.2 (Nat.le_refl _))
          · replace HO := hid_ (HO.out.alloc (.cells #[.int .i64 (0), .int .i64 (6)] 3))
            replace HR := hid_ (HR.out.alloc (.cells #[.int .i64 (0), .int .i64 (6)] 3))
            replace G := hid_ (gb_trans G.out (World.grownBy_alloc w5 (.cells #[.int .i64 (0), .int .i64 (6)] 3) (some g)))
            go_wp2_with fail
            refine (pick_any g (3 * ((16 : Nat) : Int) + 1 + 1 + 1) 2 _ (by omega) (by omega) (by omega) HR.out).mono ?_
            rintro e w6 ⟨k6, rfl, hk60, hk61, hx_, hr_, hg_⟩
            replace hk61 := hk61 (by omega)
            clear hx_
            obtain ⟨u6, hu6, cu6⟩ := lit_cell [0, 6] w5 w6 3 g hg_ (by omega) k6 hk60 (by simpa using hk61)
            have hs_hg_ := hg_.size
            try simp only [World.size_alloc, World.size_setCell] at hs_hg_
            replace HO := hid_ (own_pick HO.out hg_ hlt)
            replace G := hid_ (gb_trans G.out hg_); clear hg_
            replace HR := hid_ hr_; clear hr_
            obtain ⟨gb, rfl, hB, hgl, _, _⟩ := own_block HO.out hpn
            obtain ⟨v0, c0, f0⟩ := own_store HO.out (j * 3 + 2) (by omega)
            have hu : u6 = 0 ∨ u6 = 6 := by simpa using hu6
            clear hu6
            go_wp2
            go_returns
            have s1 := HO.out.stored (j * 3 + 2) (.int .i64 u6)
            have hdj := HD.out _ (List.getElem_mem hjl)
            refine DrawnF.mk_ (l.set j ⟨l[j].tag, l[j].since, u6⟩) (by simp; omega) (DrF.set HD.out j _ (by simp only; omega) (by simp only; omega) (by simp only; omega)) (own_eq s1.1 (by simp) (flC_set l j u6 hjl).2.2) (rdr_own HR.out HO.out s1.2 hlt) (by omega) (gb_own G.out HO.out s1.2 (Nat.le_refl _))
          · obtain ⟨gb, rfl, hB, hgl, _, _⟩ := own_block HO.out hpn
            have y0 := (HO.out.cellAt (j * 3) (by omega)).trans (flC_get l j hjl).1
            have y1 := (HO.out.cellAt (j * 3 + 1) (by omega)).trans (flC_get l j hjl).2.1
            have y2 := (HO.out.cellAt (j * 3 + 2) (by omega)).trans (flC_get l j hjl).2.2
            have hdj := HD.out _ (List.getElem_mem hjl)
            go_wp2_with (at_builtin; refine wpList_push _ rfl _ _ 25 rfl w.heap.size 35 (.agg #[.int .i64 0, .int .i64 0, .int .i64 0]) 3 24 Try.underlying25 fl_info rfl (by decide) (by decide) _ _ rfl rfl _ _ _ HO.out rfl _ rfl (by simp) (by omega) (by omega) ?_; intro v' w' ho' hg')
            go_returns
            exact DrawnF.mk_ (l ++ [⟨l[j].tag, l[j].since, l[j].tries⟩]) (by simp; omega) (DrF.push HD.out _ (by simp only; omega) (by simp only; omega) (by simp only; omega)) (own_eq ho' (by simp) (by rw [flC_append]; rfl)) (rdr_own HR.out HO.out hg' hlt) (by omega) (gb_own G.out HO.out hg' (Nat.le_refl _))

def envWh : List (Nat × Ty) := [(4, .rd), (5, .int 0 99), (6, .sl 3 (-1) 100001), (7, .sl 7 0 2), (8, .rd), (9, .int 0 6), (10, .ad 0 2), (11, .int 0 2), (12, .ad (-1) 100001), (13, .int (-1) 100001),
  (14, .rd), (15, .int 0 59), (16, .int 1 60), (17, .sl 3 0 100001), (18, .sl 7 0 2), (19, .rd), (20, .int 0 6), (21, .ad 0 2), (22, .int 0 2), (23, .ad 0 100001), (24, .int 0 100001), (2, .int (-1) 100001), (3, .int 0 100001), (0, .rd)]

/-- a drawn time and a drawn limit -/
def DrawnW (g : Nat) (q : Int) (w : World) (e : Ending) (w' : World) : Prop :=
  ∃ x y : Int, e = .returned (.tuple #[.int .i64 x, .int .i64 y]) ∧ (-1 ≤ x ∧ x ≤ 100001) ∧ (0 ≤ y ∧ y ≤ 100001) ∧ Rdr w' g (q + 23) ∧ w.grownBy w' (some g)

set_option maxHeartbeats 1000000 in
theorem l20When_any (g : Nat) (p : Int) (w : World) (hp0 : 0 ≤ p) (hp : p ≤ 10000) (hR : Rdr w g p) :
    Calls Try.prog 48 #[.pointer (some ⟨g, 0, none⟩)] w (DrawnW g p w) := by
  have HR := hid_ hR; clear hR
  go_enter Try.func48, Try.ntmps48
  go_wp2_with fail
  refine wp_region_typed (fun d => envWh.lookup d) [0] 25 g (.bool true) p (by kernel_rfl) (by kernel_rfl) rfl ?_ HR.out (by simp; omega) ?_
  · intro d hd t ht
    have hd' : d = 0 := by simpa using hd
    subst hd'
    have : t = .rd := by simpa [envWh, List.lookup] using ht.symm
    subst this
    rfl
  · intro a' w' haf
    obtain ⟨x, h2, x0, x1⟩ : ∃ x : Int, a'.eval (.tmp 2) = .int .i64 x ∧ -1 ≤ x ∧ x ≤ 100001 := haf.ty 21 _ 2 (.int (-1) 100001) rfl rfl rfl
    obtain ⟨y, h3, y0, y1⟩ : ∃ y : Int, a'.eval (.tmp 3) = .int .i64 y ∧ 0 ≤ y ∧ y ≤ 100001 := haf.ty 22 _ 3 (.int 0 100001) rfl rfl rfl
    simp [Act.eval] at h2 h3
    rename_i K0 hK0
    refine hK0 _ _ (wp_ret ?_)
    exact bodyPost_ret (v := .tuple #[.int .i64 x, .int .i64 y]) (by simp [results, Try.results48, go_sem, h2, h3]) haf.defers ⟨x, y, rfl, ⟨x0, x1⟩, ⟨y0, y1⟩, haf.rdr.mono (by simp), haf.grown⟩
end Go.Proofs.Ytfinefjihphnhaa
