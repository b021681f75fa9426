/-
  Items: what is drawn.
-/
import Derived.Test.YtfmkjhkopocokaaItB
import Derived.Test.YtfmkjhkopocokaaDraw
import Derived.Test.YtfmkjhkopocokaaApp
namespace Go.Proofs.Ytfmkjhkopocokaa
open Go.ChangeShapes Go.WideShapes Go.ChangeAt Go.RowKit Go.BigFrame

theorem gb_own {w wr w' : World} {row : Option Nat} {B E k n : Nat} {v : Value} {xs : List Value} (h : w.grownBy wr row) (ho : wr.ownsRow B E k v n xs) (hg : wr.grownBy w' v.ownBlock) (hB : w.heap.size ≤ B) : w.grownBy w' row :=
  ⟨hg.os.trans h.os, hg.tape.trans h.tape, hg.output.trans h.output, Nat.le_trans h.size hg.size, fun i hi hn =>
    (hg.block i (Nat.lt_of_lt_of_le hi h.size) (fun e => by have := (ho.lt i e.symm).1; omega)).trans (h.block i hi hn)⟩
theorem rdr_own {wr w' : World} {g : Nat} {p : Int} {B E k n : Nat} {v : Value} {xs : List Value} (h : Rdr wr g p) (ho : wr.ownsRow B E k v n xs) (hg : wr.grownBy w' v.ownBlock) (hB : g < B) : Rdr w' g p :=
  h.keep (fun b hb => hg.block b (by have := h.lt; omega) (fun e => by have := (ho.lt b e.symm).1; omega))
theorem gb_set_new {w wr : World} {row : Option Nat} {b o : Nat} {v : Value} (h : w.grownBy wr row) (hb : w.heap.size ≤ b) : w.grownBy (wr.setCell ⟨b, o, none⟩ v) row :=
  ⟨h.os, h.tape, h.output, by simpa using h.size, fun i hi hn => (Below.heap_setCell _ _ _ _ (show i ≠ b by omega)).trans (h.block i hi hn)⟩
theorem rdr_set {w : World} {g : Nat} {p : Int} {b o : Nat} {v : Value} (h : Rdr w g p) (hb : g < b) : Rdr (w.setCell ⟨b, o, none⟩ v) g p :=
  h.keep (fun i hi => Below.heap_setCell _ _ _ _ (show i ≠ b by omega))

/-- a drawn list of items, of the call's own -/
def DrawnI (g : Nat) (q : Int) (w : World) (e : Ending) (w' : World) : Prop :=
  ∃ (l : List It) (A : Option Addr) (c : Nat), e = .returned (.slice A l.length c) ∧ (l.length ≤ 8 ∨ l.length = 13) ∧ l.length ≤ c ∧ c ≤ maxLen ∧ w'.ownsRow w.heap.size 33 2 (.slice A l.length c) l.length (itC l) ∧ Rdr w' g q ∧ w.grownBy w' (some g)
theorem DrawnI.mk_ {g : Nat} {q p : Int} {w w' : World} {v : Value} (l : List It) (hl : l.length ≤ 8 ∨ l.length = 13) (ho : w'.ownsRow w.heap.size 33 2 v l.length (itC l)) (hR : Rdr w' g p) (hp : p ≤ q) (hg : w.grownBy w' (some g)) : DrawnI g q w (.returned v) w' := by
  obtain ⟨A, c, rfl, h1, h2⟩ := own_shape ho
  exact ⟨l, A, c, rfl, hl, h1, h2, ho, hR.mono hp, hg⟩

set_option maxHeartbeats 2000000 in
theorem l20Items_any (g : Nat) (n : Int) (w : World) (hn1 : -1000000 ≤ n) (hn : n ≤ 1000000) (hR : Rdr w g 0) :
    Calls Try.prog 41 #[.pointer (some ⟨g, 0, none⟩), .int .i64 n] w (DrawnI g 50 w) := by
  have hlt := hR.lt
  have HR := hid_ (hR.alloc (.cells #[] 33)); clear hR
  have G := hid_ (World.grownBy_alloc w (.cells #[] 33) (some g))
  have HO := hid_ (own_empty w 33 2)
  go_enter Try.func41, Try.ntmps41
  go_wp2_with fail
  refine (pick_any g (0) 9 _ (by omega) (by omega) (by omega) HR.out).mono ?_
  rintro e w1 ⟨k1, rfl, hk10, hk11, hx_, hr_, hg_⟩
  replace hk11 := hk11 (by omega)
  clear hx_
  have HGo := hid_ hg_
  have hs_hg_ := hg_.size
  try simp only [World.size_alloc, World.size_setCell] at hs_hg_
  replace HO := hid_ (own_pick HO.out hg_ hlt)
  replace G := hid_ (gb_trans G.out hg_); clear hg_
  replace HR := hid_ hr_; clear hr_
  go_wp2
  go_loopw [5, 6] (fun v i wr => ∃ (k : Int) (l : List It), 0 ≤ k ∧ k + l.length ≤ 8 ∧ i = .int .i64 k ∧ wr.ownsRow w.heap.size 33 2 v l.length (itC l) ∧ Rdr wr g (1 + 2 * l.length) ∧ w.grownBy wr (some g)) (fun _ i _ => (intOf i).toNat)
  case atStart => exact ⟨k1, [], by omega, by simp; omega, rfl, HO.out, HR.out.mono (by simp), G.out⟩
  case round =>
    obtain ⟨k, l, k0, hkl, rfl, ho, hr, hg⟩ := hrel
    clear HO HR G
    have HO := hid_ ho; clear ho
    have HR := hid_ hr; clear hr
    have G := hid_ hg; clear hg
    have hsz := G.out.size
    by_cases hlt2 : 0 < k
    · go_wp2_with fail
      refine (pick_any g ((1 + 2 * l.length)) 9 _ (by omega) (by omega) (by omega) HR.out).mono ?_
      rintro e w2 ⟨k2, rfl, hk20, hk21, hx_, hr_, hg_⟩
      replace hk21 := hk21 (by omega)
      clear hx_
      have HGo := hid_ hg_
      have hs_hg_ := hg_.size
      try simp only [World.size_alloc, World.size_setCell] at hs_hg_
      replace HO := hid_ (own_pick HO.out hg_ hlt)
      replace G := hid_ (gb_trans G.out hg_); clear hg_
      replace HR := hid_ hr_; clear hr_
      go_wp2_with fail
      refine (pick_any g ((1 + 2 * l.length + 1)) 4 _ (by omega) (by omega) (by omega) HR.out).mono ?_
      rintro e w3 ⟨k3, rfl, hk30, hk31, hx_, hr_, hg_⟩
      replace hk31 := hk31 (by omega)
      clear hx_
      have HGo := hid_ hg_
      have hs_hg_ := hg_.size
      try simp only [World.size_alloc, World.size_setCell] at hs_hg_
      replace HO := hid_ (own_pick HO.out hg_ hlt)
      replace G := hid_ (gb_trans G.out hg_); clear hg_
      replace HR := hid_ hr_; clear hr_
      have hs3 := G.out.size
      obtain ⟨A, c, rfl, hc1, hc2⟩ := own_shape HO.out
      have HC2 := hid_ hc2; clear hc2
      go_wp2_with (at_builtin; refine wpList_push _ rfl _ _ 25 rfl w.heap.size 33 (.agg #[.int .i64 0, .bool false]) 2 16 Try.underlying25 it_info rfl (by decide) (by decide) _ _ rfl rfl _ _ _ HO.out rfl _ rfl (by simp) (by omega) (by omega) ?_; intro v' w' ho' hg')
      go_roundw
      case rel =>
        refine ⟨k - 1, l ++ [⟨k2, k3 == 0⟩], by omega, by simp; omega, by go_num, own_eq ho' (by simp) (by rw [itC_append]; rfl), ?_, gb_own G.out HO.out hg' (Nat.le_refl _)⟩
        exact (rdr_own HR.out HO.out hg' hlt).mono (by simp; omega)
      case measure => simp [intOf] <;> omega
    · have hl8 : l.length ≤ 8 := by omega
      obtain ⟨A, c, rfl, hc1, hc2⟩ := own_shape HO.out
      have HC2 := hid_ hc2; clear hc2
      go_wp2_with fail
      refine (odd_any g ((1 + 2 * l.length)) n _ (by omega) (by omega) (by omega) HR.out).mono ?_
      rintro e w5 ⟨b, rfl, hr_, hg_⟩
      have HGo := hid_ hg_
      have hs_hg_ := hg_.size
      try simp only [World.size_alloc, World.size_setCell] at hs_hg_
      replace HO := hid_ (own_pick HO.out hg_ hlt)
      replace G := hid_ (gb_trans G.out hg_); clear hg_
      replace HR := hid_ hr_; clear hr_
      cases b
      · go_wp2
        go_returns
        exact DrawnI.mk_ l (.inl hl8) HO.out HR.out (by omega) G.out
      · obtain ⟨i0, hi, hz0, hz1, hz2⟩ := info_parts it_info
        have hs5 := G.out.size
        go_wp2_with (at_make; refine wpList_make_full _ rfl _ _ 25 rfl w.heap.size 33 i0 _ 2 Try.underlying25 hi hz0 hz1 .i64 .i64 _ _ 13 rfl rfl rfl rfl (by rw [hz2]; omega) (by simp only [maxLen]; omega) hs5 ?_; intro w7 ho7 hg7; have HO7 := hid_ (own_eq ho7 rfl (show (madeCells (Value.agg #[.int .i64 0, .bool false]).cells (13 * 2)).toList = itC (List.replicate 13 ⟨0, false⟩) by kernel_rfl)); have HG7 := hid_ hg7; clear ho7 hg7)
        go_returns
        exact DrawnI.mk_ (List.replicate 13 ⟨0, false⟩) (.inr (by simp)) HO7.out (HR.out.keep (fun b hb => HG7.out.block b (by have := HR.out.lt; omega) (by simp))) (by omega) (gb_trans G.out ⟨HG7.out.os, HG7.out.tape, HG7.out.output, HG7.out.size, fun b hb hn => HG7.out.block b hb (by simp)⟩)
end Go.Proofs.Ytfmkjhkopocokaa
