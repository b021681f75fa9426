/-
  Flights: the small functions.
-/
import Derived.Test.YtfinefjihphnhaaBase
namespace Go.Proofs.Ytfinefjihphnhaa
open Go.ChangeShapes Go.WideShapes Go.ChangeAt Go.RowKit Go.BigFrame

structure Fl where
  tag : Int
  since : Int
  tries : Int
  deriving DecidableEq
def Fl.row (f : Fl) : List Value := [.int .i64 f.tag, .int .i64 f.since, .int .i64 f.tries]
def flC (l : List Fl) : List Value := l.flatMap Fl.row
theorem flC_length (l : List Fl) : (flC l).length = l.length * 3 := flat_length Fl.row 3 (fun _ => rfl) l
theorem flC_append (a b : List Fl) : flC (a ++ b) = flC a ++ flC b := by simp [flC]
theorem flC_one (l : List Fl) : ∀ u ∈ flC l, u.oneCell' = true := by
  intro u hu
  obtain ⟨f, _, hf⟩ := List.mem_flatMap.1 hu
  simp only [Fl.row, List.mem_cons, List.not_mem_nil, or_false] at hf
  rcases hf with rfl | rfl | rfl <;> rfl
theorem flC_take (l : List Fl) (m : Nat) : (flC l).take (m * 3) = flC (l.take m) := by
  by_cases hm : m ≤ l.length
  · conv => lhs; rw [← List.take_append_drop m l, flC_append]
    rw [List.take_left' (by rw [flC_length, List.length_take, Nat.min_eq_left hm])]
  · rw [List.take_of_length_le (by rw [flC_length]; omega), List.take_of_length_le (by omega)]
theorem Rd.fl {w : World} {A : Option Addr} {n : Nat} {l : List Fl} (h : Rd w 3 A n (flC l)) (i : Nat) (hi : i < n) (hn : l.length = n) :
    ∃ b o, A = some ⟨b, o, none⟩ ∧ w.cell? ⟨b, o + i * 3, none⟩ = some (.int .i64 (l[i]'(by omega)).tag) ∧ w.cell? ⟨b, o + i * 3 + 1, none⟩ = some (.int .i64 (l[i]'(by omega)).since) ∧ w.cell? ⟨b, o + i * 3 + 2, none⟩ = some (.int .i64 (l[i]'(by omega)).tries) := by
  obtain ⟨b, o, e, hc⟩ := h.2 (by omega)
  have g := flat_get Fl.row 3 (fun _ => rfl) l i (by omega)
  exact ⟨b, o, e, hc _ _ (g 0 (by omega)), hc _ _ (g 1 (by omega)), hc _ _ (g 2 (by omega))⟩

theorem within_any (n lo hi : Int) (w : World) :
    Calls Try.prog 42 #[.int .i64 n, .int .i64 lo, .int .i64 hi] w fun e w' => e = .returned (.bool (inB n lo hi)) ∧ w = w' := by
  go_enter Try.func42, Try.ntmps42
  go_wp2
  all_goals (go_returns; refine ⟨ret_bool ?_, rfl⟩; rw [Bool.eq_iff_iff, inB_iff]; simp; omega)

theorem l1In_any (n lo hi : Int) (w : World) :
    Calls Try.prog 40 #[.int .i64 n, .int .i64 lo, .int .i64 hi] w fun e w' => e = .returned (.bool (inB n lo hi)) ∧ w = w' := by
  go_enter Try.func40, Try.ntmps40
  go_wp2
  all_goals (go_returns; refine ⟨ret_bool ?_, rfl⟩; rw [Bool.eq_iff_iff, inB_iff]; simp; omega)

theorem toFlight_any (a b c : Int) (w : World) :
    Calls Try.prog 41 #[.agg #[.int .i64 a, .int .i64 b, .int .i64 c]] w fun e w' => e = .returned (.agg #[.int .i64 a, .int .i64 b, .int .i64 c]) ∧ Below w.heap.size w w' := by
  go_enter Try.func41, Try.ntmps41
  go_wp2
  go_returns
  exact ⟨rfl, by go_grown⟩

theorem eqFlight_any (f g : Fl) (w : World) :
    Calls Try.prog 44 #[.agg #[.int .i64 f.tag, .int .i64 f.since, .int .i64 f.tries], .agg #[.int .i64 g.tag, .int .i64 g.since, .int .i64 g.tries]] w fun e w' => e = .returned (.bool (decide (f = g))) ∧ Below w.heap.size w w' := by
  obtain ⟨a, b, c⟩ := f
  obtain ⟨a', b', c'⟩ := g
  go_enter Try.func44, Try.ntmps44
  go_wp2
  all_goals (go_returns; refine ⟨ret_bool ?_, by go_grown⟩; rw [Bool.eq_iff_iff]; simp_all)

theorem flAt1_any (a b c t : Int) (ad : Addr) (w : World) (h : w.cell? ad = some (.int .i64 t)) :
    Calls Try.prog 53 #[.agg #[.int .i64 a, .int .i64 b, .int .i64 c], .pointer (some ad)] w fun e w' => e = .returned (.bool (a == t)) ∧ Below w.heap.size w w' := by
  have hb := cell_lt h
  go_enter Try.func53, Try.ntmps53
  go_wp2
  go_returns
  exact ⟨rfl, by go_grown⟩

/-- the place of the first flight with a tag, from place n on; -1 without one -/
def idxFrom (t : Int) : Nat → List Fl → Int
  | _, [] => -1
  | n, f :: r => if f.tag = t then n else idxFrom t (n+1) r

theorem idx_step (t : Int) (fl : List Fl) (k : Nat) (h : k < fl.length) : idxFrom t k (fl.drop k) = if fl[k].tag = t then (k : Int) else idxFrom t (k+1) (fl.drop (k+1)) := by
  rw [List.drop_eq_getElem_cons h]; rfl

set_option maxHeartbeats 400000 in
theorem indexFunc_any (fl : List Fl) (A : Option Addr) (n c : Nat) (t : Int) (ad : Addr) (w : World) (hn : fl.length = n) (hm : n ≤ maxLen) (hR : Rd w 3 A n (flC fl)) (hcl : w.cell? ad = some (.int .i64 t)) :
    Calls Try.prog 52 #[.slice A n c, .func (.func 53) #[] #[.pointer (some ad)]] w fun e w' => e = .returned (.int .i64 (idxFrom t 0 fl)) ∧ Below w.heap.size w w' := by
  unfold maxLen at hm
  have HR := hid_ hR; clear hR
  have HN := hid_ hn; clear hn
  go_enter Try.func52, Try.ntmps52
  go_wp2
  go_loopw [8] (fun v wr => ∃ k : Nat, k ≤ n ∧ v = .int .i64 k ∧ Below w.heap.size w wr ∧ idxFrom t 0 fl = idxFrom t k (fl.drop k)) (fun v _ => n - (intOf v).toNat)
  case atStart => exact ⟨0, Nat.zero_le _, rfl, Below.refl _ _, by simp⟩
  case round =>
    obtain ⟨k, hk, rfl, hb, hid⟩ := hrel
    have HI := hid_ hid; clear hid
    by_cases hlt : k < n
    · have hlt' : k < fl.length := by rw [HN.out]; exact hlt
      obtain ⟨b, o, rfl, h0, h1, h2⟩ := (HR.out.below hb).fl k hlt HN.out
      have hc' : wr.cell? ad = some (.int .i64 t) := (hb.cell (cell_lt hcl)).trans hcl
      clear hcl
      go_wp2_with (go_at_call 53; refine (flAt1_any _ _ _ _ _ _ hc').mono ?_; rintro e w1 ⟨rfl, hb1⟩)
      · go_returns
        exact ⟨ret_int (by rw [HI.out, idx_step t fl k hlt', if_pos (by simpa using ‹(fl[k].tag == t) = true›)]), hb.trans (hb1.mono hb.size)⟩
      · go_roundw
        case rel => exact ⟨k + 1, by omega, by go_num, hb.trans (hb1.mono hb.size), by rw [HI.out, idx_step t fl k hlt', if_neg (by simpa using ‹(fl[k].tag == t) = false›)]⟩
        case measure => simp [intOf]; omega
    · go_wp2
      go_returns
      refine ⟨ret_int ?_, hb⟩
      rw [HI.out, List.drop_of_length_le (by rw [HN.out]; omega)]; rfl

theorem flightAt_any (fl : List Fl) (A : Option Addr) (n c : Nat) (t : Int) (w : World) (hn : fl.length = n) (hm : n ≤ maxLen) (hR : Rd w 3 A n (flC fl)) :
    Calls Try.prog 43 #[.slice A n c, .int .i64 t] w fun e w' => e = .returned (.int .i64 (idxFrom t 0 fl)) ∧ Below w.heap.size w w' := by
  have HR := hid_ hR; clear hR
  have HN := hid_ hn; clear hn
  go_enter Try.func43, Try.ntmps43
  go_wp2_with fail
  refine (indexFunc_any fl A n c t ⟨w.heap.size, 0, none⟩ _ HN.out hm (HR.out.alloc _) (by simp)).mono ?_
  rintro e w1 ⟨rfl, hb⟩
  go_wp2
  go_returns
  exact ⟨rfl, ((Below.refl _ _).alloc (Nat.le_refl _) _).trans (hb.mono (by simp))⟩

theorem sz_any (A : Option Addr) (n c : Nat) (l : Int) (w : World) (hm : n ≤ maxLen) (h0 : 0 ≤ l) (h1 : l ≤ 1048576) :
    Calls Try.prog 14 #[.slice A n c, .int .i64 l] w fun e w' => e = .returned (.int .i64 (if l < n then -1 else l - n)) ∧ w = w' := by
  unfold maxLen at hm
  go_enter Try.func14, Try.ntmps14
  go_wp2
  all_goals (go_returns; refine ⟨ret_int ?_, rfl⟩; (try split) <;> omega)

set_option maxHeartbeats 400000 in
theorem eqFlightS_any (fl gl : List Fl) (A A' : Option Addr) (n n' c c' : Nat) (w : World) (hn : fl.length = n) (hn' : gl.length = n') (hm : n ≤ maxLen) (hm' : n' ≤ maxLen) (hR : Rd w 3 A n (flC fl)) (hR' : Rd w 3 A' n' (flC gl)) :
    Calls Try.prog 18 #[.slice A n c, .slice A' n' c'] w fun e w' => e = .returned (.bool (decide (fl = gl))) ∧ Below w.heap.size w w' := by
  unfold maxLen at hm hm'
  have HR := hid_ hR; clear hR
  have HR' := hid_ hR'; clear hR'
  have HN := hid_ hn; clear hn
  have HN' := hid_ hn'; clear hn'
  go_enter Try.func18, Try.ntmps18
  by_cases hnn : n = n'
  · subst hnn
    go_wp2
    go_loopw [5] (fun v wr => ∃ k : Nat, k ≤ n ∧ v = .int .i64 k ∧ Below w.heap.size w wr ∧ fl.take k = gl.take k) (fun v _ => n - (intOf v).toNat)
    case atStart => exact ⟨0, Nat.zero_le _, rfl, Below.refl _ _, by simp⟩
    case round =>
      obtain ⟨k, hk, rfl, hb, hid⟩ := hrel
      have HI := hid_ hid; clear hid
      by_cases hlt : k < n
      · have hlt' : k < fl.length := by rw [HN.out]; exact hlt
        have hlt2 : k < gl.length := by rw [HN'.out]; exact hlt
        obtain ⟨b, o, rfl, h0, h1, h2⟩ := (HR.out.below hb).fl k hlt HN.out
        obtain ⟨b', o', rfl, h0', h1', h2'⟩ := (HR'.out.below hb).fl k hlt HN'.out
        go_wp2
        go_region_with (go_at_call 44; refine (eqFlight_any fl[k] gl[k] _).mono ?_; rintro e w1 ⟨rfl, hb1⟩)
        all_goals go_wp2
        all_goals first
          | (go_returns
             refine ⟨ret_bool ?_, hb.drew.trans (hb1.mono hb.size)⟩
             have hne : ¬ fl[k] = gl[k] := by simpa using ‹(!decide (fl[k] = gl[k])) = true›
             exact (decide_eq_false (fun e => hne (by simp [e]))).symm)
          | (go_roundw
             case rel =>
               have he : fl[k] = gl[k] := by simpa using ‹(!decide (fl[k] = gl[k])) = false›
               exact ⟨k + 1, by omega, by go_num, hb.drew.trans (hb1.mono hb.size), by rw [List.take_succ_eq_append_getElem hlt', List.take_succ_eq_append_getElem hlt2, HI.out, he]⟩
             case measure => simp [intOf]; omega)
      · go_wp2
        go_returns
        refine ⟨ret_bool ?_, hb⟩
        have := HI.out
        rw [List.take_of_length_le (by rw [HN.out]; omega), List.take_of_length_le (by rw [HN'.out]; omega)] at this
        simp [this]
  · go_wp2
    go_returns
    refine ⟨ret_bool ?_, by go_grown⟩
    have : fl ≠ gl := fun e => hnn (by rw [← HN.out, ← HN'.out, e])
    simp [this]
end Go.Proofs.Ytfinefjihphnhaa
