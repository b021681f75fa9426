/-
  Items: the small functions.
-/
import Derived.Test.YtfmkjhkopocokaaBaP
namespace Go.Proofs.Ytfmkjhkopocokaa
open Go.ChangeShapes Go.WideShapes Go.ChangeAt Go.RowKit Go.BigFrame

def It.row (f : It) : List Value := [.int .i64 f.number, .bool f.barrier]
def itC (l : List It) : List Value := l.flatMap It.row
theorem itC_length (l : List It) : (itC l).length = l.length * 2 := flat_length It.row 2 (fun _ => rfl) l
theorem itC_append (a b : List It) : itC (a ++ b) = itC a ++ itC b := by simp [itC]
theorem itC_one (l : List It) : ∀ u ∈ itC l, u.oneCell' = true := by
  intro u hu
  obtain ⟨f, _, hf⟩ := List.mem_flatMap.1 hu
  simp only [It.row, List.mem_cons, List.not_mem_nil, or_false] at hf
  rcases hf with rfl | rfl <;> rfl
theorem itC_take (l : List It) (m : Nat) : (itC l).take (m * 2) = itC (l.take m) := by
  by_cases hm : m ≤ l.length
  · conv => lhs; rw [← List.take_append_drop m l, itC_append]
    rw [List.take_left' (by rw [itC_length, List.length_take, Nat.min_eq_left hm])]
  · rw [List.take_of_length_le (by rw [itC_length]; omega), List.take_of_length_le (by omega)]
theorem itC_drop (l : List It) (m : Nat) : (itC l).drop (m * 2) = itC (l.drop m) := by
  by_cases hm : m ≤ l.length
  · conv => lhs; rw [← List.take_append_drop m l, itC_append]
    rw [List.drop_left' (by rw [itC_length, List.length_take, Nat.min_eq_left hm])]
  · rw [List.drop_eq_nil_of_le (by rw [itC_length]; omega), List.drop_eq_nil_of_le (by omega)]; rfl
theorem Rd.it {w : World} {A : Option Addr} {n : Nat} {l : List It} (h : Rd w 2 A n (itC l)) (i : Nat) (hi : i < n) (hn : l.length = n) :
    ∃ b o, A = some ⟨b, o, none⟩ ∧ w.cell? ⟨b, o + i * 2, none⟩ = some (.int .i64 (l[i]'(by omega)).number) ∧ w.cell? ⟨b, o + i * 2 + 1, none⟩ = some (.bool (l[i]'(by omega)).barrier) := by
  obtain ⟨b, o, e, hc⟩ := h.2 (by omega)
  have g := flat_get It.row 2 (fun _ => rfl) l i (by omega)
  exact ⟨b, o, e, hc _ _ (g 0 (by omega)), hc _ _ (g 1 (by omega))⟩
/-- the barrier at a place -/
theorem Rd.itb {w : World} {b o n : Nat} {l : List It} (h : Rd w 2 (some ⟨b, o, none⟩) n (itC l)) (i : Nat) (hi : i < n) (hn : l.length = n) :
    w.cell? ⟨b, o + i * 2 + 1, none⟩ = some (.bool (bar l i)) := by
  obtain ⟨b', o', e, _, h1⟩ := h.it i hi hn
  injection e with e
  injection e with e1 e2
  subst e1; subst e2
  rw [bar_get l i (by omega)]; exact h1

theorem l1In_any (n lo hi : Int) (w : World) :
    Calls Try.prog 47 #[.int .i64 n, .int .i64 lo, .int .i64 hi] w fun e w' => e = .returned (.bool (inB n lo hi)) ∧ w = w' := by
  go_enter Try.func47, Try.ntmps47
  go_wp2
  all_goals (go_returns; refine ⟨ret_bool ?_, rfl⟩; rw [Bool.eq_iff_iff, inB_iff]; simp; omega)

theorem toItem_any (a : Int) (c : Bool) (w : World) :
    Calls Try.prog 38 #[.agg #[.int .i64 a, .bool c]] w fun e w' => e = .returned (.agg #[.int .i64 a, .bool c]) ∧ Below w.heap.size w w' := by
  go_enter Try.func38, Try.ntmps38
  go_wp2
  go_returns
  exact ⟨rfl, by go_grown⟩

theorem eqItem_any (f g : It) (w : World) :
    Calls Try.prog 40 #[.agg #[.int .i64 f.number, .bool f.barrier], .agg #[.int .i64 g.number, .bool g.barrier]] w fun e w' => e = .returned (.bool (decide (f = g))) ∧ Below w.heap.size w w' := by
  obtain ⟨a, c⟩ := f
  obtain ⟨a', c'⟩ := g
  go_enter Try.func40, Try.ntmps40
  go_wp2
  all_goals (go_returns; refine ⟨ret_bool ?_, by go_grown⟩; rw [Bool.eq_iff_iff]; simp_all)

theorem szIt_any (A : Option Addr) (n c : Nat) (l : Int) (w : World) (hm : n ≤ maxLen) (h0 : 0 ≤ l) (h1 : l ≤ 1048576) :
    Calls Try.prog 12 #[.slice A n c, .int .i64 l] w fun e w' => e = .returned (.int .i64 (if l < n then -1 else l - n)) ∧ w = w' := by
  unfold maxLen at hm
  go_enter Try.func12, Try.ntmps12
  go_wp2
  all_goals (go_returns; refine ⟨ret_int ?_, rfl⟩; (try split) <;> omega)

set_option maxHeartbeats 400000 in
theorem eqItemS_any (fl gl : List It) (A A' : Option Addr) (n n' c c' : Nat) (w : World) (hn : fl.length = n) (hn' : gl.length = n') (hm : n ≤ maxLen) (hm' : n' ≤ maxLen) (hR : Rd w 2 A n (itC fl)) (hR' : Rd w 2 A' n' (itC gl)) :
    Calls Try.prog 16 #[.slice A n c, .slice A' n' c'] w fun e w' => e = .returned (.bool (decide (fl = gl))) ∧ Below w.heap.size w w' := by
  unfold maxLen at hm hm'
  have HR := hid_ hR; clear hR
  have HR' := hid_ hR'; clear hR'
  have HN := hid_ hn; clear hn
  have HN' := hid_ hn'; clear hn'
  go_enter Try.func16, Try.ntmps16
  by_cases hnn : n = n'
  · subst hnn
    go_wp2
    go_loopw [5] (fun v wr => ∃ k : Nat, k ≤ n ∧ v = .int .i64 k ∧ Below w.heap.size w wr ∧ fl.take k = gl.take k) (fun v _ => n - (intOf v).toNat)
    case atStart => exact ⟨0, Nat.zero_le _, rfl, Below.refl _ _, by simp⟩
    case round =>
      obtain ⟨k, hk, rfl, hb, hid⟩ := hrel
      have HI := hid_ hid; clear hid
      by_cases hlt : k < n
      · have hlt' : k < fl.length := by rw [HN.out]; exact hlt
        have hlt2 : k < gl.length := by rw [HN'.out]; exact hlt
        obtain ⟨b, o, rfl, h0, h1⟩ := (HR.out.below hb).it k hlt HN.out
        obtain ⟨b', o', rfl, h0', h1'⟩ := (HR'.out.below hb).it k hlt HN'.out
        go_wp2
        go_region_with (go_at_call 40; refine (eqItem_any fl[k] gl[k] _).mono ?_; rintro e w1 ⟨rfl, hb1⟩)
        all_goals go_wp2
        all_goals first
          | (go_returns
             refine ⟨ret_bool ?_, hb.drew.trans (hb1.mono hb.size)⟩
             have hne : ¬ fl[k] = gl[k] := by simpa using ‹(!decide (fl[k] = gl[k])) = true›
             exact (decide_eq_false (fun e => hne (by simp [e]))).symm)
          | (go_roundw
             case rel =>
               have he : fl[k] = gl[k] := by simpa using ‹(!decide (fl[k] = gl[k])) = false›
               exact ⟨k + 1, by omega, by go_num, hb.drew.trans (hb1.mono hb.size), by rw [List.take_succ_eq_append_getElem hlt', List.take_succ_eq_append_getElem hlt2, HI.out, he]⟩
             case measure => simp [intOf]; omega)
      · go_wp2
        go_returns
        refine ⟨ret_bool ?_, hb⟩
        have := HI.out
        rw [List.take_of_length_le (by rw [HN.out]; omega), List.take_of_length_le (by rw [HN'.out]; omega)] at this
        simp [this]
  · go_wp2
    go_returns
    refine ⟨ret_bool ?_, by go_grown⟩
    have : fl ≠ gl := fun e => hnn (by rw [← HN.out, ← HN'.out, e])
    simp [this]
end Go.Proofs.Ytfmkjhkopocokaa
