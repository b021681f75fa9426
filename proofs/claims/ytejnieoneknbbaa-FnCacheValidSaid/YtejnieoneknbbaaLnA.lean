/-
  Lines: the small functions.
-/
import Derived.Test.YtejnieoneknbbaaBase
namespace Go.Proofs.Ytejnieoneknbbaa
open Go.ChangeShapes Go.WideShapes Go.ChangeAt Go.RowKit Go.BigFrame

structure Ln where
  at_ : Int
  value : Int
  dirty : Bool
  deriving DecidableEq
def Ln.row (f : Ln) : List Value := [.int .i64 f.at_, .int .i64 f.value, .bool f.dirty]
def lnC (l : List Ln) : List Value := l.flatMap Ln.row
theorem lnC_length (l : List Ln) : (lnC l).length = l.length * 3 := flat_length Ln.row 3 (fun _ => rfl) l
theorem lnC_append (a b : List Ln) : lnC (a ++ b) = lnC a ++ lnC b := by simp [lnC]
theorem lnC_one (l : List Ln) : ∀ u ∈ lnC l, u.oneCell' = true := by
  intro u hu
  obtain ⟨f, _, hf⟩ := List.mem_flatMap.1 hu
  simp only [Ln.row, List.mem_cons, List.not_mem_nil, or_false] at hf
  rcases hf with rfl | rfl | rfl <;> rfl
theorem lnC_take (l : List Ln) (m : Nat) : (lnC l).take (m * 3) = lnC (l.take m) := by
  by_cases hm : m ≤ l.length
  · conv => lhs; rw [← List.take_append_drop m l, lnC_append]
    rw [List.take_left' (by rw [lnC_length, List.length_take, Nat.min_eq_left hm])]
  · rw [List.take_of_length_le (by rw [lnC_length]; omega), List.take_of_length_le (by omega)]
theorem lnC_drop (l : List Ln) (m : Nat) : (lnC l).drop (m * 3) = lnC (l.drop m) := by
  by_cases hm : m ≤ l.length
  · conv => lhs; rw [← List.take_append_drop m l, lnC_append]
    rw [List.drop_left' (by rw [lnC_length, List.length_take, Nat.min_eq_left hm])]
  · rw [List.drop_eq_nil_of_le (by rw [lnC_length]; omega), List.drop_eq_nil_of_le (by omega)]; rfl
theorem Rd.ln {w : World} {A : Option Addr} {n : Nat} {l : List Ln} (h : Rd w 3 A n (lnC l)) (i : Nat) (hi : i < n) (hn : l.length = n) :
    ∃ b o, A = some ⟨b, o, none⟩ ∧ w.cell? ⟨b, o + i * 3, none⟩ = some (.int .i64 (l[i]'(by omega)).at_) ∧ w.cell? ⟨b, o + i * 3 + 1, none⟩ = some (.int .i64 (l[i]'(by omega)).value) ∧ w.cell? ⟨b, o + i * 3 + 2, none⟩ = some (.bool (l[i]'(by omega)).dirty) := by
  obtain ⟨b, o, e, hc⟩ := h.2 (by omega)
  have g := flat_get Ln.row 3 (fun _ => rfl) l i (by omega)
  exact ⟨b, o, e, hc _ _ (g 0 (by omega)), hc _ _ (g 1 (by omega)), hc _ _ (g 2 (by omega))⟩

theorem within_any (n lo hi : Int) (w : World) :
    Calls Try.prog 47 #[.int .i64 n, .int .i64 lo, .int .i64 hi] w fun e w' => e = .returned (.bool (inB n lo hi)) ∧ w = w' := by
  go_enter Try.func47, Try.ntmps47
  go_wp2
  all_goals (go_returns; refine ⟨ret_bool ?_, rfl⟩; rw [Bool.eq_iff_iff, inB_iff]; simp; omega)

theorem l1In_any (n lo hi : Int) (w : World) :
    Calls Try.prog 45 #[.int .i64 n, .int .i64 lo, .int .i64 hi] w fun e w' => e = .returned (.bool (inB n lo hi)) ∧ w = w' := by
  go_enter Try.func45, Try.ntmps45
  go_wp2
  all_goals (go_returns; refine ⟨ret_bool ?_, rfl⟩; rw [Bool.eq_iff_iff, inB_iff]; simp; omega)

theorem toLine_any (a b : Int) (c : Bool) (w : World) :
    Calls Try.prog 68 #[.agg #[.int .i64 a, .int .i64 b, .bool c]] w fun e w' => e = .returned (.agg #[.int .i64 a, .int .i64 b, .bool c]) ∧ Below w.heap.size w w' := by
  go_enter Try.func68, Try.ntmps68
  go_wp2
  go_returns
  exact ⟨rfl, by go_grown⟩

theorem eqLine_any (f g : Ln) (w : World) :
    Calls Try.prog 71 #[.agg #[.int .i64 f.at_, .int .i64 f.value, .bool f.dirty], .agg #[.int .i64 g.at_, .int .i64 g.value, .bool g.dirty]] w fun e w' => e = .returned (.bool (decide (f = g))) ∧ Below w.heap.size w w' := by
  obtain ⟨a, b, c⟩ := f
  obtain ⟨a', b', c'⟩ := g
  go_enter Try.func71, Try.ntmps71
  go_wp2
  all_goals (go_returns; refine ⟨ret_bool ?_, by go_grown⟩; rw [Bool.eq_iff_iff]; simp_all)

theorem szLn_any (A : Option Addr) (n c : Nat) (l : Int) (w : World) (hm : n ≤ maxLen) (h0 : 0 ≤ l) (h1 : l ≤ 1048576) :
    Calls Try.prog 44 #[.slice A n c, .int .i64 l] w fun e w' => e = .returned (.int .i64 (if l < n then -1 else l - n)) ∧ w = w' := by
  unfold maxLen at hm
  go_enter Try.func44, Try.ntmps44
  go_wp2
  all_goals (go_returns; refine ⟨ret_int ?_, rfl⟩; (try split) <;> omega)

set_option maxHeartbeats 400000 in
theorem eqLineS_any (fl gl : List Ln) (A A' : Option Addr) (n n' c c' : Nat) (w : World) (hn : fl.length = n) (hn' : gl.length = n') (hm : n ≤ maxLen) (hm' : n' ≤ maxLen) (hR : Rd w 3 A n (lnC fl)) (hR' : Rd w 3 A' n' (lnC gl)) :
    Calls Try.prog 49 #[.slice A n c, .slice A' n' c'] w fun e w' => e = .returned (.bool (decide (fl = gl))) ∧ Below w.heap.size w w' := by
  unfold maxLen at hm hm'
  have HR := hid_ hR; clear hR
  have HR' := hid_ hR'; clear hR'
  have HN := hid_ hn; clear hn
  have HN' := hid_ hn'; clear hn'
  go_enter Try.func49, Try.ntmps49
  by_cases hnn : n = n'
  · subst hnn
    go_wp2
    go_loopw [5] (fun v wr => ∃ k : Nat, k ≤ n ∧ v = .int .i64 k ∧ Below w.heap.size w wr ∧ fl.take k = gl.take k) (fun v _ => n - (intOf v).toNat)
    case atStart => exact ⟨0, Nat.zero_le _, rfl, Below.refl _ _, by simp⟩
    case round =>
      obtain ⟨k, hk, rfl, hb, hid⟩ := hrel
      have HI := hid_ hid; clear hid
      by_cases hlt : k < n
      · have hlt' : k < fl.length := by rw [HN.out]; exact hlt
        have hlt2 : k < gl.length := by rw [HN'.out]; exact hlt
        obtain ⟨b, o, rfl, h0, h1, h2⟩ := (HR.out.below hb).ln k hlt HN.out
        obtain ⟨b', o', rfl, h0', h1', h2'⟩ := (HR'.out.below hb).ln k hlt HN'.out
        go_wp2
        go_region_with (go_at_call 71; refine (eqLine_any fl[k] gl[k] _).mono ?_; rintro e w1 ⟨rfl, hb1⟩)
        all_goals go_wp2
        all_goals first
          | (go_returns
             refine ⟨ret_bool ?_, hb.drew.trans (hb1.mono hb.size)⟩
             have hne : ¬ fl[k] = gl[k] := by simpa using ‹(!decide (fl[k] = gl[k])) = true›
             exact (decide_eq_false (fun e => hne (by simp [e]))).symm)
          | (go_roundw
             case rel =>
               have he : fl[k] = gl[k] := by simpa using ‹(!decide (fl[k] = gl[k])) = false›
               exact ⟨k + 1, by omega, by go_num, hb.drew.trans (hb1.mono hb.size), by rw [List.take_succ_eq_append_getElem hlt', List.take_succ_eq_append_getElem hlt2, HI.out, he]⟩
             case measure => simp [intOf]; omega)
      · go_wp2
        go_returns
        refine ⟨ret_bool ?_, hb⟩
        have := HI.out
        rw [List.take_of_length_le (by rw [HN.out]; omega), List.take_of_length_le (by rw [HN'.out]; omega)] at this
        simp [this]
  · go_wp2
    go_returns
    refine ⟨ret_bool ?_, by go_grown⟩
    have : fl ≠ gl := fun e => hnn (by rw [← HN.out, ← HN'.out, e])
    simp [this]
end Go.Proofs.Ytejnieoneknbbaa
