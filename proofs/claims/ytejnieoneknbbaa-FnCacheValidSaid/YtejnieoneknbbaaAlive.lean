/-
  allWithin, DiskValid, DiskSum at one sector, 'alive'.
-/
import Derived.Test.YtejnieoneknbbaaBase
namespace Go.Proofs.Ytejnieoneknbbaa
open Go.ChangeShapes Go.WideShapes Go.ChangeAt Go.RowKit Go.BigFrame

theorem iwithin_any (n lo hi : Int) (w : World) :
    Calls Try.prog 47 #[.int .i64 n, .int .i64 lo, .int .i64 hi] w fun e w' => e = .returned (.bool (inB n lo hi)) ∧ w = w' := by
  go_enter Try.func47, Try.ntmps47
  go_wp2
  all_goals (go_returns; refine ⟨ret_bool ?_, rfl⟩; rw [Bool.eq_iff_iff, inB_iff]; simp; omega)

def allB (l : List Int) (lo hi : Int) : Bool := l.all (fun x => inB x lo hi)
theorem allB_at {l : List Int} {lo hi : Int} {k : Nat} (h : k < l.length) (hf : inB l[k] lo hi = false) : allB l lo hi = false := by
  unfold allB; rw [List.all_eq_false]; exact ⟨l[k], List.getElem_mem h, by simp [hf]⟩
theorem allB_end {l : List Int} {lo hi : Int} (h : ∀ i (hi' : i < l.length), inB l[i] lo hi = true) : allB l lo hi = true := by
  unfold allB; rw [List.all_eq_true]; intro x hx; obtain ⟨i, hi', rfl⟩ := List.getElem_of_mem hx; exact h i hi'
theorem allB_get {l : List Int} {lo hi : Int} (h : allB l lo hi = true) (i : Nat) (hi' : i < l.length) : lo ≤ l[i] ∧ l[i] ≤ hi := by
  unfold allB at h; rw [List.all_eq_true] at h; exact inB_iff.1 (h _ (List.getElem_mem hi'))

set_option maxHeartbeats 400000 in
theorem allWithin_any (l : List Int) (A : Option Addr) (n c : Nat) (lo hi : Int) (w : World) (hn : l.length = n) (hm : n ≤ 4194304) (hR : Rd w 1 A n (intC l)) :
    Calls Try.prog 64 #[.slice A n c, .int .i64 lo, .int .i64 hi] w fun e w' => e = .returned (.bool (allB l lo hi)) ∧ w = w' := by
  have HR := hid_ hR; clear hR
  have HN := hid_ hn; clear hn
  go_enter Try.func64, Try.ntmps64
  go_wp2
  go_loop [11] (fun v => ∃ k : Nat, k ≤ n ∧ v = .int .i64 k ∧ ∀ i (hi' : i < l.length), i < k → inB l[i] lo hi = true) (fun v => n - (intOf v).toNat)
  case atStart => exact ⟨0, Nat.zero_le _, rfl, fun i _ h => absurd h (by omega)⟩
  case round =>
    obtain ⟨k, hk, rfl, hid⟩ := hrel
    have HI := hid_ hid; clear hid
    by_cases hlt : k < n
    · have hlt' : k < l.length := by rw [HN.out]; exact hlt
      obtain ⟨b, o, rfl, h0⟩ := HR.out.int k hlt HN.out
      cases q : inB l[k] lo hi
      · go_wp2_with (go_at_call 47; refine (iwithin_any _ _ _ _).mono ?_; rintro e w1 ⟨rfl, rfl⟩)
        go_returns
        exact ⟨ret_bool (allB_at hlt' q).symm, rfl⟩
      · go_wp2_with (go_at_call 47; refine (iwithin_any _ _ _ _).mono ?_; rintro e w1 ⟨rfl, rfl⟩)
        go_round
        case rel =>
          refine ⟨k + 1, by omega, by go_num, fun i hi' h => ?_⟩
          by_cases e : i = k
          · subst e; exact q
          · exact HI.out i hi' (by omega)
        case measure => simp [intOf]; omega
    · go_wp2
      go_returns
      exact ⟨ret_bool (allB_end (fun i hi' => HI.out i hi' (by rw [HN.out] at hi'; omega))).symm, rfl⟩

def diskB (l : List Int) : Bool := decide (l.length ≤ 64) && allB l 0 255

theorem diskValid_any (l : List Int) (A : Option Addr) (n c : Nat) (w : World) (hn : l.length = n) (hm : n ≤ 4194304) (hR : Rd w 1 A n (intC l)) :
    Calls Try.prog 63 #[.slice A n c] w fun e w' => e = .returned (.bool (diskB l)) ∧ w = w' := by
  have HR := hid_ hR; clear hR
  have HN := hid_ hn; clear hn
  have hD := hid_ (show diskB l = (decide (n ≤ 64) && allB l 0 255) by unfold diskB; rw [HN.out])
  by_cases h64 : (n : Int) ≤ 64
  · go_enter Try.func63, Try.ntmps63
    go_wp2_with (go_at_call 64; refine (allWithin_any l A n c 0 255 _ HN.out hm HR.out).mono ?_; rintro e w1 ⟨rfl, rfl⟩)
    go_returns
    exact ⟨ret_bool (by rw [hD.out]; simp; omega), rfl⟩
  · go_enter Try.func63, Try.ntmps63
    go_wp2
    go_returns
    exact ⟨ret_bool (by rw [hD.out]; simp; omega), rfl⟩

theorem diskSum_one (A : Option Addr) (c : Nat) (w : World) (hR : Rd w 1 A 1 (intC [1])) :
    Calls Try.prog 53 #[.slice A 1 c] w fun e w' => e = .returned (.int .i64 34) ∧ w = w' := by
  have HR := hid_ hR; clear hR
  have hD : diskB [1] = true := by decide
  obtain ⟨b, o, rfl, h0⟩ := HR.out.int 0 (by omega) rfl
  simp only [List.getElem_cons_zero, Nat.add_zero] at h0
  go_enter Try.func53, Try.ntmps53
  go_wp2_with (go_at_call 63; refine (diskValid_any [1] _ 1 c _ rfl (by omega) HR.out).mono ?_; rintro e w1 ⟨rfl, rfl⟩)
  go_loop [3, 11] (fun s v => (s = .int .i64 1 ∧ v = .int .i64 0) ∨ (s = .int .i64 34 ∧ v = .int .i64 1)) (fun _ v => 1 - (intOf v).toNat)
  case atStart => exact .inl ⟨rfl, rfl⟩
  case round =>
    rcases hrel with ⟨rfl, rfl⟩ | ⟨rfl, rfl⟩
    · go_wp2
      go_round
      case rel => exact .inr ⟨rfl, rfl⟩
      case measure => simp [intOf]
    · go_wp2
      go_returns
      exact ⟨rfl, rfl⟩

theorem alive_any (w : World) : Calls Try.prog 21 #[] w fun e w' => e = .returned (.bool true) ∧ Below w.heap.size w w' := by
  have hR : Rd (w.alloc (.cells #[.int .i64 1] 3)) 1 (some ⟨w.heap.size, 0, none⟩) 1 (intC [1]) :=
    ⟨rfl, fun _ => ⟨_, _, rfl, fun j u hu => by
      have := news_alloc w [.int .i64 1] 3 j u hu
      rwa [add_mid] at this⟩⟩
  have HR := hid_ hR; clear hR
  go_enter Try.func21, Try.ntmps21
  go_wp2_with fail
  refine (diskSum_one _ 1 _ HR.out).mono ?_
  rintro e w1 ⟨rfl, rfl⟩
  go_wp2
  go_returns
  exact ⟨rfl, (Below.refl _ _).alloc (Nat.le_refl _) _⟩
end Go.Proofs.Ytejnieoneknbbaa
