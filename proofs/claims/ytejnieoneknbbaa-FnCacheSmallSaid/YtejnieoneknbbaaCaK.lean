/-
  Caches: reading.
-/
import Derived.Test.YtejnieoneknbbaaCaJ
namespace Go.Proofs.Ytejnieoneknbbaa
open Go.ChangeShapes Go.WideShapes Go.ChangeAt Go.RowKit Go.BigFrame

/-- the first line of a sector, or the empty one -/
def findL (L : List Ln) (a : Int) : Ln := match L.find? (fun x => x.at_ == a) with
  | some x => x
  | none => ⟨0, 0, false⟩
def findB (L : List Ln) (a : Int) : Bool := (L.find? (fun x => x.at_ == a)).isSome
theorem find_at {L : List Ln} {a : Int} {k : Nat} (h : k < L.length) (he : L[k].at_ = a) (h0 : ∀ i (hi : i < L.length), i < k → L[i].at_ ≠ a) : L.find? (fun x => x.at_ == a) = some L[k] := by
  rw [List.find?_eq_some_iff_getElem]
  exact ⟨by simpa using he, k, h, rfl, fun j hj => by simpa using h0 j (by omega) hj⟩
theorem find_no {L : List Ln} {a : Int} (h0 : ∀ i (hi : i < L.length), L[i].at_ ≠ a) : L.find? (fun x => x.at_ == a) = none := by
  rw [List.find?_eq_none]
  intro x hx
  obtain ⟨i, hi, rfl⟩ := List.getElem_of_mem hx
  simpa using h0 i hi
theorem lineR_yes {L : List Ln} {d : List Int} {a : Int} (h : findB L a = true) : lineR L d a = findL L a := by
  unfold findB at h
  unfold lineR findL
  cases e : L.find? (fun x => x.at_ == a) with
  | some x => rfl
  | none => rw [e] at h; cases h
theorem lineR_no {L : List Ln} {d : List Int} {a : Int} (h : findB L a = false) : lineR L d a = ⟨a, d.getD a.toNat 0, false⟩ := by
  unfold findB at h
  unfold lineR
  cases e : L.find? (fun x => x.at_ == a) with
  | some x => rw [e] at h; cases h
  | none => rfl

set_option maxHeartbeats 1000000 in
theorem l12Find_any (L : List Ln) (A : Option Addr) (n c : Nat) (m a : Int) (w : World) (hn : L.length = n) (hm : n ≤ 1048576) (hR : Rd w 3 A n (lnC L)) :
    Calls Try.prog 67 #[.agg #[.slice A n c, .int .i64 m], .int .i64 a] w fun e w' => e = .returned (.tuple #[.agg #[.int .i64 (findL L a).at_, .int .i64 (findL L a).value, .bool (findL L a).dirty], .bool (findB L a)]) ∧ Below w.heap.size w w' := by
  have HN := hid_ hn; clear hn
  have HB0 := hid_ (((Below.refl w.heap.size w).alloc (Nat.le_refl _) (.cells #[.slice A n c, .int .i64 m] 29)).alloc (by simp) (.cells #[.int .i64 0, .int .i64 0, .bool false] 38))
  have HR := hid_ ((hR.alloc (.cells #[.slice A n c, .int .i64 m] 29)).alloc (.cells #[.int .i64 0, .int .i64 0, .bool false] 38)); clear hR
  go_enter Try.func67, Try.ntmps67
  go_wp2
  go_loop [6] (fun v => ∃ k : Nat, k ≤ n ∧ v = .int .i64 k ∧ ∀ i (hi : i < L.length), i < k → L[i].at_ ≠ a) (fun v => n - (intOf v).toNat)
  case atStart => exact ⟨0, Nat.zero_le _, rfl, fun i _ h => absurd h (by omega)⟩
  case round =>
    obtain ⟨k, hk, rfl, hid⟩ := hrel
    have HI := hid_ hid; clear hid
    by_cases hlt : k < n
    · have hlt' : k < L.length := by rw [HN.out]; exact hlt
      obtain ⟨b, o, rfl, h0, h1, h2⟩ := HR.out.ln k hlt HN.out
      have hknz : (k : Int) < (n : Int) := by omega
      by_cases he : L[k].at_ = a
      · have HF := hid_ (find_at hlt' he HI.out)
        have HFL := hid_ (show findL L a = L[k] by unfold findL; rw [HF.out])
        have HFB := hid_ (show findB L a = true by unfold findB; rw [HF.out]; rfl)
        have hd : (L[k].at_ == a) = true := by simpa using he
        clear he
        go_wp2
        refine bodyPost_ret (v := .tuple #[.agg #[.int .i64 L[k].at_, .int .i64 L[k].value, .bool L[k].dirty], .bool true]) (by simp [results, Try.results67, go_sem]) rfl ?_
        exact ⟨by rw [HFL.out, HFB.out], (((Below.refl w.heap.size w).alloc (Nat.le_refl _) _).alloc (by simp) _)⟩
      · have hd : (L[k].at_ == a) = false := by simpa using he
        go_wp2
        go_round
        case rel => exact ⟨k + 1, by omega, by go_num, fun i hi h => by
          by_cases e : i = k
          · subst e; exact he
          · exact HI.out i hi (by omega)⟩
        case measure => simp [intOf]; omega
    · have HF := hid_ (find_no (fun i hi => HI.out i hi (by have := HN.out; omega)))
      have HFL := hid_ (show findL L a = ⟨0, 0, false⟩ by unfold findL; rw [HF.out])
      have HFB := hid_ (show findB L a = false by unfold findB; rw [HF.out]; rfl)
      go_wp2
      refine bodyPost_ret (v := .tuple #[.agg #[.int .i64 0, .int .i64 0, .bool false], .bool false]) (by simp [results, Try.results67, go_sem]) rfl ?_
      exact ⟨by rw [HFL.out, HFB.out], HB0.out⟩
end Go.Proofs.Ytejnieoneknbbaa
