/-
  Caches and disks: what is valid together; the views.
-/
import Derived.Test.YtejnieoneknbbaaCaC
namespace Go.Proofs.Ytejnieoneknbbaa
open Go.ChangeShapes Go.WideShapes Go.ChangeAt Go.RowKit Go.BigFrame

set_option maxHeartbeats 400000 in
theorem specDV_any (l : List Int) (A : Option Addr) (n c : Nat) (w : World) (hn : l.length = n) (hm : n ≤ 4194304) (hR : Rd w 1 A n (intC l)) :
    Calls Try.prog 56 #[.slice A n c] w fun e w' => e = .returned (.bool (diskB l)) ∧ w = w' := by
  have HR := hid_ hR; clear hR
  have HN := hid_ hn; clear hn
  go_enter Try.func56, Try.ntmps56
  go_wp2
  go_loop [3] (fun v => ∃ k : Nat, k ≤ n ∧ v = .int .i64 k ∧ ∀ i (hi' : i < l.length), i < k → inB l[i] 0 255 = true) (fun v => n - (intOf v).toNat)
  case atStart => exact ⟨0, Nat.zero_le _, rfl, fun i _ h => absurd h (by omega)⟩
  case round =>
    obtain ⟨k, hk, rfl, hid⟩ := hrel
    have HI := hid_ hid; clear hid
    by_cases hlt : k < n
    · have hlt' : k < l.length := by rw [HN.out]; exact hlt
      obtain ⟨b, o, rfl, h0⟩ := HR.out.int k hlt HN.out
      cases q : inB l[k] 0 255
      · go_wp2_with (go_at_call 45; refine (l1In_any _ _ _ _).mono ?_; rintro e w1 ⟨rfl, rfl⟩)
        go_returns
        exact ⟨ret_bool (by unfold diskB; rw [allB_at hlt' q]; simp), rfl⟩
      · go_wp2_with (go_at_call 45; refine (l1In_any _ _ _ _).mono ?_; rintro e w1 ⟨rfl, rfl⟩)
        go_round
        case rel =>
          refine ⟨k + 1, by omega, by go_num, fun i hi' h => ?_⟩
          by_cases e : i = k
          · subst e; exact q
          · exact HI.out i hi' (by omega)
        case measure => simp [intOf]; omega
    · go_wp2
      go_returns
      refine ⟨ret_bool ?_, rfl⟩
      unfold diskB
      rw [allB_end (fun i hi' => HI.out i hi' (by rw [HN.out] at hi'; omega)), HN.out]
      simp; omega

/-- the two are valid together -/
theorem ok_eq (L : List Ln) (m : Int) (d : List Int) : Ca.ok ⟨L, m, d⟩ = (diskB d && cvB L m d.length) := rfl

set_option maxHeartbeats 400000 in
theorem isCached_any (L : List Ln) (A : Option Addr) (n c : Nat) (m : Int) (d : List Int) (A2 : Option Addr) (n2 c2 : Nat) (w : World) (hn : L.length = n) (hm : n ≤ 1048576) (hc : n ≤ c) (hcm : c ≤ maxLen) (hR : Rd w 3 A n (lnC L)) (hn2 : d.length = n2) (hm2 : n2 ≤ 1048576) (hR2 : Rd w 1 A2 n2 (intC d)) :
    Calls Try.prog 54 #[.agg #[.slice A n c, .int .i64 m], .slice A2 n2 c2] w fun e w' => e = .returned (.bool (Ca.ok ⟨L, m, d⟩)) ∧ Below w.heap.size w w' := by
  have HR := hid_ (hR.alloc (.cells #[.slice A n c, .int .i64 m] 29)); clear hR
  have HR2 := hid_ (hR2.alloc (.cells #[.slice A n c, .int .i64 m] 29)); clear hR2
  have HN := hid_ hn; clear hn
  have HN2 := hid_ hn2; clear hn2
  have HCM := hid_ hcm; clear hcm
  have HB0 := hid_ ((Below.refl w.heap.size w).alloc (Nat.le_refl _) (.cells #[.slice A n c, .int .i64 m] 29))
  have HE := hid_ (ok_eq L m d)
  cases q : diskB d
  · go_enter Try.func54, Try.ntmps54
    go_wp2_with (go_at_call 63; refine (diskValid_any d A2 n2 c2 _ HN2.out (by omega) HR2.out).mono ?_; rintro e w1 ⟨rfl, rfl⟩)
    go_returns
    exact ⟨ret_bool (by rw [HE.out, q]; simp), HB0.out⟩
  · go_enter Try.func54, Try.ntmps54
    go_wp2_with (first | (go_at_call 63; refine (diskValid_any d A2 n2 c2 _ HN2.out (by omega) HR2.out).mono ?_; rw [q]; rintro e w1 ⟨rfl, rfl⟩) | (go_at_call 18; refine (implCV_any L A n c m n2 _ HN.out (by omega) hc HCM.out HR.out).mono ?_; rintro e w2 ⟨rfl, hb2⟩))
    go_returns
    exact ⟨ret_bool (by rw [HE.out, q, HN2.out]; simp), HB0.out.trans (hb2.mono HB0.out.size)⟩

set_option maxHeartbeats 400000 in
theorem l12Ok_any (L : List Ln) (A : Option Addr) (n c : Nat) (m : Int) (d : List Int) (A2 : Option Addr) (n2 c2 : Nat) (a : Int) (w : World) (hn : L.length = n) (hm : n ≤ 1048576) (hR : Rd w 3 A n (lnC L)) (hn2 : d.length = n2) (hm2 : n2 ≤ 1048576) (hR2 : Rd w 1 A2 n2 (intC d)) :
    Calls Try.prog 61 #[.agg #[.slice A n c, .int .i64 m], .slice A2 n2 c2, .int .i64 a] w fun e w' => e = .returned (.bool (caAt ⟨L, m, d⟩ a)) ∧ Below w.heap.size w w' := by
  have HR := hid_ (hR.alloc (.cells #[.slice A n c, .int .i64 m] 29)); clear hR
  have HR2 := hid_ (hR2.alloc (.cells #[.slice A n c, .int .i64 m] 29)); clear hR2
  have HN := hid_ hn; clear hn
  have HN2 := hid_ hn2; clear hn2
  have HB0 := hid_ ((Below.refl w.heap.size w).alloc (Nat.le_refl _) (.cells #[.slice A n c, .int .i64 m] 29))
  have HE := hid_ (show caAt ⟨L, m, d⟩ a = (diskB d && cvB L m n2 && inB a 0 (n2 - 1)) by unfold caAt; rw [ok_eq, HN2.out])
  cases q : diskB d
  · go_enter Try.func61, Try.ntmps61
    go_wp2_with (go_at_call 56; refine (specDV_any d A2 n2 c2 _ HN2.out (by omega) HR2.out).mono ?_; rw [q]; rintro e w1 ⟨rfl, rfl⟩)
    go_returns
    exact ⟨ret_bool (by rw [HE.out, q]; simp), HB0.out⟩
  · cases q2 : cvB L m n2
    · go_enter Try.func61, Try.ntmps61
      go_wp2_with (first | (go_at_call 56; refine (specDV_any d A2 n2 c2 _ HN2.out (by omega) HR2.out).mono ?_; rw [q]; rintro e w1 ⟨rfl, rfl⟩) | (go_at_call 16; refine (specCV_any L A n c m n2 _ HN.out (by omega) HR.out).mono ?_; rw [q2]; rintro e w2 ⟨rfl, hb2⟩))
      go_returns
      exact ⟨ret_bool (by rw [HE.out, q, q2]; simp), HB0.out.trans (hb2.mono HB0.out.size)⟩
    · go_enter Try.func61, Try.ntmps61
      go_wp2_with (first | (go_at_call 56; refine (specDV_any d A2 n2 c2 _ HN2.out (by omega) HR2.out).mono ?_; rw [q]; rintro e w1 ⟨rfl, rfl⟩) | (go_at_call 16; refine (specCV_any L A n c m n2 _ HN.out (by omega) HR.out).mono ?_; rw [q2]; rintro e w2 ⟨rfl, hb2⟩) | (go_at_call 45; refine (l1In_any _ _ _ _).mono ?_; rintro e w3 ⟨rfl, rfl⟩))
      go_returns
      exact ⟨ret_bool (by rw [HE.out, q, q2]; simp), HB0.out.trans (hb2.mono HB0.out.size)⟩
end Go.Proofs.Ytejnieoneknbbaa
