/-
  The small functions over []int of the laws' package.
-/
import Derived.Test.YtejnieoneknbbaaBase
namespace Go.Proofs.Ytejnieoneknbbaa
open Go.ChangeShapes Go.WideShapes Go.ChangeAt Go.RowKit Go.BigFrame

theorem set1_get (xs ys : List Value) (m : Nat) (a : Value) (hx : m < xs.length) (h : ∀ j, j < m → xs[j]? = ys[j]?) (h0 : ys[m]? = some a) :
    ∀ j, j < m + 1 → (xs.set m a)[j]? = ys[j]? := by
  intro j hj
  by_cases e : j = m
  · subst e; rw [List.getElem?_set_self hx, h0]
  · rw [List.getElem?_set_ne (by omega)]; exact h j (by omega)

theorem all_get (xs ys : List Value) (m : Nat) (hx : xs.length = m) (hy : ys.length = m) (h : ∀ j, j < m → xs[j]? = ys[j]?) : xs = ys := by
  apply List.ext_getElem?
  intro j
  by_cases hj : j < m
  · exact h j hj
  · rw [List.getElem?_eq_none (by omega), List.getElem?_eq_none (by omega)]

set_option maxHeartbeats 400000 in
theorem eqIntS_any (fl gl : List Int) (A A' : Option Addr) (n n' c c' : Nat) (w : World) (hn : fl.length = n) (hn' : gl.length = n') (hm : n ≤ maxLen) (hm' : n' ≤ maxLen) (hR : Rd w 1 A n (intC fl)) (hR' : Rd w 1 A' n' (intC gl)) :
    Calls Try.prog 27 #[.slice A n c, .slice A' n' c'] w fun e w' => e = .returned (.bool (decide (fl = gl))) ∧ Below w.heap.size w w' := by
  unfold maxLen at hm hm'
  have HR := hid_ hR; clear hR
  have HR' := hid_ hR'; clear hR'
  have HN := hid_ hn; clear hn
  have HN' := hid_ hn'; clear hn'
  go_enter Try.func27, Try.ntmps27
  by_cases hnn : n = n'
  · subst hnn
    go_wp2
    go_loopw [5] (fun v wr => ∃ k : Nat, k ≤ n ∧ v = .int .i64 k ∧ Below w.heap.size w wr ∧ fl.take k = gl.take k) (fun v _ => n - (intOf v).toNat)
    case atStart => exact ⟨0, Nat.zero_le _, rfl, Below.refl _ _, by simp⟩
    case round =>
      obtain ⟨k, hk, rfl, hb, hid⟩ := hrel
      have HI := hid_ hid; clear hid
      by_cases hlt : k < n
      · have hlt' : k < fl.length := by rw [HN.out]; exact hlt
        have hlt2 : k < gl.length := by rw [HN'.out]; exact hlt
        obtain ⟨b, o, rfl, h0⟩ := (HR.out.below hb).int k hlt HN.out
        obtain ⟨b', o', rfl, h0'⟩ := (HR'.out.below hb).int k hlt HN'.out
        have hlz : (k : Int) < (n : Int) := by omega
        go_wp2
        go_quiet (fail)
        all_goals go_wp2
        all_goals first
          | (go_returns
             refine ⟨ret_bool ?_, bdN hb _⟩
             have hne : ¬ fl[k] = gl[k] := by simpa using ‹(fl[k] != gl[k]) = true›
             exact (decide_eq_false (fun e => hne (by simp [e]))).symm)
          | (go_roundw
             case rel =>
               have he : fl[k] = gl[k] := by simpa using ‹(fl[k] != gl[k]) = false›
               exact ⟨k + 1, by omega, by go_num, bdN hb _, by rw [List.take_succ_eq_append_getElem hlt', List.take_succ_eq_append_getElem hlt2, HI.out, he]⟩
             case measure => simp [intOf]; omega)
      · go_wp2
        go_returns
        refine ⟨ret_bool ?_, hb⟩
        have := HI.out
        rw [List.take_of_length_le (by rw [HN.out]; omega), List.take_of_length_le (by rw [HN'.out]; omega)] at this
        simp [this]
  · go_wp2
    go_returns
    refine ⟨ret_bool ?_, by go_grown⟩
    have : fl ≠ gl := fun e => hnn (by rw [← HN.out, ← HN'.out, e])
    simp [this]
set_option maxHeartbeats 400000 in
theorem sameInts_any (fl gl : List Int) (A A' : Option Addr) (n n' c c' : Nat) (w : World) (hn : fl.length = n) (hn' : gl.length = n') (hm : n ≤ maxLen) (hm' : n' ≤ maxLen) (hR : Rd w 1 A n (intC fl)) (hR' : Rd w 1 A' n' (intC gl)) :
    Calls Try.prog 24 #[.slice A n c, .slice A' n' c'] w fun e w' => e = .returned (.bool (decide (fl = gl))) ∧ Below w.heap.size w w' := by
  unfold maxLen at hm hm'
  have HR := hid_ hR; clear hR
  have HR' := hid_ hR'; clear hR'
  have HN := hid_ hn; clear hn
  have HN' := hid_ hn'; clear hn'
  go_enter Try.func24, Try.ntmps24
  by_cases hnn : n = n'
  · subst hnn
    go_wp2
    go_loopw [5] (fun v wr => ∃ k : Nat, k ≤ n ∧ v = .int .i64 k ∧ Below w.heap.size w wr ∧ fl.take k = gl.take k) (fun v _ => n - (intOf v).toNat)
    case atStart => exact ⟨0, Nat.zero_le _, rfl, Below.refl _ _, by simp⟩
    case round =>
      obtain ⟨k, hk, rfl, hb, hid⟩ := hrel
      have HI := hid_ hid; clear hid
      by_cases hlt : k < n
      · have hlt' : k < fl.length := by rw [HN.out]; exact hlt
        have hlt2 : k < gl.length := by rw [HN'.out]; exact hlt
        obtain ⟨b, o, rfl, h0⟩ := (HR.out.below hb).int k hlt HN.out
        obtain ⟨b', o', rfl, h0'⟩ := (HR'.out.below hb).int k hlt HN'.out
        have hlz : (k : Int) < (n : Int) := by omega
        go_wp2
        go_quiet (fail)
        all_goals go_wp2
        all_goals first
          | (go_returns
             refine ⟨ret_bool ?_, bdN hb _⟩
             have hne : ¬ fl[k] = gl[k] := by simpa using ‹(fl[k] != gl[k]) = true›
             exact (decide_eq_false (fun e => hne (by simp [e]))).symm)
          | (go_roundw
             case rel =>
               have he : fl[k] = gl[k] := by simpa using ‹(fl[k] != gl[k]) = false›
               exact ⟨k + 1, by omega, by go_num, bdN hb _, by rw [List.take_succ_eq_append_getElem hlt', List.take_succ_eq_append_getElem hlt2, HI.out, he]⟩
             case measure => simp [intOf]; omega)
      · go_wp2
        go_returns
        refine ⟨ret_bool ?_, hb⟩
        have := HI.out
        rw [List.take_of_length_le (by rw [HN.out]; omega), List.take_of_length_le (by rw [HN'.out]; omega)] at this
        simp [this]
  · go_wp2
    go_returns
    refine ⟨ret_bool ?_, by go_grown⟩
    have : fl ≠ gl := fun e => hnn (by rw [← HN.out, ← HN'.out, e])
    simp [this]

/-- n marks from K on -/
def marksI (K : Int) (n : Nat) : List Int := (List.range n).map fun (i : Nat) => K + (i : Int)
theorem marksI_length (K : Int) (n : Nat) : (marksI K n).length = n := by simp [marksI]
theorem marksI_get (K : Int) (n i : Nat) (h : i < n) : (intC (marksI K n))[i]? = some (.int .i64 (K + i)) := by
  simp [intC, marksI, h]

set_option maxHeartbeats 400000 in
theorem markIntS_any (A : Option Addr) (n c B : Nat) (K : Int) (xs : List Value) (w : World) (hm : n ≤ 4194304) (h0 : 0 ≤ K) (hk : K ≤ 1099511627776) (hR : w.ownsRow B 3 1 (.slice A n c) n xs) :
    Calls Try.prog 29 #[.slice A n c, .int .i64 K] w fun e w' => e = .returned (.int .i64 (K + n)) ∧ w'.ownsRow B 3 1 (.slice A n c) n (intC (marksI K n)) ∧ w.grownBy w' (Value.ownBlock (.slice A n c)) := by
  have HR := hid_ hR; clear hR
  go_enter Try.func29, Try.ntmps29
  go_wp2
  go_loopw [1, 5] (fun q v wr => ∃ (j : Nat) (ys : List Value), j ≤ n ∧ v = .int .i64 j ∧ q = .int .i64 (K + j) ∧ wr.ownsRow B 3 1 (.slice A n c) n ys ∧ w.grownBy wr (Value.ownBlock (.slice A n c)) ∧ ∀ i, i < j → ys[i]? = (intC (marksI K n))[i]?) (fun _ v _ => n - (intOf v).toNat)
  case atStart => exact ⟨0, xs, Nat.zero_le _, rfl, by simp, HR.out, World.grownBy.refl _ _, fun i hi => absurd hi (by omega)⟩
  case round =>
    obtain ⟨j, ys, hj, rfl, rfl, ho, hg, hy⟩ := hrel
    have HO := hid_ ho; clear ho
    have HY := hid_ hy; clear hy
    have HG := hid_ hg; clear hg
    by_cases hlt : j < n
    · obtain ⟨g, rfl, hB, hgl, _, _⟩ := own_block HO.out (by omega)
      have hlen : ys.length = n := by simpa using HO.out.1
      have HL := hid_ hlen; clear hlen
      obtain ⟨v0, c0, f0⟩ := own_store HO.out j (by omega)
      go_wp2
      go_roundw
      case rel =>
        have hs := HO.out.stored j (.int .i64 (K + j))
        refine ⟨j + 1, _, by omega, by go_num, by go_num, hs.1, gb_trans HG.out hs.2, ?_⟩
        exact set1_get ys _ j _ (by rw [HL.out]; omega) HY.out (marksI_get K n j hlt)
      case measure => simp [intOf]; omega
    · go_wp2
      go_returns
      have e : ys = intC (marksI K n) := all_get _ _ n (by simpa using HO.out.1) (by simp [intC, marksI]) (fun i hi => HY.out i (by omega))
      refine ⟨ret_int (by omega), ?_, HG.out⟩
      rw [← e]; exact HO.out

set_option maxHeartbeats 400000 in
theorem heldIntS_any (A : Option Addr) (n c : Nat) (K : Int) (w : World) (hm : n ≤ 4194304) (h0 : 0 ≤ K) (hk : K ≤ 1099511627776) (hR : Rd w 1 A n (intC (marksI K n))) :
    Calls Try.prog 30 #[.slice A n c, .int .i64 K] w fun e w' => e = .returned (.int .i64 (K + n)) ∧ w = w' := by
  have HR := hid_ hR; clear hR
  go_enter Try.func30, Try.ntmps30
  go_wp2
  go_loop [1, 5] (fun q v => ∃ (j : Nat), j ≤ n ∧ v = .int .i64 j ∧ q = .int .i64 (K + j)) (fun _ v => n - (intOf v).toNat)
  case atStart => exact ⟨0, Nat.zero_le _, rfl, by simp⟩
  case round =>
    obtain ⟨j, hj, rfl, rfl⟩ := hrel
    by_cases hlt : j < n
    · obtain ⟨b, o, rfl, hc⟩ := HR.out.2 (by omega)
      have hcell := hc j _ (marksI_get K n j hlt)
      clear hc
      go_wp2
      go_round
      case rel => exact ⟨j + 1, by omega, by go_num, by go_num⟩
      case measure => simp [intOf]; omega
    · go_wp2
      go_returns
      exact ⟨ret_int (by omega), rfl⟩

set_option maxHeartbeats 400000 in
theorem toIntS_any (l : List Int) (A : Option Addr) (n c : Nat) (w : World) (hn : l.length = n) (hm : n ≤ 1048576) (hR : Rd w 1 A n (intC l)) :
    Calls Try.prog 26 #[.slice A n c] w (RSl w 3 1 n (intC l)) := by
  have HR := hid_ hR; clear hR
  have HN := hid_ hn; clear hn
  obtain ⟨i0, hi, hz0, hz1, hz2⟩ := info_parts int_info
  go_enter Try.func26, Try.ntmps26
  go_wp2_with (at_make; refine wpList_make_full _ rfl _ _ 40 rfl w.heap.size 3 i0 _ 1 Try.underlying40 hi hz0 hz1 .i64 .i64 _ _ n rfl rfl rfl rfl (by rw [hz2]; omega) (by simp only [maxLen]; omega) (Nat.le_refl _) ?_; intro w1 ho1 hg1)
  have HO1 := hid_ ho1; clear ho1
  have HG1 := hid_ hg1; clear hg1
  have hz := HG1.out.size
  clear hi hz0 hz1 hz2
  go_loopw [4] (fun v wr => ∃ (k : Nat) (xs : List Value), k ≤ n ∧ v = .int .i64 k ∧ wr.ownsRow w.heap.size 3 1 (.slice (some ⟨w.heap.size, 0, none⟩) n n) n xs ∧ Below w.heap.size w wr ∧ ∀ i, i < k → xs[i]? = (intC l)[i]?) (fun v _ => n - (intOf v).toNat)
  case atStart => exact ⟨0, _, Nat.zero_le _, rfl, HO1.out, below_of_gb HG1.out (Nat.le_refl _) (fun _ h => by cases h), fun i hi => absurd hi (by omega)⟩
  case round =>
    obtain ⟨k, xs, hk, rfl, ho, hb, hy⟩ := hrel
    have HO := hid_ ho; clear ho
    have HY := hid_ hy; clear hy
    by_cases hlt : k < n
    · have hlt' : k < l.length := by rw [HN.out]; exact hlt
      obtain ⟨b, o, rfl, h0⟩ := (HR.out.below hb).int k hlt HN.out
      have hgl := (own_base_lt HO.out).2
      have hlen : xs.length = n := by simpa using HO.out.1
      have HL := hid_ hlen; clear hlen
      obtain ⟨v0, c0, f0⟩ := own_store HO.out k (by omega)
      go_wp2
      go_roundw
      case rel =>
        have s1 := HO.out.stored k (.int .i64 l[k])
        refine ⟨k + 1, _, by omega, by go_num, s1.1, hb.setCell (by simp) _, ?_⟩
        exact set1_get xs (intC l) k _ (by rw [HL.out]; omega) HY.out (by simp [intC, hlt'])
      case measure => simp [intOf]; omega
    · go_wp2
      go_returns
      have e : xs = intC l := all_get _ _ n (by simpa using HO.out.1) (by rw [intC_length, HN.out]) (fun i hi => HY.out i (by omega))
      refine RSl.of_own ?_ hb
      rw [← e]; exact HO.out

/-- a row stays while a younger, or an older, one is written -/
theorem own_mark_older {w w' : World} {B E k n B' E' k' n' C : Nat} {v v' : Value} {xs xs' : List Value} (h : w.ownsRow B E k v n xs) (hl : ∀ g, v.ownBlock = some g → g < C) (h' : w.ownsRow B' E' k' v' n' xs') (hCB : C ≤ B') (hg : w.grownBy w' v'.ownBlock) : w'.ownsRow B E k v n xs := by
  refine h.kept hg ?_
  cases hv : v.ownBlock with
  | none => exact .inl rfl
  | some g =>
    refine .inr (fun e => ?_)
    have h1 := hl g hv
    have h2 := (h'.lt g e.symm).1
    omega
theorem own_mark_newer {w w' : World} {B E k n C' : Nat} {v v' : Value} {xs : List Value} (h : w.ownsRow B E k v n xs) (hl : ∀ g, v'.ownBlock = some g → g < C') (hCB : C' ≤ B) (hg : w.grownBy w' v'.ownBlock) : w'.ownsRow B E k v n xs := by
  refine h.kept hg ?_
  cases hv : v.ownBlock with
  | none => exact .inl rfl
  | some g =>
    refine .inr (fun e => ?_)
    have h1 := hl g e.symm
    have h2 := (h.lt g hv).1
    omega
theorem own_other {w w' : World} {B E k n B' E' k' n' : Nat} {v v' : Value} {xs xs' : List Value} (h : w.ownsRow B E k v n xs) (h' : w.ownsRow B' E' k' v' n' xs') (hne : E ≠ E') (hg : w.grownBy w' v'.ownBlock) : w'.ownsRow B E k v n xs := by
  refine h.kept hg ?_
  rcases h.2 with ⟨rfl, _⟩ | ⟨g, cap, cur, rfl, _, hh, _⟩
  · exact .inl rfl
  · refine .inr ?_
    rcases h'.2 with ⟨rfl, _⟩ | ⟨g', cap', cur', rfl, _, hh', _⟩
    · simp [Value.ownBlock]
    · intro he
      have : g = g' := by simpa [Value.ownBlock] using he
      subst this
      rw [hh] at hh'
      injection hh' with hh'
      injection hh' with _ ht
      exact hne ht
end Go.Proofs.Ytejnieoneknbbaa
