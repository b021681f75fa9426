/-
  Flights: copies, marks.
-/
import Derived.Test.YtfinefjihphnhaaFlA
import Derived.Test.YtfinefjihphnhaaInts
namespace Go.Proofs.Ytfinefjihphnhaa
open Go.ChangeShapes Go.WideShapes Go.ChangeAt Go.RowKit Go.BigFrame

theorem set3_get (xs ys : List Value) (m : Nat) (a b c : Value) (hx : m + 3 ≤ xs.length) (h : ∀ j, j < m → xs[j]? = ys[j]?) (h0 : ys[m]? = some a) (h1 : ys[m+1]? = some b) (h2 : ys[m+2]? = some c) :
    ∀ j, j < m + 3 → (((xs.set m a).set (m+1) b).set (m+2) c)[j]? = ys[j]? :=
  set1_get _ ys (m+2) c (by simp; omega) (set1_get _ ys (m+1) b (by simp; omega) (set1_get xs ys m a (by omega) h h0) h1) h2

theorem flC_get (l : List Fl) (i : Nat) (hi : i < l.length) : (flC l)[i * 3]? = some (.int .i64 l[i].tag) ∧ (flC l)[i * 3 + 1]? = some (.int .i64 l[i].since) ∧ (flC l)[i * 3 + 2]? = some (.int .i64 l[i].tries) := by
  have g := flat_get Fl.row 3 (fun _ => rfl) l i hi
  exact ⟨g 0 (by omega), g 1 (by omega), g 2 (by omega)⟩

theorem fl_info : (Try.prog.info? 35).map (fun i => (i.zero, i.size, i.bytes)) = some (some (.agg #[.int .i64 0, .int .i64 0, .int .i64 0]), 3, 24) := by kernel_rfl

set_option maxHeartbeats 400000 in
theorem toFlightS_any (fl : List Fl) (A : Option Addr) (n c : Nat) (w : World) (hn : fl.length = n) (hm : n ≤ 1048576) (hR : Rd w 3 A n (flC fl)) :
    Calls Try.prog 16 #[.slice A n c] w (RSl w 35 3 n (flC fl)) := by
  have HR := hid_ hR; clear hR
  have HN := hid_ hn; clear hn
  obtain ⟨i0, hi, hz0, hz1, hz2⟩ := info_parts fl_info
  go_enter Try.func16, Try.ntmps16
  go_wp2_with (at_make; refine wpList_make_full _ rfl _ _ 25 rfl w.heap.size 35 i0 _ 3 Try.underlying25 hi hz0 hz1 .i64 .i64 _ _ n rfl rfl rfl rfl (by rw [hz2]; omega) (by simp only [maxLen]; omega) (Nat.le_refl _) ?_; intro w1 ho1 hg1)
  have HO1 := hid_ ho1; clear ho1
  have HG1 := hid_ hg1; clear hg1
  have hz := HG1.out.size
  clear hi hz0 hz1 hz2
  go_loopw [4] (fun v wr => ∃ (k : Nat) (xs : List Value), k ≤ n ∧ v = .int .i64 k ∧ wr.ownsRow w.heap.size 35 3 (.slice (some ⟨w.heap.size, 0, none⟩) n n) n xs ∧ Below w.heap.size w wr ∧ ∀ i, i < k * 3 → xs[i]? = (flC fl)[i]?) (fun v _ => n - (intOf v).toNat)
  case atStart => exact ⟨0, _, Nat.zero_le _, rfl, HO1.out, below_of_gb HG1.out (Nat.le_refl _) (fun _ h => by cases h), fun i hi => absurd hi (by omega)⟩
  case round =>
    obtain ⟨k, xs, hk, rfl, ho, hb, hy⟩ := hrel
    have HO := hid_ ho; clear ho
    have HY := hid_ hy; clear hy
    by_cases hlt : k < n
    · have hlt' : k < fl.length := by rw [HN.out]; exact hlt
      obtain ⟨b, o, rfl, h0, h1, h2⟩ := (HR.out.below hb).fl k hlt HN.out
      go_wp2_with fail
      refine (toFlight_any _ _ _ _).mono ?_
      rintro e w2 ⟨rfl, hb2⟩
      have ho2 := own_below HO.out hb2
      have hgl := (own_base_lt ho2).2
      have hlen : xs.length = n * 3 := ho2.1
      have HL := hid_ hlen; clear hlen
      obtain ⟨v0, c0, f0⟩ := own_store ho2 (k * 3) (by omega)
      obtain ⟨v1, c1, f1⟩ := own_store ho2 (k * 3 + 1) (by omega)
      obtain ⟨v2, c2, f2⟩ := own_store ho2 (k * 3 + 2) (by omega)
      have HO2 := hid_ ho2; clear ho2
      clear h0 h1 h2
      go_wp2
      go_roundw
      case rel =>
        have s1 := HO2.out.stored (k * 3) (.int .i64 fl[k].tag)
        have s2 := s1.1.stored (k * 3 + 1) (.int .i64 fl[k].since)
        have s3 := s2.1.stored (k * 3 + 2) (.int .i64 fl[k].tries)
        obtain ⟨g0, g1, g2⟩ := flC_get fl k hlt'
        refine ⟨k + 1, _, by omega, by go_num, s3.1, ?_, ?_⟩
        · exact (((hb.trans (hb2.mono hb.size)).setCell (by simp) _).setCell (by simp) _).setCell (by simp) _
        · intro i hi
          exact set3_get xs (flC fl) (k * 3) _ _ _ (by rw [HL.out]; omega) HY.out g0 g1 g2 i (by omega)
      case measure => simp [intOf]; omega
    · go_wp2
      go_returns
      have e : xs = flC fl := all_get _ _ (n * 3) HO.out.1 (by rw [flC_length, HN.out]) (fun i hi => HY.out i (by omega))
      refine RSl.of_own ?_ hb
      rw [← e]; exact HO.out

def marksF (K : Int) (n : Nat) : List Fl := (List.range n).map fun (i : Nat) => ⟨K + (i : Int) * 3, K + (i : Int) * 3 + 1, K + (i : Int) * 3 + 1 + 1⟩
theorem marksF_length (K : Int) (n : Nat) : (marksF K n).length = n := by simp [marksF]
theorem marksF_get (K : Int) (n i : Nat) (h : i < n) : (flC (marksF K n))[i * 3]? = some (.int .i64 (K + i * 3)) ∧ (flC (marksF K n))[i * 3 + 1]? = some (.int .i64 (K + i * 3 + 1)) ∧ (flC (marksF K n))[i * 3 + 2]? = some (.int .i64 (K + i * 3 + 1 + 1)) := by
  have g := flC_get (marksF K n) i (by rw [marksF_length]; exact h)
  have e : (marksF K n)[i]'(by rw [marksF_length]; exact h) = ⟨K + (i : Int) * 3, K + (i : Int) * 3 + 1, K + (i : Int) * 3 + 1 + 1⟩ := by simp [marksF]
  rw [e] at g
  exact g

set_option maxHeartbeats 400000 in
theorem markFlightS_any (A : Option Addr) (n c B : Nat) (K : Int) (xs : List Value) (w : World) (hm : n ≤ 4194304) (h0 : 0 ≤ K) (hk : K ≤ 1099511627776) (hR : w.ownsRow B 35 3 (.slice A n c) n xs) :
    Calls Try.prog 26 #[.slice A n c, .int .i64 K] w fun e w' => e = .returned (.int .i64 (K + n * 3)) ∧ w'.ownsRow B 35 3 (.slice A n c) n (flC (marksF K n)) ∧ w.grownBy w' (Value.ownBlock (.slice A n c)) := by
  have HR := hid_ hR; clear hR
  go_enter Try.func26, Try.ntmps26
  go_wp2
  go_loopw [1, 5] (fun q v wr => ∃ (j : Nat) (ys : List Value), j ≤ n ∧ v = .int .i64 j ∧ q = .int .i64 (K + j * 3) ∧ wr.ownsRow B 35 3 (.slice A n c) n ys ∧ w.grownBy wr (Value.ownBlock (.slice A n c)) ∧ ∀ i, i < j * 3 → ys[i]? = (flC (marksF K n))[i]?) (fun _ v _ => n - (intOf v).toNat)
  case atStart => exact ⟨0, xs, Nat.zero_le _, rfl, by simp, HR.out, World.grownBy.refl _ _, fun i hi => absurd hi (by omega)⟩
  case round =>
    obtain ⟨j, ys, hj, rfl, rfl, ho, hg, hy⟩ := hrel
    have HO := hid_ ho; clear ho
    have HY := hid_ hy; clear hy
    have HG := hid_ hg; clear hg
    by_cases hlt : j < n
    · obtain ⟨g, rfl, hB, hgl, _, _⟩ := own_block HO.out (by omega)
      have hlen : ys.length = n * 3 := HO.out.1
      have HL := hid_ hlen; clear hlen
      obtain ⟨v0, c0, f0⟩ := own_store HO.out (j * 3) (by omega)
      obtain ⟨v1, c1, f1⟩ := own_store HO.out (j * 3 + 1) (by omega)
      obtain ⟨v2, c2, f2⟩ := own_store HO.out (j * 3 + 2) (by omega)
      go_wp2
      go_roundw
      case rel =>
        have s1 := HO.out.stored (j * 3) (.int .i64 (K + j * 3))
        have s2 := s1.1.stored (j * 3 + 1) (.int .i64 (K + j * 3 + 1))
        have s3 := s2.1.stored (j * 3 + 2) (.int .i64 (K + j * 3 + 1 + 1))
        obtain ⟨g0, g1, g2⟩ := marksF_get K n j hlt
        refine ⟨j + 1, _, by omega, by go_num, by go_num, s3.1, gb_trans HG.out (gb_trans s1.2 (gb_trans s2.2 s3.2)), ?_⟩
        intro i hi
        exact set3_get ys _ (j * 3) _ _ _ (by rw [HL.out]; omega) HY.out g0 g1 g2 i (by omega)
      case measure => simp [intOf]; omega
    · go_wp2
      go_returns
      have e : ys = flC (marksF K n) := all_get _ _ (n * 3) HO.out.1 (by rw [flC_length, marksF_length]) (fun i hi => HY.out i (by omega))
      refine ⟨ret_int (by omega), ?_, HG.out⟩
      rw [← e]; exact HO.out

set_option maxHeartbeats 400000 in
theorem heldFlightS_any (A : Option Addr) (n c : Nat) (K : Int) (w : World) (hm : n ≤ 4194304) (h0 : 0 ≤ K) (hk : K ≤ 1099511627776) (hR : Rd w 3 A n (flC (marksF K n))) :
    Calls Try.prog 34 #[.slice A n c, .int .i64 K] w fun e w' => e = .returned (.int .i64 (K + n * 3)) ∧ w = w' := by
  have HR := hid_ hR; clear hR
  go_enter Try.func34, Try.ntmps34
  go_wp2
  go_loop [1, 5] (fun q v => ∃ (j : Nat), j ≤ n ∧ v = .int .i64 j ∧ q = .int .i64 (K + j * 3)) (fun _ v => n - (intOf v).toNat)
  case atStart => exact ⟨0, Nat.zero_le _, rfl, by simp⟩
  case round =>
    obtain ⟨j, hj, rfl, rfl⟩ := hrel
    by_cases hlt : j < n
    · obtain ⟨b, o, rfl, hc⟩ := HR.out.2 (by omega)
      obtain ⟨g0, g1, g2⟩ := marksF_get K n j hlt
      have c0 := hc _ _ g0
      have c1 := hc _ _ g1
      have c2 := hc _ _ g2
      rw [← Nat.add_assoc] at c1 c2
      clear hc g0 g1 g2
      go_wp2
      go_round
      case rel => exact ⟨j + 1, by omega, by go_num, by go_num⟩
      case measure => simp [intOf]; omega
    · go_wp2
      go_returns
      exact ⟨ret_int (by omega), rfl⟩

theorem part3_0 (a b c : Int) (w : World) : (part 3 #[Value.int IntKind.i64 a, Value.int IntKind.i64 b, Value.int IntKind.i64 c] 0).run Try.prog w = .ok (.int .i64 a) w := by kernel_rfl
theorem part3_1 (a b c : Int) (w : World) : (part 3 #[Value.int IntKind.i64 a, Value.int IntKind.i64 b, Value.int IntKind.i64 c] 1).run Try.prog w = .ok (.int .i64 b) w := by kernel_rfl
theorem part3_2 (a b c : Int) (w : World) : (part 3 #[Value.int IntKind.i64 a, Value.int IntKind.i64 b, Value.int IntKind.i64 c] 2).run Try.prog w = .ok (.int .i64 c) w := by kernel_rfl
theorem eqi (a b : Int) (w : World) : (Op.equalIn 9999 3 (.int .i64 a) (.int .i64 b)).run Try.prog w = .ok (a == b) w := run_equalIn_int w 9998 3 .i64 .i64 a b Try.underlying3
theorem neq_fl (f g : Fl) (w : World) : (binOp .neq 35 (.agg #[.int .i64 f.tag, .int .i64 f.since, .int .i64 f.tries]) (.agg #[.int .i64 g.tag, .int .i64 g.since, .int .i64 g.tries])).run Try.prog w = .ok (.bool (!(decide (f = g)))) w := by
  obtain ⟨a, b, c⟩ := f
  obtain ⟨a', b', c'⟩ := g
  rw [run_neq_struct, run_equalIn_agg w 9999 35 _ _ (by kernel_rfl) (by kernel_rfl)]
  simp only [Program.fieldsOf, Try.underlying35]
  by_cases h1 : a = a' <;> by_cases h2 : b = b' <;> by_cases h3 : c = c' <;> simp [Op.eqFields, part3_0, part3_1, part3_2, eqi, h1, h2, h3]
theorem guard_fl (x y : Operand) (xs ys : Array Value) (w : World) : (eqGuard .neq 35 x y (.agg xs) (.agg ys)).run Try.prog w = .ok () w := run_eqGuard_agg w _ _ _ _ _ _ (by kernel_rfl)

set_option maxHeartbeats 400000 in
theorem sameFlights_any (fl gl : List Fl) (A A' : Option Addr) (n n' c c' : Nat) (w : World) (hn : fl.length = n) (hn' : gl.length = n') (hm : n ≤ maxLen) (hm' : n' ≤ maxLen) (hR : Rd w 3 A n (flC fl)) (hR' : Rd w 3 A' n' (flC gl)) :
    Calls Try.prog 36 #[.slice A n c, .slice A' n' c'] w fun e w' => e = .returned (.bool (decide (fl = gl))) ∧ Below w.heap.size w w' := by
  unfold maxLen at hm hm'
  have HR := hid_ hR; clear hR
  have HR' := hid_ hR'; clear hR'
  have HN := hid_ hn; clear hn
  have HN' := hid_ hn'; clear hn'
  go_enter Try.func36, Try.ntmps36
  by_cases hnn : n = n'
  · subst hnn
    go_wp2
    go_loopw [5] (fun v wr => ∃ k : Nat, k ≤ n ∧ v = .int .i64 k ∧ Below w.heap.size w wr ∧ fl.take k = gl.take k) (fun v _ => n - (intOf v).toNat)
    case atStart => exact ⟨0, Nat.zero_le _, rfl, Below.refl _ _, by simp⟩
    case round =>
      obtain ⟨k, hk, rfl, hb, hid⟩ := hrel
      have HI := hid_ hid; clear hid
      by_cases hlt : k < n
      · have hlt' : k < fl.length := by rw [HN.out]; exact hlt
        have hlt2 : k < gl.length := by rw [HN'.out]; exact hlt
        obtain ⟨b, o, rfl, h0, h1, h2⟩ := (HR.out.below hb).fl k hlt HN.out
        obtain ⟨b', o', rfl, h0', h1', h2'⟩ := (HR'.out.below hb).fl k hlt HN'.out
        have hlz : (k : Int) < (n : Int) := by omega
        have hq := fun (w : World) => neq_fl fl[k] gl[k] w
        have hgd := guard_fl
        go_wp2
        go_quiet (fail)
        all_goals go_wp2
        all_goals first
          | (go_returns
             refine ⟨ret_bool ?_, bdN hb _⟩
             have hne : ¬ fl[k] = gl[k] := by simpa using ‹(!decide (fl[k] = gl[k])) = true›
             exact (decide_eq_false (fun e => hne (by simp [e]))).symm)
          | (go_roundw
             case rel =>
               have he : fl[k] = gl[k] := by simpa using ‹(!decide (fl[k] = gl[k])) = false›
               exact ⟨k + 1, by omega, by go_num, bdN hb _, by rw [List.take_succ_eq_append_getElem hlt', List.take_succ_eq_append_getElem hlt2, HI.out, he]⟩
             case measure => simp [intOf]; omega)
      · go_wp2
        go_returns
        refine ⟨ret_bool ?_, hb⟩
        have := HI.out
        rw [List.take_of_length_le (by rw [HN.out]; omega), List.take_of_length_le (by rw [HN'.out]; omega)] at this
        simp [this]
  · go_wp2
    go_returns
    refine ⟨ret_bool ?_, by go_grown⟩
    have : fl ≠ gl := fun e => hnn (by rw [← HN.out, ← HN'.out, e])
    simp [this]
end Go.Proofs.Ytfinefjihphnhaa
