/-
  Lines: copies, marks.
-/
import Derived.Test.YtejnieoneknbbaaLnA
import Derived.Test.YtejnieoneknbbaaInts
namespace Go.Proofs.Ytejnieoneknbbaa
open Go.ChangeShapes Go.WideShapes Go.ChangeAt Go.RowKit Go.BigFrame

theorem set3_get (xs ys : List Value) (m : Nat) (a b c : Value) (hx : m + 3 ≤ xs.length) (h : ∀ j, j < m → xs[j]? = ys[j]?) (h0 : ys[m]? = some a) (h1 : ys[m+1]? = some b) (h2 : ys[m+2]? = some c) :
    ∀ j, j < m + 3 → (((xs.set m a).set (m+1) b).set (m+2) c)[j]? = ys[j]? :=
  set1_get _ ys (m+2) c (by simp; omega) (set1_get _ ys (m+1) b (by simp; omega) (set1_get xs ys m a (by omega) h h0) h1) h2

theorem lnC_get (l : List Ln) (i : Nat) (hi : i < l.length) : (lnC l)[i * 3]? = some (.int .i64 l[i].at_) ∧ (lnC l)[i * 3 + 1]? = some (.int .i64 l[i].value) ∧ (lnC l)[i * 3 + 2]? = some (.bool l[i].dirty) := by
  have g := flat_get Ln.row 3 (fun _ => rfl) l i hi
  exact ⟨g 0 (by omega), g 1 (by omega), g 2 (by omega)⟩

theorem ln_info : (Try.prog.info? 38).map (fun i => (i.zero, i.size, i.bytes)) = some (some (.agg #[.int .i64 0, .int .i64 0, .bool false]), 3, 24) := by kernel_rfl

set_option maxHeartbeats 400000 in
theorem toLineS_any (fl : List Ln) (A : Option Addr) (n c : Nat) (w : World) (hn : fl.length = n) (hm : n ≤ 1048576) (hR : Rd w 3 A n (lnC fl)) :
    Calls Try.prog 46 #[.slice A n c] w (RSl w 38 3 n (lnC fl)) := by
  have HR := hid_ hR; clear hR
  have HN := hid_ hn; clear hn
  obtain ⟨i0, hi, hz0, hz1, hz2⟩ := info_parts ln_info
  go_enter Try.func46, Try.ntmps46
  go_wp2_with (at_make; refine wpList_make_full _ rfl _ _ 27 rfl w.heap.size 38 i0 _ 3 Try.underlying27 hi hz0 hz1 .i64 .i64 _ _ n rfl rfl rfl rfl (by rw [hz2]; omega) (by simp only [maxLen]; omega) (Nat.le_refl _) ?_; intro w1 ho1 hg1)
  have HO1 := hid_ ho1; clear ho1
  have HG1 := hid_ hg1; clear hg1
  have hz := HG1.out.size
  clear hi hz0 hz1 hz2
  go_loopw [4] (fun v wr => ∃ (k : Nat) (xs : List Value), k ≤ n ∧ v = .int .i64 k ∧ wr.ownsRow w.heap.size 38 3 (.slice (some ⟨w.heap.size, 0, none⟩) n n) n xs ∧ Below w.heap.size w wr ∧ ∀ i, i < k * 3 → xs[i]? = (lnC fl)[i]?) (fun v _ => n - (intOf v).toNat)
  case atStart => exact ⟨0, _, Nat.zero_le _, rfl, HO1.out, below_of_gb HG1.out (Nat.le_refl _) (fun _ h => by cases h), fun i hi => absurd hi (by omega)⟩
  case round =>
    obtain ⟨k, xs, hk, rfl, ho, hb, hy⟩ := hrel
    have HO := hid_ ho; clear ho
    have HY := hid_ hy; clear hy
    by_cases hlt : k < n
    · have hlt' : k < fl.length := by rw [HN.out]; exact hlt
      obtain ⟨b, o, rfl, h0, h1, h2⟩ := (HR.out.below hb).ln k hlt HN.out
      go_wp2_with fail
      refine (toLine_any _ _ _ _).mono ?_
      rintro e w2 ⟨rfl, hb2⟩
      have ho2 := own_below HO.out hb2
      have hgl := (own_base_lt ho2).2
      have hlen : xs.length = n * 3 := ho2.1
      have HL := hid_ hlen; clear hlen
      obtain ⟨v0, c0, f0⟩ := own_store ho2 (k * 3) (by omega)
      obtain ⟨v1, c1, f1⟩ := own_store ho2 (k * 3 + 1) (by omega)
      obtain ⟨v2, c2, f2⟩ := own_store ho2 (k * 3 + 2) (by omega)
      have HO2 := hid_ ho2; clear ho2
      clear h0 h1 h2
      go_wp2
      go_roundw
      case rel =>
        have s1 := HO2.out.stored (k * 3) (.int .i64 fl[k].at_)
        have s2 := s1.1.stored (k * 3 + 1) (.int .i64 fl[k].value)
        have s3 := s2.1.stored (k * 3 + 2) (.bool fl[k].dirty)
        obtain ⟨g0, g1, g2⟩ := lnC_get fl k hlt'
        refine ⟨k + 1, _, by omega, by go_num, s3.1, ?_, ?_⟩
        · exact (((hb.trans (hb2.mono hb.size)).setCell (by simp) _).setCell (by simp) _).setCell (by simp) _
        · intro i hi
          exact set3_get xs (lnC fl) (k * 3) _ _ _ (by rw [HL.out]; omega) HY.out g0 g1 g2 i (by omega)
      case measure => simp [intOf]; omega
    · go_wp2
      go_returns
      have e : xs = lnC fl := all_get _ _ (n * 3) HO.out.1 (by rw [lnC_length, HN.out]) (fun i hi => HY.out i (by omega))
      refine RSl.of_own ?_ hb
      rw [← e]; exact HO.out

def marksLn (K : Int) (n : Nat) : List Ln := (List.range n).map fun (i : Nat) => ⟨K + (i : Int) * 3, K + (i : Int) * 3 + 1, (K + (i : Int) * 3 + 1 + 1) % 3 == 0⟩
theorem marksLn_length (K : Int) (n : Nat) : (marksLn K n).length = n := by simp [marksLn]
theorem marksLn_get (K : Int) (n i : Nat) (h : i < n) : (lnC (marksLn K n))[i * 3]? = some (.int .i64 (K + i * 3)) ∧ (lnC (marksLn K n))[i * 3 + 1]? = some (.int .i64 (K + i * 3 + 1)) ∧ (lnC (marksLn K n))[i * 3 + 2]? = some (.bool ((K + i * 3 + 1 + 1) % 3 == 0)) := by
  have g := lnC_get (marksLn K n) i (by rw [marksLn_length]; exact h)
  have e : (marksLn K n)[i]'(by rw [marksLn_length]; exact h) = ⟨K + (i : Int) * 3, K + (i : Int) * 3 + 1, (K + (i : Int) * 3 + 1 + 1) % 3 == 0⟩ := by simp [marksLn]
  rw [e] at g
  exact g

set_option maxHeartbeats 400000 in
theorem markLineS_any (A : Option Addr) (n c B : Nat) (K : Int) (xs : List Value) (w : World) (hm : n ≤ 4194304) (h0 : 0 ≤ K) (hk : K ≤ 1099511627776) (hR : w.ownsRow B 38 3 (.slice A n c) n xs) :
    Calls Try.prog 57 #[.slice A n c, .int .i64 K] w fun e w' => e = .returned (.int .i64 (K + n * 3)) ∧ w'.ownsRow B 38 3 (.slice A n c) n (lnC (marksLn K n)) ∧ w.grownBy w' (Value.ownBlock (.slice A n c)) := by
  have HR := hid_ hR; clear hR
  go_enter Try.func57, Try.ntmps57
  go_wp2
  go_loopw [1, 5] (fun q v wr => ∃ (j : Nat) (ys : List Value), j ≤ n ∧ v = .int .i64 j ∧ q = .int .i64 (K + j * 3) ∧ wr.ownsRow B 38 3 (.slice A n c) n ys ∧ w.grownBy wr (Value.ownBlock (.slice A n c)) ∧ ∀ i, i < j * 3 → ys[i]? = (lnC (marksLn K n))[i]?) (fun _ v _ => n - (intOf v).toNat)
  case atStart => exact ⟨0, xs, Nat.zero_le _, rfl, by simp, HR.out, World.grownBy.refl _ _, fun i hi => absurd hi (by omega)⟩
  case round =>
    obtain ⟨j, ys, hj, rfl, rfl, ho, hg, hy⟩ := hrel
    have HO := hid_ ho; clear ho
    have HY := hid_ hy; clear hy
    have HG := hid_ hg; clear hg
    by_cases hlt : j < n
    · obtain ⟨g, rfl, hB, hgl, _, _⟩ := own_block HO.out (by omega)
      have hlen : ys.length = n * 3 := HO.out.1
      have HL := hid_ hlen; clear hlen
      obtain ⟨v0, c0, f0⟩ := own_store HO.out (j * 3) (by omega)
      obtain ⟨v1, c1, f1⟩ := own_store HO.out (j * 3 + 1) (by omega)
      obtain ⟨v2, c2, f2⟩ := own_store HO.out (j * 3 + 2) (by omega)
      go_wp2
      go_roundw
      case rel =>
        have s1 := HO.out.stored (j * 3) (.int .i64 (K + j * 3))
        have s2 := s1.1.stored (j * 3 + 1) (.int .i64 (K + j * 3 + 1))
        have s3 := s2.1.stored (j * 3 + 2) (.bool ((K + j * 3 + 1 + 1) % 3 == 0))
        obtain ⟨g0, g1, g2⟩ := marksLn_get K n j hlt
        refine ⟨j + 1, _, by omega, by go_num, by go_num, s3.1, gb_trans HG.out (gb_trans s1.2 (gb_trans s2.2 s3.2)), ?_⟩
        intro i hi
        exact set3_get ys _ (j * 3) _ _ _ (by rw [HL.out]; omega) HY.out g0 g1 g2 i (by omega)
      case measure => simp [intOf]; omega
    · go_wp2
      go_returns
      have e : ys = lnC (marksLn K n) := all_get _ _ (n * 3) HO.out.1 (by rw [lnC_length, marksLn_length]) (fun i hi => HY.out i (by omega))
      refine ⟨ret_int (by omega), ?_, HG.out⟩
      rw [← e]; exact HO.out

set_option maxHeartbeats 400000 in
theorem heldLineS_any (A : Option Addr) (n c : Nat) (K : Int) (w : World) (hm : n ≤ 4194304) (h0 : 0 ≤ K) (hk : K ≤ 1099511627776) (hR : Rd w 3 A n (lnC (marksLn K n))) :
    Calls Try.prog 66 #[.slice A n c, .int .i64 K] w fun e w' => e = .returned (.int .i64 (K + n * 3)) ∧ w = w' := by
  have HR := hid_ hR; clear hR
  go_enter Try.func66, Try.ntmps66
  go_wp2
  go_loop [1, 5] (fun q v => ∃ (j : Nat), j ≤ n ∧ v = .int .i64 j ∧ q = .int .i64 (K + j * 3)) (fun _ v => n - (intOf v).toNat)
  case atStart => exact ⟨0, Nat.zero_le _, rfl, by simp⟩
  case round =>
    obtain ⟨j, hj, rfl, rfl⟩ := hrel
    by_cases hlt : j < n
    · obtain ⟨b, o, rfl, hc⟩ := HR.out.2 (by omega)
      obtain ⟨g0, g1, g2⟩ := marksLn_get K n j hlt
      have c0 := hc _ _ g0
      have c1 := hc _ _ g1
      have c2 := hc _ _ g2
      rw [← Nat.add_assoc] at c1 c2
      clear hc g0 g1 g2
      go_wp2
      go_round
      case rel => exact ⟨j + 1, by omega, by go_num, by go_num⟩
      case measure => simp [intOf]; omega
    · go_wp2
      go_returns
      exact ⟨ret_int (by omega), rfl⟩
theorem part3_0 (a b : Int) (c : Bool) (w : World) : (part 3 #[Value.int IntKind.i64 a, Value.int IntKind.i64 b, Value.bool c] 0).run Try.prog w = .ok (.int .i64 a) w := by kernel_rfl
theorem part3_1 (a b : Int) (c : Bool) (w : World) : (part 3 #[Value.int IntKind.i64 a, Value.int IntKind.i64 b, Value.bool c] 1).run Try.prog w = .ok (.int .i64 b) w := by kernel_rfl
theorem part3_2 (a b : Int) (c : Bool) (w : World) : (part 4 #[Value.int IntKind.i64 a, Value.int IntKind.i64 b, Value.bool c] 2).run Try.prog w = .ok (.bool c) w := by kernel_rfl
theorem eqi (a b : Int) (w : World) : (Op.equalIn 9999 3 (.int .i64 a) (.int .i64 b)).run Try.prog w = .ok (a == b) w := run_equalIn_int w 9998 3 .i64 .i64 a b Try.underlying3
theorem eqb (a b : Bool) (w : World) : (Op.equalIn 9999 4 (.bool a) (.bool b)).run Try.prog w = .ok (a == b) w := run_equalIn_bool w 9998 4 a b Try.underlying4
theorem neq_rq (f g : Ln) (w : World) : (binOp .neq 38 (.agg #[.int .i64 f.at_, .int .i64 f.value, .bool f.dirty]) (.agg #[.int .i64 g.at_, .int .i64 g.value, .bool g.dirty])).run Try.prog w = .ok (.bool (!(decide (f = g)))) w := by
  obtain ⟨a, b, c⟩ := f
  obtain ⟨a', b', c'⟩ := g
  rw [run_neq_struct, run_equalIn_agg w 9999 38 _ _ (by kernel_rfl) (by kernel_rfl)]
  simp only [Program.fieldsOf, Try.underlying38]
  by_cases h1 : a = a' <;> by_cases h2 : b = b' <;> by_cases h3 : c = c' <;> simp [Op.eqFields, part3_0, part3_1, part3_2, eqi, eqb, h1, h2, h3]
theorem guard_rq (x y : Operand) (xs ys : Array Value) (w : World) : (eqGuard .neq 38 x y (.agg xs) (.agg ys)).run Try.prog w = .ok () w := run_eqGuard_agg w _ _ _ _ _ _ (by kernel_rfl)

end Go.Proofs.Ytejnieoneknbbaa
