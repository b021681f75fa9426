/-
  Items: copies, marks.
-/
import Derived.Test.YtfmkjhkopocokaaItA
import Derived.Test.YtfmkjhkopocokaaInts
namespace Go.Proofs.Ytfmkjhkopocokaa
open Go.ChangeShapes Go.WideShapes Go.ChangeAt Go.RowKit Go.BigFrame

theorem set2_get (xs ys : List Value) (m : Nat) (a b : Value) (hx : m + 2 ≤ xs.length) (h : ∀ j, j < m → xs[j]? = ys[j]?) (h0 : ys[m]? = some a) (h1 : ys[m+1]? = some b) :
    ∀ j, j < m + 2 → ((xs.set m a).set (m+1) b)[j]? = ys[j]? :=
  set1_get _ ys (m+1) b (by simp; omega) (set1_get xs ys m a (by omega) h h0) h1
theorem itC_get (l : List It) (i : Nat) (hi : i < l.length) : (itC l)[i * 2]? = some (.int .i64 l[i].number) ∧ (itC l)[i * 2 + 1]? = some (.bool l[i].barrier) := by
  have g := flat_get It.row 2 (fun _ => rfl) l i hi
  exact ⟨g 0 (by omega), g 1 (by omega)⟩

theorem it_info : (Try.prog.info? 33).map (fun i => (i.zero, i.size, i.bytes)) = some (some (.agg #[.int .i64 0, .bool false]), 2, 16) := by kernel_rfl

set_option maxHeartbeats 400000 in
theorem toItemS_any (fl : List It) (A : Option Addr) (n c : Nat) (w : World) (hn : fl.length = n) (hm : n ≤ 1048576) (hR : Rd w 2 A n (itC fl)) :
    Calls Try.prog 14 #[.slice A n c] w (RSl w 33 2 n (itC fl)) := by
  have HR := hid_ hR; clear hR
  have HN := hid_ hn; clear hn
  obtain ⟨i0, hi, hz0, hz1, hz2⟩ := info_parts it_info
  go_enter Try.func14, Try.ntmps14
  go_wp2_with (at_make; refine wpList_make_full _ rfl _ _ 25 rfl w.heap.size 33 i0 _ 2 Try.underlying25 hi hz0 hz1 .i64 .i64 _ _ n rfl rfl rfl rfl (by rw [hz2]; omega) (by simp only [maxLen]; omega) (Nat.le_refl _) ?_; intro w1 ho1 hg1)
  have HO1 := hid_ ho1; clear ho1
  have HG1 := hid_ hg1; clear hg1
  have hz := HG1.out.size
  clear hi hz0 hz1 hz2
  go_loopw [4] (fun v wr => ∃ (k : Nat) (xs : List Value), k ≤ n ∧ v = .int .i64 k ∧ wr.ownsRow w.heap.size 33 2 (.slice (some ⟨w.heap.size, 0, none⟩) n n) n xs ∧ Below w.heap.size w wr ∧ ∀ i, i < k * 2 → xs[i]? = (itC fl)[i]?) (fun v _ => n - (intOf v).toNat)
  case atStart => exact ⟨0, _, Nat.zero_le _, rfl, HO1.out, below_of_gb HG1.out (Nat.le_refl _) (fun _ h => by cases h), fun i hi => absurd hi (by omega)⟩
  case round =>
    obtain ⟨k, xs, hk, rfl, ho, hb, hy⟩ := hrel
    have HO := hid_ ho; clear ho
    have HY := hid_ hy; clear hy
    by_cases hlt : k < n
    · have hlt' : k < fl.length := by rw [HN.out]; exact hlt
      obtain ⟨b, o, rfl, h0, h1⟩ := (HR.out.below hb).it k hlt HN.out
      go_wp2_with fail
      refine (toItem_any _ _ _).mono ?_
      rintro e w2 ⟨rfl, hb2⟩
      have ho2 := own_below HO.out hb2
      have hgl := (own_base_lt ho2).2
      have hlen : xs.length = n * 2 := ho2.1
      have HL := hid_ hlen; clear hlen
      obtain ⟨v0, c0, f0⟩ := own_store ho2 (k * 2) (by omega)
      obtain ⟨v1, c1, f1⟩ := own_store ho2 (k * 2 + 1) (by omega)
      have HO2 := hid_ ho2; clear ho2
      clear h0 h1
      go_wp2
      go_roundw
      case rel =>
        have s1 := HO2.out.stored (k * 2) (.int .i64 fl[k].number)
        have s2 := s1.1.stored (k * 2 + 1) (.bool fl[k].barrier)
        obtain ⟨g0, g1⟩ := itC_get fl k hlt'
        refine ⟨k + 1, _, by omega, by go_num, s2.1, ?_, ?_⟩
        · exact ((hb.trans (hb2.mono hb.size)).setCell (by simp) _).setCell (by simp) _
        · intro i hi
          exact set2_get xs (itC fl) (k * 2) _ _ (by rw [HL.out]; omega) HY.out g0 g1 i (by omega)
      case measure => simp [intOf]; omega
    · go_wp2
      go_returns
      have e : xs = itC fl := all_get _ _ (n * 2) HO.out.1 (by rw [itC_length, HN.out]) (fun i hi => HY.out i (by omega))
      refine RSl.of_own ?_ hb
      rw [← e]; exact HO.out

def marksIt (K : Int) (n : Nat) : List It := (List.range n).map fun (i : Nat) => ⟨K + (i : Int) * 2, (K + (i : Int) * 2 + 1) % 3 == 0⟩
theorem marksIt_length (K : Int) (n : Nat) : (marksIt K n).length = n := by simp [marksIt]
theorem marksIt_get (K : Int) (n i : Nat) (h : i < n) : (itC (marksIt K n))[i * 2]? = some (.int .i64 (K + i * 2)) ∧ (itC (marksIt K n))[i * 2 + 1]? = some (.bool ((K + i * 2 + 1) % 3 == 0)) := by
  have g := itC_get (marksIt K n) i (by rw [marksIt_length]; exact h)
  have e : (marksIt K n)[i]'(by rw [marksIt_length]; exact h) = ⟨K + (i : Int) * 2, (K + (i : Int) * 2 + 1) % 3 == 0⟩ := by simp [marksIt]
  rw [e] at g
  exact g

set_option maxHeartbeats 400000 in
theorem markItemS_any (A : Option Addr) (n c B : Nat) (K : Int) (xs : List Value) (w : World) (hm : n ≤ 4194304) (h0 : 0 ≤ K) (hk : K ≤ 1099511627776) (hR : w.ownsRow B 33 2 (.slice A n c) n xs) :
    Calls Try.prog 24 #[.slice A n c, .int .i64 K] w fun e w' => e = .returned (.int .i64 (K + n * 2)) ∧ w'.ownsRow B 33 2 (.slice A n c) n (itC (marksIt K n)) ∧ w.grownBy w' (Value.ownBlock (.slice A n c)) := by
  have HR := hid_ hR; clear hR
  go_enter Try.func24, Try.ntmps24
  go_wp2
  go_loopw [1, 5] (fun q v wr => ∃ (j : Nat) (ys : List Value), j ≤ n ∧ v = .int .i64 j ∧ q = .int .i64 (K + j * 2) ∧ wr.ownsRow B 33 2 (.slice A n c) n ys ∧ w.grownBy wr (Value.ownBlock (.slice A n c)) ∧ ∀ i, i < j * 2 → ys[i]? = (itC (marksIt K n))[i]?) (fun _ v _ => n - (intOf v).toNat)
  case atStart => exact ⟨0, xs, Nat.zero_le _, rfl, by simp, HR.out, World.grownBy.refl _ _, fun i hi => absurd hi (by omega)⟩
  case round =>
    obtain ⟨j, ys, hj, rfl, rfl, ho, hg, hy⟩ := hrel
    have HO := hid_ ho; clear ho
    have HY := hid_ hy; clear hy
    have HG := hid_ hg; clear hg
    by_cases hlt : j < n
    · obtain ⟨g, rfl, hB, hgl, _, _⟩ := own_block HO.out (by omega)
      have hlen : ys.length = n * 2 := HO.out.1
      have HL := hid_ hlen; clear hlen
      obtain ⟨v0, c0, f0⟩ := own_store HO.out (j * 2) (by omega)
      obtain ⟨v1, c1, f1⟩ := own_store HO.out (j * 2 + 1) (by omega)
      go_wp2
      go_roundw
      case rel =>
        have s1 := HO.out.stored (j * 2) (.int .i64 (K + j * 2))
        have s2 := s1.1.stored (j * 2 + 1) (.bool ((K + j * 2 + 1) % 3 == 0))
        obtain ⟨g0, g1⟩ := marksIt_get K n j hlt
        refine ⟨j + 1, _, by omega, by go_num, by go_num, s2.1, gb_trans HG.out (gb_trans s1.2 s2.2), ?_⟩
        intro i hi
        exact set2_get ys _ (j * 2) _ _ (by rw [HL.out]; omega) HY.out g0 g1 i (by omega)
      case measure => simp [intOf]; omega
    · go_wp2
      go_returns
      have e : ys = itC (marksIt K n) := all_get _ _ (n * 2) HO.out.1 (by rw [itC_length, marksIt_length]) (fun i hi => HY.out i (by omega))
      refine ⟨ret_int (by omega), ?_, HG.out⟩
      rw [← e]; exact HO.out
end Go.Proofs.Ytfmkjhkopocokaa
