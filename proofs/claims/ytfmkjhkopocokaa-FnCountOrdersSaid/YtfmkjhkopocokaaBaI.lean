/-
  Barriers: the number of orders.
-/
import Derived.Test.YtfmkjhkopocokaaBaH
namespace Go.Proofs.Ytfmkjhkopocokaa
open Go.ChangeShapes Go.WideShapes Go.ChangeAt Go.RowKit Go.BigFrame

theorem prodG_take (gs : List (List Int)) (k : Nat) (h : k < gs.length) : prodG (gs.take (k + 1)) = prodG (gs.take k) * fact gs[k].length := by
  rw [List.take_succ_eq_append_getElem h, prodG_append, prodG_one]
theorem prodG_pos (gs : List (List Int)) : 1 ≤ prodG gs := by
  induction gs with
  | nil => exact Nat.le_refl _
  | cons g r ih => exact Nat.mul_pos (fact_pos _) ih
theorem prodG_take_le (gs : List (List Int)) (k : Nat) : prodG (gs.take k) ≤ prodG gs := by
  conv => rhs; rw [← List.take_append_drop k gs, prodG_append]
  exact Nat.le_mul_of_pos_right _ (prodG_pos _)
theorem prodG_bd (gs : List (List Int)) (k : Nat) (h : k < gs.length) (j : Nat) (hj : j ≤ gs[k].length) : prodG (gs.take k) * fact j ≤ prodG gs := by
  refine Nat.le_trans ?_ (prodG_take_le gs (k + 1))
  rw [prodG_take gs k h]
  exact Nat.mul_le_mul_left _ (fact_mono hj)
theorem prodG_grp_le (l : List It) (n : Nat) (hn : n ≤ 12) : prodG (grpN l n) ≤ 479001600 := by
  rw [prodG_grp]; exact Nat.le_trans (PN_le _ _) (fact12 hn)

set_option maxHeartbeats 2000000 in
theorem implCnt_any (l : List It) (A : Option Addr) (n c : Nat) (w : World) (hn : l.length = n) (hm : n ≤ 4194304) (hR : Rd w 2 A n (itC l)) :
    Calls Try.prog 15 #[.slice A n c] w fun e w' => e = .returned (.int .i64 (cntR l)) ∧ Below w.heap.size w w' := by
  have HR := hid_ hR; clear hR
  have HN := hid_ hn; clear hn
  by_cases hbig : (12 : Int) < (n : Int)
  · have HG := hid_ (cntR_no (l := l) (by rw [HN.out]; omega))
    go_enter Try.func15, Try.ntmps15
    go_wp2
    go_returns
    exact ⟨ret_int (by rw [HG.out]; rfl), Below.refl _ _⟩
  have hm12 : n ≤ 12 := by omega
  have HC := hid_ (show cntR l = prodG (grpN l n) by unfold cntR; rw [if_pos (by rw [HN.out]; omega), HN.out])
  have hgl := grpN_length l n
  have HGm := hid_ (grpN_mem l n)
  have hle := prodG_grp_le l n hm12
  obtain ⟨gs, hgs⟩ : ∃ gs, grpN l n = gs := ⟨_, rfl⟩
  have HG := hid_ hgs
  rw [hgs] at HC hgl HGm hle
  clear hgs
  go_enter Try.func15, Try.ntmps15
  go_wp2_with fail
  refine (implGrp_any l A n c _ HN.out hm12 HR.out).mono ?_
  rw [HG.out]
  rintro e w1 ⟨A1, c1, vs, rfl, -, -, ho, hb⟩
  have HRg := hid_ ho.rd; clear ho
  have HB := hid_ hb; clear hb
  go_wp2
  go_loop [3, 13] (fun v i => ∃ (k T : Nat), k ≤ gs.length ∧ i = .int .i64 k ∧ v = .int .i64 T ∧ Hid (T = prodG (gs.take k))) (fun _ i => gs.length - (intOf i).toNat)
  case atStart => exact ⟨0, 1, Nat.zero_le _, rfl, rfl, rfl⟩
  case round =>
    obtain ⟨k, T, hk, rfl, rfl, HT⟩ := hrel
    by_cases hlt : k < gs.length
    · obtain ⟨b, o, Aj, cj, rfl, hcell, hcj, hcmj, _⟩ := HRg.out.at k hlt
      have HCM := hid_ hcmj; clear hcmj
      have hgk := HGm.out gs[k] (List.getElem_mem hlt)
      obtain ⟨m, hm0⟩ : ∃ m, gs[k].length = m := ⟨_, rfl⟩
      have HM := hid_ hm0
      rw [hm0] at hcell hcj hgk
      clear hm0
      go_wp2
      go_loop [3, 19] (fun v i => ∃ (j T' : Nat), j ≤ m ∧ i = .int .i64 j ∧ v = .int .i64 T' ∧ Hid (T' = prodG (gs.take k) * fact j)) (fun _ i => m - (intOf i).toNat)
      case atStart => exact ⟨0, T, Nat.zero_le _, rfl, rfl, by show _ = _; rw [HT.out]; simp [fact]⟩
      case round =>
        obtain ⟨j, T', hj, rfl, rfl, HT'⟩ := hrel
        by_cases hlt2 : j < m
        · obtain ⟨V, hV⟩ : ∃ V, prodG (gs.take k) * fact (j + 1) = V := ⟨_, rfl⟩
          have hbd := prodG_bd gs k hlt (j + 1) (by rw [HM.out]; omega)
          rw [hV] at hbd
          have HV := hid_ hV.symm; clear hV
          have hmul : (T' : Int) * ((j : Int) + 1) = (V : Int) := by
            rw [HV.out, HT'.out]
            show _ = ((prodG (gs.take k) * (fact j * (j + 1)) : Nat) : Int)
            rw [← Nat.mul_assoc]
            simp
          go_wp2
          go_round
          case rel => exact ⟨j + 1, V, by omega, by go_num, by go_num, HV.out⟩
          case measure => exact meas_ hlt2
        · obtain rfl : j = m := by omega
          go_wp2
          go_round
          case rel => exact ⟨k + 1, T', by omega, by go_num, rfl, by show _ = _; rw [HT'.out, prodG_take gs k hlt, HM.out]⟩
          case measure => exact meas_ hlt
    · have hk' : gs.take k = gs := List.take_of_length_le (by omega)
      rw [hk'] at HT
      go_wp2
      go_returns
      exact ⟨ret_int (by rw [HC.out, HT.out]), HB.out⟩

set_option maxHeartbeats 2000000 in
theorem specCnt_any (l : List It) (A : Option Addr) (n c : Nat) (w : World) (hn : l.length = n) (hm : n ≤ 4194304) (hR : Rd w 2 A n (itC l)) :
    Calls Try.prog 13 #[.slice A n c] w fun e w' => e = .returned (.int .i64 (cntR l)) ∧ Below w.heap.size w w' := by
  have HR := hid_ hR; clear hR
  have HN := hid_ hn; clear hn
  by_cases hbig : (12 : Int) < (n : Int)
  · have HG := hid_ (cntR_no (l := l) (by rw [HN.out]; omega))
    go_enter Try.func13, Try.ntmps13
    go_wp2
    go_returns
    exact ⟨ret_int (by rw [HG.out]; rfl), Below.refl _ _⟩
  have hm12 : n ≤ 12 := by omega
  have HC := hid_ (show cntR l = prodG (grpN l n) by unfold cntR; rw [if_pos (by rw [HN.out]; omega), HN.out])
  have hgl := grpN_length l n
  have HGm := hid_ (grpN_mem l n)
  have hle := prodG_grp_le l n hm12
  have hgr : grpR l = grpN l n := by rw [grpR_ok (by rw [HN.out]; omega), HN.out]
  obtain ⟨gs, hgs⟩ : ∃ gs, grpN l n = gs := ⟨_, rfl⟩
  rw [hgs] at HC hgl HGm hle hgr
  have HG := hid_ hgr; clear hgr
  clear hgs
  go_enter Try.func13, Try.ntmps13
  go_wp2_with fail
  refine (specGrp_any l A n c _ HN.out hm HR.out).mono ?_
  rw [HG.out]
  rintro e w1 ⟨A1, c1, vs, rfl, -, -, ho, hb⟩
  have HRg := hid_ ho.rd; clear ho
  have HB := hid_ hb; clear hb
  go_wp2
  go_loop [3, 5] (fun v i => ∃ (k T : Nat), k ≤ gs.length ∧ i = .int .i64 k ∧ v = .int .i64 T ∧ Hid (T = prodG (gs.take k))) (fun _ i => gs.length - (intOf i).toNat)
  case atStart => exact ⟨0, 1, Nat.zero_le _, rfl, rfl, rfl⟩
  case round =>
    obtain ⟨k, T, hk, rfl, rfl, HT⟩ := hrel
    by_cases hlt : k < gs.length
    · obtain ⟨b, o, Aj, cj, rfl, hcell, hcj, hcmj, _⟩ := HRg.out.at k hlt
      have HCM := hid_ hcmj; clear hcmj
      have hgk := HGm.out gs[k] (List.getElem_mem hlt)
      obtain ⟨m, hm0⟩ : ∃ m, gs[k].length = m := ⟨_, rfl⟩
      have HM := hid_ hm0
      rw [hm0] at hcell hcj hgk
      clear hm0
      go_wp2
      go_loop [3, 6] (fun v i => ∃ (q T' : Nat), (q + 1 ≤ m ∨ q = 0) ∧ q ≤ 12 ∧ i = .int .i64 ((q : Int) + 2) ∧ v = .int .i64 T' ∧ Hid (T' = prodG (gs.take k) * fact (q + 1))) (fun _ i => m + 2 - (intOf i).toNat)
      case atStart => exact ⟨0, T, .inr rfl, by omega, rfl, rfl, by show _ = _; rw [HT.out]; simp [fact]⟩
      case round =>
        obtain ⟨q, T', hq, hq12, rfl, rfl, HT'⟩ := hrel
        by_cases hlt2 : q + 2 ≤ m
        · obtain ⟨V, hV⟩ : ∃ V, prodG (gs.take k) * fact (q + 2) = V := ⟨_, rfl⟩
          have hbd := prodG_bd gs k hlt (q + 2) (by rw [HM.out]; omega)
          rw [hV] at hbd
          have HV := hid_ hV.symm; clear hV
          have hmul : (T' : Int) * ((q : Int) + 2) = (V : Int) := by
            rw [HV.out, HT'.out]
            show _ = ((prodG (gs.take k) * (fact (q + 1) * (q + 1 + 1)) : Nat) : Int)
            rw [← Nat.mul_assoc, Int.natCast_mul]
            rfl
          have hltz : (q : Int) + 2 ≤ (m : Int) := by omega
          clear hq
          go_wp2
          go_round
          case rel => exact ⟨q + 1, V, .inl (by omega), by omega, by go_num, by go_num, HV.out⟩
          case measure => simp only [intOf]; omega
        · have hltz : ¬ ((q : Int) + 2 ≤ (m : Int)) := by omega
          have HQ := hid_ hq; clear hq
          go_wp2
          go_round
          case rel =>
            refine ⟨k + 1, T', by omega, by go_num, rfl, ?_⟩
            show _ = _
            rw [HT'.out, prodG_take gs k hlt, HM.out]
            rcases HQ.out with h | h
            · rw [show q + 1 = m by omega]
            · subst h
              have : m = 0 ∨ m = 1 := by omega
              rcases this with rfl | rfl <;> rfl
          case measure => exact meas_ hlt
    · have hk' : gs.take k = gs := List.take_of_length_le (by omega)
      rw [hk'] at HT
      go_wp2
      go_returns
      exact ⟨ret_int (by rw [HC.out, HT.out]), HB.out⟩
end Go.Proofs.Ytfmkjhkopocokaa
