/-
  Signals: the times of the reports, the longest wait.
-/
import Derived.Test.YtjgpmihkmobcoaaSgB
namespace Go.Proofs.Ytjgpmihkmobcoaa
open Go.ChangeShapes Go.WideShapes Go.ChangeAt Go.RowKit Go.BigFrame

theorem repT_full (l : List Int) (g wt : Int) (k M : Nat) (hM : M = cntS g wt (l.drop k)) (hk : k < l.length) (hg : (M : Int) = g) (h1 : 1 ≤ M) (hx : k + M - 1 < l.length) : repT g wt (l.drop k) = l[k + M - 1] := by
  unfold repT
  rw [← hM, if_pos (by omega), List.getD_eq_getElem?_getD, List.getElem?_drop, show k + (M - 1) = k + M - 1 by omega, List.getElem?_eq_getElem hx]
  rfl
theorem repT_part (l : List Int) (g wt : Int) (k M : Nat) (hM : M = cntS g wt (l.drop k)) (hk : k < l.length) (hg : ¬ (M : Int) = g) (hg0 : 0 ≤ g) : repT g wt (l.drop k) = l[k] + wt := by
  unfold repT
  rw [← hM, if_neg (by omega), drop_head l k hk]
theorem sigP_at (l : List Int) (g wt : Int) (k M : Nat) (hM : M = cntS g wt (l.drop k)) (hk : k < l.length) (hg : 1 ≤ g) (hw : 0 ≤ wt) : sigP g wt (l.drop k) = (repT g wt (l.drop k), l[k]) :: sigP g wt (l.drop (k + M)) := by
  rw [sigP_step g wt _ hg hw (drop_ne l k hk), ← hM, List.drop_drop, drop_head l k hk]
theorem cntS_facts (l : List Int) (g wt : Int) (k M : Nat) (hM : M = cntS g wt (l.drop k)) (hk : k < l.length) (hg : 1 ≤ g) (hw : 0 ≤ wt) : 1 ≤ M ∧ (M : Int) ≤ g ∧ k + M ≤ l.length := by
  have h1 := cntS_pos g wt _ hg hw (drop_ne l k hk)
  have h2 := cnt_le g.toNat ((l.drop k).headD 0 + wt) (l.drop k)
  rw [List.length_drop] at h2
  unfold cntS at hM h1
  omega
theorem most_ge (ps : List (Int × Int)) (m : Int) : m ≤ most m ps := by
  unfold most
  induction ps generalizing m with
  | nil => exact Int.le_refl _
  | cons p r ih => exact Int.le_trans (by omega) (ih (max m (p.1 - p.2)))

set_option maxHeartbeats 1000000 in
theorem specST_any (l : List Int) (A : Option Addr) (n c : Nat) (g wt : Int) (w : World) (hn : l.length = n) (hm : n ≤ 1048576) (hR : Rd w 1 A n (intC l)) :
    Calls Try.prog 18 #[.slice A n c, .int .i64 g, .int .i64 wt] w (RSl w 3 1 (sgR l g wt).length (intC (sgR l g wt))) := by
  have HR := hid_ hR; clear hR
  have HN := hid_ hn; clear hn
  cases hok : sgOk l g wt
  · have hR0 := hid_ (show sgR l g wt = [] by unfold sgR; rw [hok]; rfl)
    rcases sgOk_not hok with q0 | ⟨q0, q1⟩ | ⟨q0, q1, q2⟩
    all_goals
      clear hok
      go_enter Try.func18, Try.ntmps18
      go_wp2_with (first | (go_at_call 10; refine (specTV_any l A n c _ HN.out (by omega) (HR.out.alloc _)).mono ?_; rintro e w1 ⟨rfl, hb1⟩) | (go_at_call 25; refine (l1In_any _ _ _ _).mono ?_; rintro e w2 ⟨rfl, rfl⟩))
      go_returns
      exact RSl.of_own' (own_below (own_empty w 3 1) hb1) (((Below.refl _ _).alloc (Nat.le_refl _) _).trans (hb1.mono (by simp))) (by rw [hR0.out]; rfl) (by rw [hR0.out]; rfl)
  · have hR0 := hid_ (show sgR l g wt = (sigP g wt l).map Prod.fst by unfold sgR; rw [hok]; rfl)
    obtain ⟨q0, q1, q2⟩ := sgOk_parts hok
    clear hok
    have b1 := inB_iff.1 q1
    have b2 := inB_iff.1 q2
    have HB := hid_ (tvB_bd q0).1
    go_enter Try.func18, Try.ntmps18
    go_wp2_with (first | (go_at_call 10; refine (specTV_any l A n c _ HN.out (by omega) (HR.out.alloc _)).mono ?_; rintro e w1 ⟨rfl, hb1⟩) | (go_at_call 25; refine (l1In_any _ _ _ _).mono ?_; rintro e w2 ⟨rfl, rfl⟩))
    clear q0 q1 q2
    have hz := hb1.size
    simp only [World.size_alloc] at hz
    go_loopw [7, 8] (fun v i wr => ∃ (k : Nat) (out : List Int), k ≤ n ∧ out.length ≤ k ∧ i = .int .i64 k ∧ wr.ownsRow w.heap.size 3 1 v out.length (intC out) ∧ Below w.heap.size w wr ∧ out ++ (sigP g wt (l.drop k)).map Prod.fst = (sigP g wt l).map Prod.fst) (fun _ i _ => n - (intOf i).toNat)
    case atStart =>
      refine ⟨0, [], Nat.zero_le _, Nat.le_refl _, rfl, ?_, ((Below.refl _ _).alloc (Nat.le_refl _) _).trans (hb1.mono (by simp)), by simp⟩
      exact own_below (own_empty w 3 1) hb1
    case round =>
      obtain ⟨k, out, hk, hok, rfl, ho, hb, hs⟩ := hrel
      have HO := hid_ ho; clear ho
      have HS := hid_ hs; clear hs
      by_cases hlt : k < n
      · have hlt' : k < l.length := by rw [HN.out]; exact hlt
        obtain ⟨M, hM⟩ : ∃ M, M = cntS g wt (l.drop k) := ⟨_, rfl⟩
        obtain ⟨m1, m2, m3⟩ := cntS_facts l g wt k M hM hlt' b1.1 b2.1
        have hST := hid_ (sigP_at l g wt k M hM hlt' b1.1 b2.1)
        have bk := HB.out k hlt'
        have hx : k + M - 1 < l.length := by omega
        have bx := HB.out (k + M - 1) hx
        have hT1 := hid_ (fun h => repT_full l g wt k M hM hlt' h m1 hx)
        have hT2 := hid_ (fun h => repT_part l g wt k M hM hlt' h (by omega))
        have HM := hid_ hM; clear hM
        rw [HN.out] at m3
        go_wp2_with fail
        refine (group_any l A n c k g wt _ HN.out (by omega) hlt b1 b2 HB.out (HR.out.below hb)).mono ?_
        rw [← HM.out]
        rintro e w3 ⟨rfl, hb3⟩
        have hs3 := hb3.size
        have hbw := hb.size
        have ho3 := own_below HO.out hb3
        have HO3 := hid_ ho3; clear ho3
        have hbb := hb.trans (hb3.mono hb.size)
        obtain ⟨b, o, rfl, h0⟩ := (HR.out.below hbb).int k hlt HN.out
        obtain ⟨b', o', e', h1⟩ := (HR.out.below hbb).int (k + M - 1) (by omega) HN.out
        injection e' with e1
        injection e1 with e2 e3
        subst e2; subst e3
        have hi : ((k : Int) + (M : Int) - 1).toNat = k + M - 1 := by omega
        by_cases hg : (M : Int) = g
        · have hg' : ((M : Int) == g) = true := by simp [hg]
          have HG := hid_ hg; clear hg
          go_wp2_with (at_builtin; refine wpList_push _ rfl _ _ 22 rfl w.heap.size 3 (.int .i64 0) 1 8 Try.underlying22 int_info rfl (by decide) (by decide) _ _ rfl rfl _ _ _ HO3.out rfl _ rfl (by simp) (by omega) (by omega) ?_; intro v' w' ho' hg')
          go_roundw
          case rel =>
            refine ⟨k + M, out ++ [l[k + M - 1]], by omega, by simp; omega, by go_num, own_eq ho' (by simp) (by rw [intC_append]; rfl), below_push hbb HO3.out hg' (by omega), ?_⟩
            rw [← HS.out, hST.out, hT1.out HG.out]; simp
          case measure => simp [intOf] <;> omega
        · have hg' : ((M : Int) == g) = false := by simp [hg]
          go_wp2_with (at_builtin; refine wpList_push _ rfl _ _ 22 rfl w.heap.size 3 (.int .i64 0) 1 8 Try.underlying22 int_info rfl (by decide) (by decide) _ _ rfl rfl _ _ _ HO3.out rfl _ rfl (by simp) (by omega) (by omega) ?_; intro v' w' ho' hg')
          go_roundw
          case rel =>
            refine ⟨k + M, out ++ [l[k] + wt], by omega, by simp; omega, by go_num, own_eq ho' (by simp) (by rw [intC_append]; rfl), below_push hbb HO3.out hg' (by omega), ?_⟩
            rw [← HS.out, hST.out, hT2.out hg]; simp
          case measure => simp [intOf] <;> omega
      · go_wp2
        go_returns
        have hk' : l.drop k = [] := List.drop_eq_nil_of_le (by rw [HN.out]; omega)
        have hS := HS.out
        rw [hk', sigP_nil, List.map_nil, List.append_nil] at hS
        exact RSl.of_own' HO.out hb (by rw [hR0.out, hS]) (by rw [hR0.out, hS])

set_option maxHeartbeats 1000000 in
theorem implST_any (l : List Int) (A : Option Addr) (n c : Nat) (g wt : Int) (w : World) (hn : l.length = n) (hm : n ≤ 1048576) (hc : n ≤ c) (hcm : c ≤ maxLen) (hR : Rd w 1 A n (intC l)) :
    Calls Try.prog 19 #[.slice A n c, .int .i64 g, .int .i64 wt] w (RSl w 3 1 (sgR l g wt).length (intC (sgR l g wt))) := by
  have HR := hid_ hR; clear hR
  have HN := hid_ hn; clear hn
  have HC := hid_ hcm; clear hcm
  cases hok : sgOk l g wt
  · have hR0 := hid_ (show sgR l g wt = [] by unfold sgR; rw [hok]; rfl)
    go_enter Try.func19, Try.ntmps19
    go_wp2_with (go_at_call 32; refine (are_any l A n c g wt _ HN.out (by omega) hc HC.out HR.out).mono ?_; rintro e w1 ⟨rfl, hb1⟩)
    go_returns
    exact RSl.of_own' (World.ownsRow_nil _ _ _ _) hb1 (by rw [hR0.out]; rfl) (by rw [hR0.out]; rfl)
  · have hR0 := hid_ (show sgR l g wt = (sigP g wt l).map Prod.fst by unfold sgR; rw [hok]; rfl)
    obtain ⟨q0, q1, q2⟩ := sgOk_parts hok
    have b1 := inB_iff.1 q1
    have b2 := inB_iff.1 q2
    have HB := hid_ (tvB_bd q0).1
    clear q0 q1 q2
    go_enter Try.func19, Try.ntmps19
    go_wp2_with (go_at_call 32; refine (are_any l A n c g wt _ HN.out (by omega) hc HC.out HR.out).mono ?_; rintro e w1 ⟨rfl, hb1⟩)
    clear hok
    go_loopw [7, 8] (fun v i wr => ∃ (k : Nat) (out : List Int), k ≤ n ∧ out.length ≤ k ∧ i = .int .i64 k ∧ wr.ownsRow w.heap.size 3 1 v out.length (intC out) ∧ Below w.heap.size w wr ∧ out ++ (sigP g wt (l.drop k)).map Prod.fst = (sigP g wt l).map Prod.fst) (fun _ i _ => n - (intOf i).toNat)
    case atStart => exact ⟨0, [], Nat.zero_le _, Nat.le_refl _, rfl, World.ownsRow_nil _ _ _ _, hb1, by simp⟩
    case round =>
      obtain ⟨k, out, hk, hok, rfl, ho, hb, hs⟩ := hrel
      have HO := hid_ ho; clear ho
      have HS := hid_ hs; clear hs
      by_cases hlt : k < n
      · have hlt' : k < l.length := by rw [HN.out]; exact hlt
        obtain ⟨M, hM⟩ : ∃ M, M = cntS g wt (l.drop k) := ⟨_, rfl⟩
        obtain ⟨T, hT⟩ : ∃ T, T = repT g wt (l.drop k) := ⟨_, rfl⟩
        obtain ⟨m1, m2, m3⟩ := cntS_facts l g wt k M hM hlt' b1.1 b2.1
        have hST := hid_ (sigP_at l g wt k M hM hlt' b1.1 b2.1)
        have HM := hid_ hM; clear hM
        have HT := hid_ hT; clear hT
        rw [HN.out] at m3
        have hkc : (k : Int) ≤ (c : Int) := by omega
        go_wp2_with fail
        have hRd := (HR.out.below hb).drop (show k ≤ n by omega) hc
        rw [show (intC l).drop (k * 1) = intC (l.drop k) by simp [intC, List.map_drop], Nat.mul_one, if_neg (show ¬ c = k by omega)] at hRd
        refine (signalAt_any (l.drop k) _ (n - k) (c - k) g wt _ (by rw [List.length_drop, HN.out]) (by omega) (by omega) b1 b2 (fun i hi => by rw [List.getElem_drop]; exact HB.out _ _) hRd).mono ?_
        rw [← HM.out, ← HT.out]
        rintro e w3 ⟨rfl, hb3⟩
        have hs3 := hb3.size
        have hbw := hb.size
        have ho3 := own_below HO.out hb3
        have HO3 := hid_ ho3; clear ho3
        have hbb := hb.trans (hb3.mono hb.size)
        clear hRd
        go_wp2_with (at_builtin; refine wpList_push _ rfl _ _ 22 rfl w.heap.size 3 (.int .i64 0) 1 8 Try.underlying22 int_info rfl (by decide) (by decide) _ _ rfl rfl _ _ _ HO3.out rfl _ rfl (by simp) (by omega) (by omega) ?_; intro v' w' ho' hg')
        go_roundw
        case rel =>
          refine ⟨k + M, out ++ [T], by omega, by simp; omega, by go_num, own_eq ho' (by simp) (by rw [intC_append]; rfl), below_push hbb HO3.out hg' (by omega), ?_⟩
          rw [← HS.out, hST.out, HT.out]; simp
        case measure => simp [intOf] <;> omega
      · go_wp2
        go_returns
        have hk' : l.drop k = [] := List.drop_eq_nil_of_le (by rw [HN.out]; omega)
        have hS := HS.out
        rw [hk', sigP_nil, List.map_nil, List.append_nil] at hS
        exact RSl.of_own' HO.out hb (by rw [hR0.out, hS]) (by rw [hR0.out, hS])

theorem most_le (g wt : Int) (hg : 1 ≤ g) (hw : 0 ≤ wt) : ∀ (q : Nat) (xs : List Int), xs.length ≤ q → ∀ p ∈ sigP g wt xs, p.1 - p.2 ≤ wt := by
  intro q
  induction q with
  | zero => intro xs h p hp; rw [List.eq_nil_of_length_eq_zero (by omega : xs.length = 0), sigP_nil] at hp; simp at hp
  | succ q ih =>
    intro xs h p hp
    by_cases hx : xs = []
    · subst hx; rw [sigP_nil] at hp; simp at hp
    · have hpos := cntS_pos g wt xs hg hw hx
      have hl : 0 < xs.length := by cases xs <;> simp_all
      rw [sigP_step g wt xs hg hw hx] at hp
      rcases List.mem_cons.1 hp with rfl | hp
      · have := repT_le g wt xs hg hw hx
        simp only
        omega
      · exact ih _ (by rw [List.length_drop]; omega) p hp

set_option maxHeartbeats 1000000 in
theorem specLW_any (l : List Int) (A : Option Addr) (n c : Nat) (g wt : Int) (w : World) (hn : l.length = n) (hm : n ≤ 1048576) (hR : Rd w 1 A n (intC l)) :
    Calls Try.prog 16 #[.slice A n c, .int .i64 g, .int .i64 wt] w fun e w' => e = .returned (.int .i64 (lwR l g wt)) ∧ Below w.heap.size w w' := by
  have HR := hid_ hR; clear hR
  have HN := hid_ hn; clear hn
  cases hok : sgOk l g wt
  · have hR0 := hid_ (show lwR l g wt = -1 by unfold lwR; rw [hok]; rfl)
    rcases sgOk_not hok with q0 | ⟨q0, q1⟩ | ⟨q0, q1, q2⟩
    all_goals
      clear hok
      go_enter Try.func16, Try.ntmps16
      go_wp2_with (first | (go_at_call 10; refine (specTV_any l A n c _ HN.out (by omega) HR.out).mono ?_; rintro e w1 ⟨rfl, hb1⟩) | (go_at_call 25; refine (l1In_any _ _ _ _).mono ?_; rintro e w2 ⟨rfl, rfl⟩))
      go_returns
      exact ⟨ret_int (by rw [hR0.out]), hb1⟩
  · have hR0 := hid_ (show lwR l g wt = most 0 (sigP g wt l) by unfold lwR; rw [hok]; rfl)
    obtain ⟨q0, q1, q2⟩ := sgOk_parts hok
    clear hok
    have b1 := inB_iff.1 q1
    have b2 := inB_iff.1 q2
    have HB := hid_ (tvB_bd q0).1
    go_enter Try.func16, Try.ntmps16
    go_wp2_with (first | (go_at_call 10; refine (specTV_any l A n c _ HN.out (by omega) HR.out).mono ?_; rintro e w1 ⟨rfl, hb1⟩) | (go_at_call 25; refine (l1In_any _ _ _ _).mono ?_; rintro e w2 ⟨rfl, rfl⟩))
    clear q0 q1 q2
    go_loopw [7, 8] (fun v i wr => ∃ (k : Nat) (X : Int), k ≤ n ∧ 0 ≤ X ∧ X ≤ 100000 ∧ i = .int .i64 k ∧ v = .int .i64 X ∧ Below w.heap.size w wr ∧ most X (sigP g wt (l.drop k)) = most 0 (sigP g wt l)) (fun _ i _ => n - (intOf i).toNat)
    case atStart => exact ⟨0, 0, Nat.zero_le _, by omega, by omega, rfl, rfl, hb1, rfl⟩
    case round =>
      obtain ⟨k, X, hk, x0, x1, rfl, rfl, hb, hs⟩ := hrel
      have HS := hid_ hs; clear hs
      by_cases hlt : k < n
      · have hlt' : k < l.length := by rw [HN.out]; exact hlt
        obtain ⟨M, hM⟩ : ∃ M, M = cntS g wt (l.drop k) := ⟨_, rfl⟩
        obtain ⟨m1, m2, m3⟩ := cntS_facts l g wt k M hM hlt' b1.1 b2.1
        have hST := hid_ (sigP_at l g wt k M hM hlt' b1.1 b2.1)
        have hrl := repT_le g wt _ b1.1 b2.1 (drop_ne l k hlt')
        rw [drop_head l k hlt'] at hrl
        have HRL := hid_ hrl; clear hrl
        have bk := HB.out k hlt'
        have hx : k + M - 1 < l.length := by omega
        have bx := HB.out (k + M - 1) hx
        have hT1 := hid_ (fun h => repT_full l g wt k M hM hlt' h m1 hx)
        have hT2 := hid_ (fun h => repT_part l g wt k M hM hlt' h (by omega))
        have HM := hid_ hM; clear hM
        rw [HN.out] at m3
        go_wp2_with fail
        refine (group_any l A n c k g wt _ HN.out (by omega) hlt b1 b2 HB.out (HR.out.below hb)).mono ?_
        rw [← HM.out]
        rintro e w3 ⟨rfl, hb3⟩
        have hs3 := hb3.size
        have hbw := hb.size
        have hbb := hb.trans (hb3.mono hb.size)
        obtain ⟨b, o, rfl, h0⟩ := (HR.out.below hbb).int k hlt HN.out
        obtain ⟨b', o', e', h1⟩ := (HR.out.below hbb).int (k + M - 1) (by omega) HN.out
        injection e' with e1
        injection e1 with e2 e3
        subst e2; subst e3
        have hi : ((k : Int) + (M : Int) - 1).toNat = k + M - 1 := by omega
        by_cases hg : (M : Int) = g
        · have hg' : ((M : Int) == g) = true := by simp [hg]
          have HG := hid_ hg; clear hg
          go_wp2
          go_quiet (fail)
          go_wp2
          all_goals
            go_roundw
            case rel =>
              have ht := hT1.out HG.out
              have hle := HRL.out
              rw [ht] at hle
              refine ⟨k + M, max X (l[k + M - 1] - l[k]), by omega, by omega, by omega, by go_num, by first | rfl | (congr 1; omega), bdN hbb _, ?_⟩
              rw [← HS.out, hST.out, ht]; rfl
            case measure => simp [intOf] <;> omega
        · have hg' : ((M : Int) == g) = false := by simp [hg]
          go_wp2
          all_goals
            go_roundw
            case rel =>
              have ht := hT2.out hg
              refine ⟨k + M, max X wt, by omega, by omega, by omega, by go_num, by first | rfl | (congr 1; omega), hbb, ?_⟩
              rw [← HS.out, hST.out, ht]
              show _ = most (max X (l[k] + wt - l[k])) _
              rw [show l[k] + wt - l[k] = wt by omega]
            case measure => simp [intOf] <;> omega
      · go_wp2
        go_returns
        have hk' : l.drop k = [] := List.drop_eq_nil_of_le (by rw [HN.out]; omega)
        have hS := HS.out
        rw [hk', sigP_nil] at hS
        exact ⟨ret_int (by rw [hR0.out, ← hS]; rfl), hb⟩

set_option maxHeartbeats 1000000 in
theorem implLW_any (l : List Int) (A : Option Addr) (n c : Nat) (g wt : Int) (w : World) (hn : l.length = n) (hm : n ≤ 1048576) (hc : n ≤ c) (hcm : c ≤ maxLen) (hR : Rd w 1 A n (intC l)) :
    Calls Try.prog 17 #[.slice A n c, .int .i64 g, .int .i64 wt] w fun e w' => e = .returned (.int .i64 (lwR l g wt)) ∧ Below w.heap.size w w' := by
  have HR := hid_ hR; clear hR
  have HN := hid_ hn; clear hn
  have HC := hid_ hcm; clear hcm
  cases hok : sgOk l g wt
  · have hR0 := hid_ (show lwR l g wt = -1 by unfold lwR; rw [hok]; rfl)
    go_enter Try.func17, Try.ntmps17
    go_wp2_with (go_at_call 32; refine (are_any l A n c g wt _ HN.out (by omega) hc HC.out HR.out).mono ?_; rintro e w1 ⟨rfl, hb1⟩)
    go_returns
    exact ⟨ret_int (by rw [hR0.out]), hb1⟩
  · have hR0 := hid_ (show lwR l g wt = most 0 (sigP g wt l) by unfold lwR; rw [hok]; rfl)
    obtain ⟨q0, q1, q2⟩ := sgOk_parts hok
    have b1 := inB_iff.1 q1
    have b2 := inB_iff.1 q2
    have HB := hid_ (tvB_bd q0).1
    clear q0 q1 q2
    go_enter Try.func17, Try.ntmps17
    go_wp2_with (go_at_call 32; refine (are_any l A n c g wt _ HN.out (by omega) hc HC.out HR.out).mono ?_; rintro e w1 ⟨rfl, hb1⟩)
    clear hok
    go_loopw [7, 8] (fun v i wr => ∃ (k : Nat) (X : Int), k ≤ n ∧ 0 ≤ X ∧ X ≤ 100000 ∧ i = .int .i64 k ∧ v = .int .i64 X ∧ Below w.heap.size w wr ∧ most X (sigP g wt (l.drop k)) = most 0 (sigP g wt l)) (fun _ i _ => n - (intOf i).toNat)
    case atStart => exact ⟨0, 0, Nat.zero_le _, by omega, by omega, rfl, rfl, hb1, rfl⟩
    case round =>
      obtain ⟨k, X, hk, x0, x1, rfl, rfl, hb, hs⟩ := hrel
      have HS := hid_ hs; clear hs
      by_cases hlt : k < n
      · have hlt' : k < l.length := by rw [HN.out]; exact hlt
        obtain ⟨M, hM⟩ : ∃ M, M = cntS g wt (l.drop k) := ⟨_, rfl⟩
        obtain ⟨T, hT⟩ : ∃ T, T = repT g wt (l.drop k) := ⟨_, rfl⟩
        obtain ⟨m1, m2, m3⟩ := cntS_facts l g wt k M hM hlt' b1.1 b2.1
        have hST := hid_ (sigP_at l g wt k M hM hlt' b1.1 b2.1)
        have hrl := repT_le g wt _ b1.1 b2.1 (drop_ne l k hlt')
        rw [drop_head l k hlt', ← hT] at hrl
        have bk := HB.out k hlt'
        have hT0 : 0 ≤ T := by
          by_cases hg : (M : Int) = g
          · have hx : k + M - 1 < l.length := by omega
            have bx := HB.out (k + M - 1) hx
            rw [hT, repT_full l g wt k M hM hlt' hg m1 hx]; exact bx.1
          · rw [hT, repT_part l g wt k M hM hlt' hg (by omega)]; omega
        have HM := hid_ hM; clear hM
        have HT := hid_ hT; clear hT
        rw [HN.out] at m3
        have hkc : (k : Int) ≤ (c : Int) := by omega
        obtain ⟨b, o, rfl, h0⟩ := (HR.out.below hb).int k hlt HN.out
        have z0 := hid_ h0; clear h0
        go_wp2_with fail
        have hRd := (HR.out.below hb).drop (show k ≤ n by omega) hc
        rw [show (intC l).drop (k * 1) = intC (l.drop k) by simp [intC, List.map_drop], Nat.mul_one, if_neg (show ¬ c = k by omega)] at hRd
        refine (signalAt_any (l.drop k) _ (n - k) (c - k) g wt _ (by rw [List.length_drop, HN.out]) (by omega) (by omega) b1 b2 (fun i hi => by rw [List.getElem_drop]; exact HB.out _ _) (by simpa [add_mid] using hRd)).mono ?_
        rw [← HM.out, ← HT.out]
        rintro e w3 ⟨rfl, hb3⟩
        have hs3 := hb3.size
        have hbw := hb.size
        have hbb := hb.trans (hb3.mono hb.size)
        have h0 := (hb3.cell (cell_lt z0.out)).trans z0.out
        clear hRd
        go_wp2
        all_goals
          go_roundw
          case rel =>
            refine ⟨k + M, max X (T - l[k]), by omega, by omega, by omega, by go_num, by first | rfl | (congr 1; omega), hbb, ?_⟩
            rw [← HS.out, hST.out, HT.out]; rfl
          case measure => simp [intOf] <;> omega
      · go_wp2
        go_returns
        have hk' : l.drop k = [] := List.drop_eq_nil_of_le (by rw [HN.out]; omega)
        have hS := HS.out
        rw [hk', sigP_nil] at hS
        exact ⟨ret_int (by rw [hR0.out, ← hS]; rfl), hb⟩
end Go.Proofs.Ytjgpmihkmobcoaa
