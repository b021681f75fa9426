/-
  The library's stable sort, walked: the merge in place.
-/
import Derived.Test.YtfelfopcmkeimaaScC
namespace Go.Proofs.Ytfelfopcmkeimaa
open Go.ChangeShapes Go.WideShapes Go.ChangeAt Go.RowKit Go.BigFrame

/-- the comparison, at a world of the sort's -/
theorem cmp_at {l : List Rq} {g n lb : Nat} {w0 wr : World} (hC : CmpOk l g n lb w0) (hg : w0.grownBy wr (some g)) {x y : Int} (hx : 0 ≤ x ∧ x < n) (hy : 0 ≤ y ∧ y < n) :
    ∃ kv : Int, decide (kv < 0) = decide (atK l x < atK l y) ∧ ∀ q, Calls Try.prog 59 #[.int .i64 x, .int .i64 y, .pointer (some ⟨lb, 0, none⟩)] (wr.drewN q) fun e w' => e = .returned (.int .i64 kv) ∧ ∃ q', w' = (wr.drewN q).drewN q' :=
  ⟨cmpI (atK l x) (atK l y), cmpI_neg _ _, fun q => hC (wr.drewN q) x y (gb_drewN hg q) hx hy⟩
theorem dec_t {p q : Prop} [Decidable p] [Decidable q] (h : decide p = decide q) (hp : p) : q := by simpa [hp] using h
theorem dec_f {p : Prop} {x y : Int} [Decidable p] (h : decide p = decide (x < y)) (hp : ¬ p) : y ≤ x := by
  have : ¬ x < y := by simpa [hp] using h
  omega
theorem nd_t {p : Prop} [Decidable p] (h : p) : (!decide p) = false := by simp [h]
theorem nd_f {p : Prop} [Decidable p] (h : ¬ p) : (!decide p) = true := by simp [h]

/-- the two searches -/
def Srch1 (l : List Rq) (B g n c a b : Nat) (X : List Int) (w0 : World) (vi vj : Value) (wr : World) : Prop :=
  ∃ i j : Nat, vi = .int .i64 i ∧ vj = .int .i64 j ∧ a + 1 ≤ i ∧ i ≤ j ∧ j ≤ b ∧ Row wr B g n c X ∧ w0.grownBy wr (some g) ∧ (i = a + 1 ∨ atK l (gd X (i - 1)) < atK l (gd X a)) ∧ (j = b ∨ atK l (gd X a) ≤ atK l (gd X j))
def Srch2 (l : List Rq) (B g n c a m : Nat) (X : List Int) (w0 : World) (vi vj : Value) (wr : World) : Prop :=
  ∃ i j : Nat, vi = .int .i64 i ∧ vj = .int .i64 j ∧ a ≤ i ∧ i ≤ j ∧ j ≤ m ∧ Row wr B g n c X ∧ w0.grownBy wr (some g) ∧ (i = a ∨ atK l (gd X (i - 1)) ≤ atK l (gd X m)) ∧ (j = m ∨ atK l (gd X m) < atK l (gd X j))

set_option maxHeartbeats 4000000 in
set_option maxRecDepth 100000 in
theorem merge1_any (l : List Rq) (B g n c lb a b : Nat) (X : List Int) (w0 w : World) (hC : CmpOk l g n lb w0) (h0 : w0.grownBy w (some g)) (ho : Row w B g n c X) (hv : Ix X n) (hab : a + 1 < b) (hb : b ≤ n) (hn : n ≤ 1000) (hp : MPre l X a (a + 1) b) :
    Calls Try.prog 70 #[.slice (some ⟨g, 0, none⟩) n c, .int .i64 a, .int .i64 ((a : Int) + 1), .int .i64 b, .func (.func 59) #[] #[.pointer (some ⟨lb, 0, none⟩)]] w (SortAns l B g n c a b X w0) := by
  have HC := hid_ hC; clear hC
  have H0 := hid_ h0; clear h0
  have HO0 := hid_ ho; clear ho
  have HV := hid_ hv; clear hv
  have HP := hid_ hp; clear hp
  have z1 : (a : Int) + 1 - (a : Int) = 1 := by omega
  go_enter Try.func70, Try.ntmps70
  go_wp2
  go_loopw [10, 11] (fun vi vj wr => Srch1 l B g n c a b X w0 vi vj wr) (fun vi vj _ => (intOf vj).toNat - (intOf vi).toNat)
  case atStart => unfold Srch1; exact ⟨a + 1, b, by go_num, rfl, by omega, by omega, by omega, HO0.out, H0.out, .inl rfl, .inl rfl⟩
  case round =>
    clear HO0 H0
    unfold Srch1 at hrel
    obtain ⟨i, j, rfl, rfl, hi, hij, hj, ho, hg, hlo, hhi⟩ := hrel
    have HLO := hid_ hlo; clear hlo
    have HHI := hid_ hhi; clear hhi
    have HO := hid_ ho; clear ho
    have HG := hid_ hg; clear hg
    by_cases hlt : i < j
    · obtain ⟨h, hh⟩ : ∃ h, (i + j) / 2 = h := ⟨_, rfl⟩
      have h1 : i ≤ h := by omega
      have h2 : h < j := by omega
      have hdiv : ((i : Int) + (j : Int)) / 2 = (h : Int) := by omega
      have hltz : (i : Int) < (j : Int) := by omega
      have hhn : (h : Int) < (n : Int) := by omega
      have han : (a : Int) < (n : Int) := by omega
      obtain ⟨ch, _⟩ := HO.out.cell h (by omega)
      obtain ⟨ca, _⟩ := HO.out.cell a (by omega)
      have hxh := HV.out.2 h (by omega)
      have hxa := HV.out.2 a (by omega)
      obtain ⟨kv, hk, hc⟩ := cmp_at HC.out HG.out hxh hxa
      have HKV := hid_ hk; have hc := hid_ hc; clear hk
      obtain ⟨xh, hxh'⟩ : ∃ x, gd X h = x := ⟨_, rfl⟩
      obtain ⟨xa, hxa'⟩ : ∃ x, gd X a = x := ⟨_, rfl⟩
      rw [hxh'] at ch hxh hc HKV
      rw [hxa'] at ca hxa hc HKV
      have HXH := hid_ hxh'; clear hxh'
      have HXA := hid_ hxa'; clear hxa'
      clear hh
      by_cases hlv : kv < 0
      · have HN := hid_ (dec_t HKV.out hlv)
        go_wp2_with fail
        go_quiet ((go_at_call 59; exact Calls.quiet_of (hc.out _)))
        go_wp2
        go_roundw
        case rel => unfold Srch1; exact ⟨h + 1, j, by go_num, rfl, by omega, by omega, hj, HO.out.drewN nq, gb_drewN HG.out nq, .inr (by rw [Nat.add_sub_cancel, HXH.out, HXA.out]; exact HN.out), HHI.out⟩
        case measure => simp only [intOf]; omega
      · have HN := hid_ (dec_f HKV.out hlv)
        go_wp2_with fail
        go_quiet ((go_at_call 59; exact Calls.quiet_of (hc.out _)))
        go_wp2
        go_roundw
        case rel => unfold Srch1; exact ⟨i, h, rfl, rfl, hi, h1, by omega, HO.out.drewN nq, gb_drewN HG.out nq, HLO.out, .inr (by rw [HXH.out, HXA.out]; exact HN.out)⟩
        case measure => simp only [intOf]; omega
    · obtain rfl : i = j := by omega
      obtain ⟨ip, rfl⟩ : ∃ ip, i = ip + 1 := ⟨i - 1, by omega⟩
      have hlt0 : ¬ ((ip : Int) + 1 < (ip : Int) + 1) := by omega
      have HLX := HO.out.len
      have HLX := hid_ HLX
      go_wp2
      go_loopw [13] (fun vk w2 => ∃ (k : Nat) (Y : List Int), vk = .int .i64 k ∧ a ≤ k ∧ k ≤ ip ∧ Row w2 B g n c Y ∧ w0.grownBy w2 (some g) ∧ MvR X Y a k) (fun vk _ => ip - (intOf vk).toNat)
      case atStart => exact ⟨a, X, rfl, Nat.le_refl _, by omega, HO.out, HG.out, MvR.zero X a⟩
      case round =>
        clear HO HG
        obtain ⟨k, Y, rfl, hk1, hk2, ho, hg, hm⟩ := hrel
        have HO := hid_ ho; clear ho
        have HG := hid_ hg; clear hg
        have HM := hid_ hm; clear hm
        by_cases hkl : k < ip
        · obtain ⟨cp, fp⟩ := HO.out.cell k (by omega)
          obtain ⟨cq, fq⟩ := HO.out.cell (k + 1) (by omega)
          have HM2 := hid_ (HM.out.step hk1 (by rw [HLX.out]; omega))
          obtain ⟨q, hq⟩ : ∃ q, k + 1 = q := ⟨_, rfl⟩
          have hqz : (k : Int) + 1 = (q : Int) := by omega
          have hpn : (k : Int) < (n : Int) := by omega
          have hqn : (q : Int) < (n : Int) := by omega
          have hpq : k < q := by omega
          rw [hq] at cq fq HM2
          obtain ⟨xp, hxp⟩ : ∃ x, gd Y k = x := ⟨_, rfl⟩
          obtain ⟨xq, hxq⟩ : ∃ x, gd Y q = x := ⟨_, rfl⟩
          rw [hxp] at cp
          rw [hxq] at cq
          have HXP := hid_ hxp; clear hxp
          have HXQ := hid_ hxq; clear hxq
          have HQ := hid_ hq
          clear hq HM
          have hklz : (k : Int) < (ip : Int) := by omega
          go_wp2_with fail
          go_big_region
          all_goals go_wp2
          all_goals
            go_roundw
            case rel =>
              refine ⟨q, sw Y k q, rfl, by omega, by omega, ?_, gb_set (gb_set (gb_drew HG.out)), HM2.out⟩
              first
                | exact HO.out.drew.ex1 k q _ _ HXQ.out.symm HXP.out.symm
                | exact HO.out.drew.ex2 k q (by omega) _ _ HXQ.out.symm HXP.out.symm
            case measure => simp only [intOf]; omega
        · obtain rfl : k = ip := by omega
          go_wp2
          go_returns
          exact ⟨rfl, Y, HO.out, HG.out, HM.out.kept (by omega) (by omega), merge_one HP.out hi hj (by have := HLO.out; rwa [Nat.add_sub_cancel] at this ⊢) HHI.out HM.out⟩

set_option maxHeartbeats 4000000 in
set_option maxRecDepth 100000 in
theorem merge2_any (l : List Rq) (B g n c lb a m : Nat) (X : List Int) (w0 w : World) (hC : CmpOk l g n lb w0) (h0 : w0.grownBy w (some g)) (ho : Row w B g n c X) (hv : Ix X n) (hab : a + 1 < m) (hb : m + 1 ≤ n) (hn : n ≤ 1000) (hp : MPre l X a m (m + 1)) :
    Calls Try.prog 70 #[.slice (some ⟨g, 0, none⟩) n c, .int .i64 a, .int .i64 m, .int .i64 ((m : Int) + 1), .func (.func 59) #[] #[.pointer (some ⟨lb, 0, none⟩)]] w (SortAns l B g n c a (m + 1) X w0) := by
  have HC := hid_ hC; clear hC
  have H0 := hid_ h0; clear h0
  have HO0 := hid_ ho; clear ho
  have HV := hid_ hv; clear hv
  have HP := hid_ hp; clear hp
  have z1 : (m : Int) + 1 - (m : Int) = 1 := by omega
  have z2 : ((m : Int) - (a : Int) == 1) = false := by rw [beq_eq_false_iff_ne]; omega
  go_enter Try.func70, Try.ntmps70
  go_wp2
  go_loopw [14, 15] (fun vi vj wr => Srch2 l B g n c a m X w0 vi vj wr) (fun vi vj _ => (intOf vj).toNat - (intOf vi).toNat)
  case atStart => unfold Srch2; exact ⟨a, m, rfl, rfl, by omega, by omega, by omega, HO0.out, H0.out, .inl rfl, .inl rfl⟩
  case round =>
    clear HO0 H0
    unfold Srch2 at hrel
    obtain ⟨i, j, rfl, rfl, hi, hij, hj, ho, hg, hlo, hhi⟩ := hrel
    have HLO := hid_ hlo; clear hlo
    have HHI := hid_ hhi; clear hhi
    have HO := hid_ ho; clear ho
    have HG := hid_ hg; clear hg
    by_cases hlt : i < j
    · obtain ⟨h, hh⟩ : ∃ h, (i + j) / 2 = h := ⟨_, rfl⟩
      have h1 : i ≤ h := by omega
      have h2 : h < j := by omega
      have hdiv : ((i : Int) + (j : Int)) / 2 = (h : Int) := by omega
      have hltz : (i : Int) < (j : Int) := by omega
      have hhn : (h : Int) < (n : Int) := by omega
      have han : (m : Int) < (n : Int) := by omega
      obtain ⟨ch, _⟩ := HO.out.cell h (by omega)
      obtain ⟨ca, _⟩ := HO.out.cell m (by omega)
      have hxh := HV.out.2 h (by omega)
      have hxa := HV.out.2 m (by omega)
      obtain ⟨kv, hk, hc⟩ := cmp_at HC.out HG.out hxa hxh
      have HKV := hid_ hk; have hc := hid_ hc; clear hk
      obtain ⟨xh, hxh'⟩ : ∃ x, gd X h = x := ⟨_, rfl⟩
      obtain ⟨xa, hxa'⟩ : ∃ x, gd X m = x := ⟨_, rfl⟩
      rw [hxh'] at ch hxh hc HKV
      rw [hxa'] at ca hxa hc HKV
      have HXH := hid_ hxh'; clear hxh'
      have HXA := hid_ hxa'; clear hxa'
      clear hh
      by_cases hlv : kv < 0
      · have HN := hid_ (dec_t HKV.out hlv)
        have hnd := nd_t hlv
        go_wp2_with fail
        go_quiet ((go_at_call 59; exact Calls.quiet_of (hc.out _)))
        go_wp2
        go_roundw
        case rel => unfold Srch2; exact ⟨i, h, rfl, rfl, hi, h1, by omega, HO.out.drewN nq, gb_drewN HG.out nq, HLO.out, .inr (by rw [HXH.out, HXA.out]; exact HN.out)⟩
        case measure => simp only [intOf]; omega
      · have HN := hid_ (dec_f HKV.out hlv)
        have hnd := nd_f hlv
        go_wp2_with fail
        go_quiet ((go_at_call 59; exact Calls.quiet_of (hc.out _)))
        go_wp2
        go_roundw
        case rel => unfold Srch2; exact ⟨h + 1, j, by go_num, rfl, by omega, by omega, hj, HO.out.drewN nq, gb_drewN HG.out nq, .inr (by rw [Nat.add_sub_cancel, HXH.out, HXA.out]; exact HN.out), HHI.out⟩
        case measure => simp only [intOf]; omega
    · obtain rfl : i = j := by omega
      have hlt0 : ¬ ((i : Int) < (i : Int)) := by omega
      have HLX := hid_ HO.out.len
      go_wp2
      go_loopw [17] (fun vk w2 => ∃ (k : Nat) (Y : List Int), vk = .int .i64 k ∧ i ≤ k ∧ k ≤ m ∧ Row w2 B g n c Y ∧ w0.grownBy w2 (some g) ∧ MvL X Y m k) (fun vk _ => (intOf vk).toNat)
      case atStart => exact ⟨m, X, rfl, by omega, by omega, HO.out, HG.out, MvL.zero X m⟩
      case round =>
        clear HO HG
        obtain ⟨k, Y, rfl, hk1, hk2, ho, hg, hm⟩ := hrel
        have HO := hid_ ho; clear ho
        have HG := hid_ hg; clear hg
        by_cases hkl : i < k
        · obtain ⟨kp, rfl⟩ : ∃ kp, k = kp + 1 := ⟨k - 1, by omega⟩
          obtain ⟨cp, fp⟩ := HO.out.cell kp (by omega)
          obtain ⟨cq, fq⟩ := HO.out.cell (kp + 1) (by omega)
          have HM2 := hid_ (MvL.step hm hk2 (by rw [HLX.out]; omega))
          clear hm
          obtain ⟨q, hq⟩ : ∃ q, kp + 1 = q := ⟨_, rfl⟩
          have hqz : (q : Int) - 1 = (kp : Int) := by omega
          have hpn : (kp : Int) < (n : Int) := by omega
          have hqn : (q : Int) < (n : Int) := by omega
          have hpq : kp < q := by omega
          rw [hq] at cq fq HM2 hkl hk1 hk2 ⊢
          obtain ⟨xp, hxp⟩ : ∃ x, gd Y kp = x := ⟨_, rfl⟩
          obtain ⟨xq, hxq⟩ : ∃ x, gd Y q = x := ⟨_, rfl⟩
          rw [hxp] at cp
          rw [hxq] at cq
          have HXP := hid_ hxp; clear hxp
          have HXQ := hid_ hxq; clear hxq
          have HQ := hid_ hq
          clear hq
          have hklz : (i : Int) < (q : Int) := by omega
          have hik : i ≤ kp := by have := HQ.out; omega
          go_wp2_with fail
          go_big_region
          all_goals go_wp2
          all_goals
            go_roundw
            case rel =>
              refine ⟨kp, sw Y q kp, rfl, hik, by omega, ?_, gb_set (gb_set (gb_drew HG.out)), HM2.out⟩
              first
                | exact HO.out.drew.ex1 q kp _ _ HXP.out.symm HXQ.out.symm
                | exact HO.out.drew.ex2 q kp (by omega) _ _ HXP.out.symm HXQ.out.symm
            case measure => simp only [intOf]; omega
        · obtain rfl : k = i := by omega
          have HM := hid_ hm; clear hm
          go_wp2
          go_returns
          exact ⟨rfl, Y, HO.out, HG.out, HM.out.kept (by omega) hk2 (by omega), merge_last HP.out hi hj HLO.out HHI.out HM.out⟩
end Go.Proofs.Ytfelfopcmkeimaa
