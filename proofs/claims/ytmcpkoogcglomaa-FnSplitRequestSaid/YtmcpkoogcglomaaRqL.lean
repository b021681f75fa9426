/-
  Requests: the walks of the laws on sectors and on merging.
-/
import Derived.Test.YtmcpkoogcglomaaRqM
import Derived.Test.YtmcpkoogcglomaaRqDr
import Derived.Test.YtmcpkoogcglomaaRqE
import Derived.Test.YtmcpkoogcglomaaOpenB
import Derived.Test.YtmcpkoogcglomaaAlive
import Derived.IntWalk
namespace Go.Proofs.Ytmcpkoogcglomaa
open Go.ChangeShapes Go.WideShapes Go.ChangeAt Go.RowKit Go.BigFrame Go.Deep

theorem sameRequests_self (l : List Rq) (A A' : Option Addr) (n n' c c' : Nat) (w : World) (hn : l.length = n) (hn' : l.length = n') (hm : n ≤ maxLen) (hR : Rd w 3 A n (rqC l)) (hR' : Rd w 3 A' n' (rqC l)) :
    Calls Try.prog 30 #[.slice A n c, .slice A' n' c'] w fun e w' => e = .returned (.bool true) ∧ Below w.heap.size w w' := by
  have hm' : n' ≤ maxLen := by omega
  simpa using sameRequests_any l l A A' n n' c c' w hn hn' hm hm' hR hR'

theorem below_of_gbs {B : Nat} {a b : World} {g : Nat} (h : a.grownBy b (some g)) (hB : B ≤ a.heap.size) (hg : B ≤ g) : Below B a b :=
  below_of_gb h hB (fun k e => by injection e with e; omega)

/-- a drawn list of requests -/
def DrawnRL (w : World) (e : Ending) (w' : World) : Prop :=
  ∃ (l : List Rq) (A : Option Addr) (c : Nat), e = .returned (.slice A l.length c) ∧ l.length ≤ 60 ∧ l.length ≤ c ∧ c ≤ maxLen ∧ DrR l ∧ w'.ownsRow w.heap.size 33 3 (.slice A l.length c) l.length (rqC l) ∧ Below w.heap.size w w'
theorem DrawnRL.mk_ {w w' : World} {l : List Rq} {A : Option Addr} {c : Nat} (h0 : l.length ≤ 60) (h1 : l.length ≤ c) (h2 : c ≤ maxLen) (h3 : DrR l) (ho : w'.ownsRow w.heap.size 33 3 (.slice A l.length c) l.length (rqC l)) (hb : Below w.heap.size w w') : DrawnRL w (.returned (.slice A l.length c)) w' := ⟨l, A, c, rfl, h0, h1, h2, h3, ho, hb⟩
/-- a drawn list of requests, and a largest size -/
def DrawnRM (w : World) (e : Ending) (w' : World) : Prop :=
  ∃ (l : List Rq) (A : Option Addr) (c : Nat) (m : Int), e = .returned (.tuple #[.slice A l.length c, .int .i64 m]) ∧ l.length ≤ 60 ∧ l.length ≤ c ∧ c ≤ maxLen ∧ DrR l ∧ (0 ≤ m ∧ m ≤ 201) ∧ w'.ownsRow w.heap.size 33 3 (.slice A l.length c) l.length (rqC l) ∧ Below w.heap.size w w'
theorem DrawnRM.mk_ {w w' : World} {l : List Rq} {A : Option Addr} {c : Nat} {m : Int} (h0 : l.length ≤ 60) (h1 : l.length ≤ c) (h2 : c ≤ maxLen) (h3 : DrR l) (hm : 0 ≤ m ∧ m ≤ 201) (ho : w'.ownsRow w.heap.size 33 3 (.slice A l.length c) l.length (rqC l)) (hb : Below w.heap.size w w') : DrawnRM w (.returned (.tuple #[.slice A l.length c, .int .i64 m])) w' := ⟨l, A, c, m, rfl, h0, h1, h2, h3, hm, ho, hb⟩

set_option maxHeartbeats 1000000 in
theorem drawTot_any (A : Option Addr) (n c : Nat) (w : World) (hn : n ≤ 1048576) (hc : n ≤ c) (hcm : c ≤ maxLen) (hB : Bys w w.heap.size A n) :
    Calls Try.prog 26 #[.slice A n c] w (DrawnRL w) := by
  have HB := hid_ hB; clear hB
  have HC := hid_ hcm; clear hcm
  go_enter Try.func26, Try.ntmps26
  go_wp2_with fail
  refine (open_any A n c _ hn hc HC.out HB.out).mono ?_
  rintro e w1 ⟨rfl, hr1, hb1⟩
  have HBB := hid_ hb1; clear hb1
  have HR1 := hid_ hr1; clear hr1
  go_wp2_with fail
  refine (l20Requests_any w.heap.size 9 _ (by omega) (by omega) HR1.out).mono ?_
  rintro e w2 ⟨l, A2, c2, rfl, hl, hc1, hc2, hd, ho2, hr2, hg2⟩
  have HO2 := hid_ ho2; clear ho2
  have HG2 := hid_ hg2; clear hg2
  have HH := hid_ (And.intro hl (And.intro hc1 (And.intro hc2 hd))); clear hl hc1 hc2 hd hr2
  go_wp2
  go_returns
  exact DrawnRL.mk_ HH.out.1 HH.out.2.1 HH.out.2.2.1 HH.out.2.2.2 (own_base HO2.out HBB.out.size) (HBB.out.trans (below_of_gbs HG2.out HBB.out.size (Nat.le_refl _)))

set_option maxHeartbeats 1000000 in
theorem drawRV_any (A : Option Addr) (n c : Nat) (w : World) (hn : n ≤ 1048576) (hc : n ≤ c) (hcm : c ≤ maxLen) (hB : Bys w w.heap.size A n) :
    Calls Try.prog 24 #[.slice A n c] w (DrawnRL w) := by
  have HB := hid_ hB; clear hB
  have HC := hid_ hcm; clear hcm
  go_enter Try.func24, Try.ntmps24
  go_wp2_with fail
  refine (open_any A n c _ hn hc HC.out HB.out).mono ?_
  rintro e w1 ⟨rfl, hr1, hb1⟩
  have HBB := hid_ hb1; clear hb1
  have HR1 := hid_ hr1; clear hr1
  go_wp2_with fail
  refine (l20Requests_any w.heap.size 2 _ (by omega) (by omega) HR1.out).mono ?_
  rintro e w2 ⟨l, A2, c2, rfl, hl, hc1, hc2, hd, ho2, hr2, hg2⟩
  have HO2 := hid_ ho2; clear ho2
  have HG2 := hid_ hg2; clear hg2
  have HH := hid_ (And.intro hl (And.intro hc1 (And.intro hc2 hd))); clear hl hc1 hc2 hd hr2
  go_wp2
  go_returns
  exact DrawnRL.mk_ HH.out.1 HH.out.2.1 HH.out.2.2.1 HH.out.2.2.2 (own_base HO2.out HBB.out.size) (HBB.out.trans (below_of_gbs HG2.out HBB.out.size (Nat.le_refl _)))

set_option maxHeartbeats 1000000 in
theorem drawMR_any (A : Option Addr) (n c : Nat) (w : World) (hn : n ≤ 1048576) (hc : n ≤ c) (hcm : c ≤ maxLen) (hB : Bys w w.heap.size A n) :
    Calls Try.prog 31 #[.slice A n c] w (DrawnRM w) := by
  have HB := hid_ hB; clear hB
  have HC := hid_ hcm; clear hcm
  go_enter Try.func31, Try.ntmps31
  go_wp2_with fail
  refine (open_any A n c _ hn hc HC.out HB.out).mono ?_
  rintro e w1 ⟨rfl, hr1, hb1⟩
  have HBB := hid_ hb1; clear hb1
  have HR1 := hid_ hr1; clear hr1
  have hltw := HR1.out.lt
  go_wp2_with fail
  refine (l20Requests_any w.heap.size 12 _ (by omega) (by omega) HR1.out).mono ?_
  rintro e w2 ⟨l, A2, c2, rfl, hl, hc1, hc2, hd, ho2, hr2, hg2⟩
  have HO2 := hid_ ho2; clear ho2
  have HG2 := hid_ hg2; clear hg2
  have HR2 := hid_ hr2; clear hr2
  have HH := hid_ (And.intro hl (And.intro hc1 (And.intro hc2 hd))); clear hl hc1 hc2 hd
  go_wp2_with fail
  refine (l20Most_any w.heap.size 200 _ (by omega) (by omega) HR2.out).mono ?_
  rintro e w3 ⟨v, rfl, v0, v1, hr3, hg3⟩
  have HG3 := hid_ hg3; clear hg3
  clear hr3
  go_wp2
  go_returns
  exact DrawnRM.mk_ HH.out.1 HH.out.2.1 HH.out.2.2.1 HH.out.2.2.2 ⟨v0, v1⟩ (own_base (own_pick HO2.out HG3.out hltw) HBB.out.size) ((HBB.out.trans (below_of_gbs HG2.out HBB.out.size (Nat.le_refl _))).trans (below_of_gbs HG3.out (Nat.le_trans HBB.out.size HG2.out.size) (Nat.le_refl _)))

set_option maxHeartbeats 1000000 in
theorem covers_any (l : List Rq) (A : Option Addr) (n c : Nat) (t : Int) (bw : Bool) (w : World) (hn : l.length = n) (hm : n ≤ 1000) (ht : 0 ≤ t ∧ t ≤ 1000) (hd : ∀ x ∈ l, -1 ≤ x.at_ ∧ x.at_ ≤ 200000 ∧ 0 ≤ x.count ∧ x.count ≤ 1000) (hR : Rd w 3 A n (rqC l)) :
    Calls Try.prog 32 #[.slice A n c, .int .i64 t, .bool bw] w fun e w' => e = .returned (.int .i64 (cov l t bw)) ∧ Below w.heap.size w w' := by
  have HR := hid_ hR; clear hR
  have HN := hid_ hn; clear hn
  have HD := hid_ hd; clear hd
  go_enter Try.func32, Try.ntmps32
  go_wp2
  go_loopw [7, 8] (fun v i wq => ∃ (k : Nat) (X : Int), k ≤ n ∧ i = .int .i64 k ∧ v = .int .i64 X ∧ X = cov (l.take k) t bw ∧ Below w.heap.size w wq) (fun _ i _ => n - (intOf i).toNat)
  case atStart => exact ⟨0, 0, Nat.zero_le _, rfl, rfl, rfl, Below.refl _ _⟩
  case round =>
    obtain ⟨k, X, hk, rfl, rfl, hX, hb⟩ := hrel
    have hXb := cov_bd (l.take k) t bw
    rw [← hX, List.length_take] at hXb
    have HX := hid_ hX; clear hX
    by_cases hlt : k < n
    · have hlt' : k < l.length := by rw [HN.out]; exact hlt
      have hT := hid_ (cov_take l t bw k hlt')
      obtain ⟨b, o, rfl, h0, h1, h2⟩ := (HR.out.below hb).rq k hlt HN.out
      have hdk := HD.out _ (List.getElem_mem hlt')
      have hlz : (k : Int) < (n : Int) := by omega
      have hX1 : X ≤ 1000 := by omega
      have hX0 : 0 ≤ X := hXb.1
      clear hXb
      have wr1 : IntKind.i64.wrap (l[k].at_ + l[k].count) = l[k].at_ + l[k].count := IntWalk.i64_in _ (by omega)
      cases q1 : (l[k].write == bw)
      · have hc : cov1 t bw l[k] = false := by unfold cov1; rw [q1]; rfl
        have HC := hid_ hc; clear hc
        go_wp2
        go_quiet (fail)
        go_wp2
        go_roundw
        case rel => exact ⟨k + 1, X, by omega, by go_num, rfl, by rw [hT.out, HC.out, HX.out]; simp, bdN hb _⟩
        case measure => exact meas_ hlt
      · by_cases q2 : l[k].at_ ≤ t
        · have d2 : decide (l[k].at_ ≤ t) = true := by simpa using q2
          by_cases q3 : t < l[k].at_ + l[k].count
          · have d3 : decide (t < l[k].at_ + l[k].count) = true := by simpa using q3
            have hc : cov1 t bw l[k] = true := by unfold cov1; rw [q1, d2, d3]; rfl
            have HC := hid_ hc; clear hc
            go_wp2
            go_quiet (fail)
            go_wp2
            go_roundw
            case rel => exact ⟨k + 1, X + 1, by omega, by go_num, rfl, by rw [hT.out, HC.out, HX.out]; simp, bdN hb _⟩
            case measure => exact meas_ hlt
          · have d3 : decide (t < l[k].at_ + l[k].count) = false := by simpa using q3
            have hc : cov1 t bw l[k] = false := by unfold cov1; rw [q1, d2, d3]; rfl
            have HC := hid_ hc; clear hc
            go_wp2
            go_quiet (fail)
            go_wp2
            go_roundw
            case rel => exact ⟨k + 1, X, by omega, by go_num, rfl, by rw [hT.out, HC.out, HX.out]; simp, bdN hb _⟩
            case measure => exact meas_ hlt
        · have d2 : decide (l[k].at_ ≤ t) = false := by simpa using q2
          have hc : cov1 t bw l[k] = false := by unfold cov1; rw [q1, d2]; rfl
          have HC := hid_ hc; clear hc
          go_wp2
          go_quiet (fail)
          go_wp2
          go_roundw
          case rel => exact ⟨k + 1, X, by omega, by go_num, rfl, by rw [hT.out, HC.out, HX.out]; simp, bdN hb _⟩
          case measure => exact meas_ hlt
    · go_wp2
      go_returns
      refine ⟨ret_int ?_, hb⟩
      rw [HX.out, List.take_of_length_le (by rw [HN.out]; omega)]
end Go.Proofs.Ytmcpkoogcglomaa
