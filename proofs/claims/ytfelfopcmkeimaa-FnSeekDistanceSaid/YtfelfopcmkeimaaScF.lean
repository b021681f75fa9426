/-
  The library's stable sort, walked: the whole; the sorted order of the program.
-/
import Derived.Test.YtfelfopcmkeimaaScE
import Derived.Test.YtfelfopcmkeimaaApp
namespace Go.Proofs.Ytfelfopcmkeimaa
open Go.ChangeShapes Go.WideShapes Go.ChangeAt Go.RowKit Go.BigFrame

theorem ix_ints (n : Nat) : Ix (ints n) n := ⟨ints_length n, fun i hi => by rw [gd_ints n i hi]; omega⟩
def Stab1 (l : List Rq) (B g n c : Nat) (w0 : World) (va vb : Value) (wr : World) : Prop :=
  (va = .int .i64 0 ∧ vb = .int .i64 20 ∧ Row wr B g n c (ints n) ∧ w0.grownBy wr (some g)) ∨
  (va = .int .i64 20 ∧ vb = .int .i64 40 ∧ 20 ≤ n ∧ ∃ X, Row wr B g n c X ∧ w0.grownBy wr (some g) ∧ Kept (ints n) X 0 20 ∧ Srt l X 0 20)
def Stab2 (l : List Rq) (B g n c : Nat) (w0 : World) (vs : Value) (wr : World) : Prop :=
  ∃ X, Row wr B g n c X ∧ w0.grownBy wr (some g) ∧ Kept (ints n) X 0 n ∧ ((vs = .int .i64 20 ∧ n ≤ 20 ∧ Srt l X 0 n) ∨ (vs = .int .i64 20 ∧ 20 < n ∧ MPre l X 0 20 n) ∨ (vs = .int .i64 40 ∧ Srt l X 0 n))
def SortEnd (l : List Rq) (B g n c : Nat) (w0 : World) (e : Ending) (w' : World) : Prop := e = .returned (.tuple #[]) ∧ Row w' B g n c (sortN l n) ∧ w0.grownBy w' (some g)
theorem SortEnd.mk_ {l : List Rq} {B g n c : Nat} {w0 w' : World} {X : List Int} (h : Row w' B g n c X) (hg : w0.grownBy w' (some g)) (hk : Kept (ints n) X 0 n) (hs : Srt l X 0 n) : SortEnd l B g n c w0 (.returned (.tuple #[])) w' := by
  have : X = sortN l n := srt_whole (hk.len.trans (ints_length n)) hk.perm hs
  subst this
  exact ⟨rfl, h, hg⟩
theorem stab_pre {l : List Rq} {X Y : List Int} {n : Nat} (h20 : 20 < n) (hk : Kept (ints n) X 0 20) (hs : Srt l X 0 20) (hk2 : Kept X Y 20 n) (hs2 : Srt l Y 20 n) : MPre l Y 0 20 n := by
  refine ⟨hk2.srt hs (.inl (Nat.le_refl _)), hs2, fun i j _ h2 h3 h4 => ?_⟩
  rw [hk2.out i (.inl h2)]
  obtain ⟨i', _, i2, ei⟩ := hk.src i (by omega) h2
  obtain ⟨j', j1, j2, ej⟩ := hk2.src j h3 h4
  rw [ei, ej, hk.out j' (by omega), gd_ints n i' (by omega), gd_ints n j' (by omega)]
  omega

set_option maxHeartbeats 4000000 in
set_option maxRecDepth 100000 in
theorem stable_any (l : List Rq) (B g n c lb : Nat) (w0 w : World) (hC : CmpOk l g n lb w0) (h0 : w0.grownBy w (some g)) (ho : Row w B g n c (ints n)) (hn : n ≤ 30) :
    Calls Try.prog 65 #[.slice (some ⟨g, 0, none⟩) n c, .int .i64 n, .func (.func 59) #[] #[.pointer (some ⟨lb, 0, none⟩)]] w (SortEnd l B g n c w0) := by
  have HC := hid_ hC; clear hC
  have H0 := hid_ h0; clear h0
  have HO0 := hid_ ho; clear ho
  go_enter Try.func65, Try.ntmps65
  go_wp2
  go_loopw [7, 8] (fun va vb wr => Stab1 l B g n c w0 va vb wr) (fun va _ _ => 20 - (intOf va).toNat)
  case atStart => exact .inl ⟨rfl, rfl, HO0.out, H0.out⟩
  case round =>
    clear HO0 H0
    unfold Stab1 at hrel
    rcases hrel with ⟨rfl, rfl, ho, hg⟩ | ⟨rfl, rfl, h20, X, ho, hg, hk, hs⟩
    · have HO := hid_ ho; clear ho
      have HG := hid_ hg; clear hg
      by_cases h20 : n < 20
      · have h20z : ¬ ((20 : Int) ≤ (n : Int)) := by omega
        go_wp2_with fail
        refine (insSort_any l B g n c lb 0 n (ints n) w0 _ HC.out HG.out HO.out (ix_ints n) (Nat.zero_le _) (Nat.le_refl _) (by omega) (fun p q _ h2 h3 => by rw [gd_ints n p (by omega), gd_ints n q (by omega)]; omega)).mono ?_
        rintro e w1 ⟨rfl, X, ho1, hg1, hk1, hs1⟩
        have HO1 := hid_ ho1; clear ho1
        have HG1 := hid_ hg1; clear hg1
        have HK1 := hid_ hk1; clear hk1
        have HS1 := hid_ hs1; clear hs1
        have h21z : ¬ ((20 : Int) < (n : Int)) := by omega
        go_wp2
        go_loopw [6] (fun vs wr => vs = .int .i64 20 ∧ Row wr B g n c X ∧ w0.grownBy wr (some g)) (fun _ _ => 0)
        case atStart => exact ⟨rfl, HO1.out, HG1.out⟩
        case round =>
          obtain ⟨rfl, ho2, hg2⟩ := hrel
          have HO2 := hid_ ho2; clear ho2
          have HG2 := hid_ hg2; clear hg2
          go_wp2
          go_returns
          exact SortEnd.mk_ HO2.out HG2.out HK1.out HS1.out
      · have h20z : (20 : Int) ≤ (n : Int) := by omega
        go_wp2_with fail
        refine (insSort_any l B g n c lb 0 20 (ints n) w0 _ HC.out HG.out HO.out (ix_ints n) (by omega) (by omega) (by omega) (fun p q _ h2 h3 => by rw [gd_ints n p (by omega), gd_ints n q (by omega)]; omega)).mono ?_
        rintro e w1 ⟨rfl, X, ho1, hg1, hk1, hs1⟩
        have HO1 := hid_ ho1; clear ho1
        have HG1 := hid_ hg1; clear hg1
        have HK1 := hid_ hk1; clear hk1
        have HS1 := hid_ hs1; clear hs1
        go_wp2
        go_roundw
        case rel => exact .inr ⟨rfl, rfl, by omega, X, HO1.out, HG1.out, HK1.out, HS1.out⟩
        case measure => simp [intOf]
    · have HO := hid_ ho; clear ho
      have HG := hid_ hg; clear hg
      have HK := hid_ hk; clear hk
      have HS := hid_ hs; clear hs
      have h40z : ¬ ((40 : Int) ≤ (n : Int)) := by omega
      go_wp2_with fail
      refine (insSort_any l B g n c lb 20 n X w0 _ HC.out HG.out HO.out ((ix_ints n).kept HK.out h20) h20 (Nat.le_refl _) (by omega) (fun p q h1 h2 h3 => by rw [HK.out.out p (by omega), HK.out.out q (by omega), gd_ints n p (by omega), gd_ints n q (by omega)]; omega)).mono ?_
      rintro e w1 ⟨rfl, Y, ho1, hg1, hk1, hs1⟩
      have HO1 := hid_ ho1; clear ho1
      have HG1 := hid_ hg1; clear hg1
      have HK1 := hid_ hk1; clear hk1
      have HS1 := hid_ hs1; clear hs1
      have HK2 := hid_ ((HK.out.wider (Nat.le_refl _) h20).trans (HK1.out.wider (Nat.zero_le _) (Nat.le_refl _)))
      go_wp2
      go_loopw [6] (fun vs wr => Stab2 l B g n c w0 vs wr) (fun vs _ => 40 - (intOf vs).toNat)
      case atStart =>
        refine ⟨Y, HO1.out, HG1.out, HK2.out, ?_⟩
        by_cases e : n = 20
        · subst e
          exact .inl ⟨rfl, Nat.le_refl _, HK1.out.srt HS.out (.inl (Nat.le_refl _))⟩
        · exact .inr (.inl ⟨rfl, by omega, stab_pre (by omega) HK.out HS.out HK1.out HS1.out⟩)
      case round =>
        clear HO1 HG1 HK1 HS1 HK2 HO HG HK HS
        unfold Stab2 at hrel
        obtain ⟨Z, ho2, hg2, hk2, hh⟩ := hrel
        have HO2 := hid_ ho2; clear ho2
        have HG2 := hid_ hg2; clear hg2
        have HK2 := hid_ hk2; clear hk2
        rcases hh with ⟨rfl, hle, hs⟩ | ⟨rfl, hlt, hp⟩ | ⟨rfl, hs⟩
        · have HS := hid_ hs; clear hs
          have h21z : ¬ ((20 : Int) < (n : Int)) := by omega
          go_wp2
          go_returns
          exact SortEnd.mk_ HO2.out HG2.out HK2.out HS.out
        · have HP := hid_ hp; clear hp
          have h21z : (20 : Int) < (n : Int) := by omega
          go_wp2
          go_loopw [7, 8] (fun va vb wr => va = .int .i64 0 ∧ vb = .int .i64 40 ∧ Row wr B g n c Z ∧ w0.grownBy wr (some g)) (fun _ _ _ => 0)
          case atStart => exact ⟨rfl, rfl, HO2.out, HG2.out⟩
          case round =>
            clear HO2 HG2
            obtain ⟨rfl, rfl, ho3, hg3⟩ := hrel
            have HO3 := hid_ ho3; clear ho3
            have HG3 := hid_ hg3; clear hg3
            go_wp2_with fail
            refine (symMerge_any l B g n c lb w0 HC.out (by omega) n 0 20 n Z _ (by omega) (by omega) hlt (Nat.le_refl _) HG3.out HO3.out ((ix_ints n).kept HK2.out (Nat.le_refl _)) HP.out).mono ?_
            rintro e w4 ⟨rfl, V, ho4, hg4, hk4, hs4⟩
            have HO4 := hid_ ho4; clear ho4
            have HG4 := hid_ hg4; clear hg4
            have HK4 := hid_ hk4; clear hk4
            have HS4 := hid_ hs4; clear hs4
            go_wp2
            go_roundw
            case rel => exact ⟨V, HO4.out, HG4.out, HK2.out.trans HK4.out, .inr (.inr ⟨rfl, HS4.out⟩)⟩
            case measure => simp [intOf]
        · have HS := hid_ hs; clear hs
          have h41z : ¬ ((40 : Int) < (n : Int)) := by omega
          go_wp2
          go_returns
          exact SortEnd.mk_ HO2.out HG2.out HK2.out HS.out

theorem sortStable_any (l : List Rq) (B g n c lb : Nat) (w0 w : World) (hC : CmpOk l g n lb w0) (h0 : w0.grownBy w (some g)) (ho : Row w B g n c (ints n)) (hn : n ≤ 30) :
    Calls Try.prog 58 #[.slice (some ⟨g, 0, none⟩) n c, .func (.func 59) #[] #[.pointer (some ⟨lb, 0, none⟩)]] w (SortEnd l B g n c w0) := by
  have HC := hid_ hC; clear hC
  have H0 := hid_ h0; clear h0
  have HO0 := hid_ ho; clear ho
  go_enter Try.func58, Try.ntmps58
  go_wp2_with fail
  refine (stable_any l B g n c lb w0 _ HC.out H0.out HO0.out hn).mono ?_
  rintro e w1 ⟨rfl, ho1, hg1⟩
  have HO1 := hid_ ho1; clear ho1
  have HG1 := hid_ hg1; clear hg1
  go_wp2
  go_returns
  exact ⟨rfl, HO1.out, HG1.out⟩

theorem cmpOk_of {l : List Rq} {A : Option Addr} {n c g : Nat} {w wr : World} (hn : l.length = n) (hR : Rd w 3 A n (rqC l)) (hb : Below w.heap.size w wr) (hc : wr.cell? ⟨w.heap.size, 0, none⟩ = some (.slice A n c)) (hg : w.heap.size < g) : CmpOk l g n w.heap.size wr :=
  fun W x y hW hx hy => cmp1_any l A n c w.heap.size x y W hn hx hy (hW.cell hc (by simp; omega)) (hR.keep fun b o hlt => by
    rw [World.cell?_of_block (w := wr) (hW.block b (Nat.lt_of_lt_of_le hlt hb.size) (by simp; omega)), World.cell?_of_block (w := w) (hb.block b hlt)])

set_option maxHeartbeats 2000000 in
theorem sortedOrd_any (l : List Rq) (A : Option Addr) (n c : Nat) (w : World) (hn : l.length = n) (hm : n ≤ 30) (hR : Rd w 3 A n (rqC l)) :
    Calls Try.prog 44 #[.slice A n c] w (RSl w 3 1 n (intC (sortN l n))) := by
  have HR := hid_ hR; clear hR
  have HN := hid_ hn; clear hn
  obtain ⟨i0, hi, hz0, hz1, hz2⟩ := info_parts int_info
  go_enter Try.func44, Try.ntmps44
  go_wp2_with (at_make; refine wpList_make_full _ rfl _ _ 26 rfl w.heap.size 3 i0 _ 1 Try.underlying26 hi hz0 hz1 .i64 .i64 _ _ n rfl rfl rfl rfl (by rw [hz2]; omega) (by simp only [maxLen]; omega) (by simp) ?_; intro w1 ho1 hg1)
  have HO1 := hid_ ho1; clear ho1
  have HB1 := hid_ (((Below.refl w.heap.size w).alloc (Nat.le_refl _) (.cells #[.slice A n c] 23)).trans (below_of_gb hg1 (by simp) (fun _ h => by cases h)))
  have HC1 := hid_ (show w1.cell? ⟨w.heap.size, 0, none⟩ = some (.slice A n c) from hg1.cell (by simp [go_sem]) (by simp))
  have hz := hg1.size
  clear hg1
  simp only [World.size_alloc] at hz
  clear hi hz0 hz1 hz2
  go_loopw [10] (fun v wr => ∃ (k : Nat) (xs : List Value), k ≤ n ∧ v = .int .i64 k ∧ wr.ownsRow w.heap.size 3 1 (.slice (some ⟨w.heap.size + 1, 0, none⟩) n n) n xs ∧ Below w.heap.size w wr ∧ wr.cell? ⟨w.heap.size, 0, none⟩ = some (.slice A n c) ∧ ∀ i, i < k → xs[i]? = (intC (ints n))[i]?) (fun v _ => n - (intOf v).toNat)
  case atStart => exact ⟨0, _, Nat.zero_le _, rfl, by simpa using HO1.out, HB1.out, HC1.out, fun i hi => absurd hi (by omega)⟩
  case round =>
    obtain ⟨k, xs, hk, rfl, ho, hb, hcb, hy⟩ := hrel
    have HO := hid_ ho; clear ho
    have HY := hid_ hy; clear hy
    have HB := hid_ hb; clear hb
    have HCB := hid_ hcb; clear hcb
    by_cases hlt : k < n
    · have hgl := (own_base_lt HO.out).2
      have hlen : xs.length = n := by simpa using HO.out.1
      have HL := hid_ hlen; clear hlen
      obtain ⟨v0, c0, f0⟩ := own_store HO.out k (by omega)
      go_wp2
      go_roundw
      case rel =>
        have s1 := HO.out.stored k (.int .i64 k)
        refine ⟨k + 1, _, by omega, by go_num, s1.1, HB.out.setCell (by simp) _, (s1.2.cell HCB.out (by simp)), ?_⟩
        exact set1_get xs (intC (ints n)) k _ (by rw [HL.out]; omega) HY.out (by simp [intC, ints, hlt])
      case measure => simp [intOf]; omega
    · have e : xs = intC (ints n) := all_get _ _ n (by simpa using HO.out.1) (by rw [intC_length, ints_length]) (fun i hi => HY.out i (by omega))
      have HRow := hid_ (show Row wr w.heap.size (w.heap.size + 1) n n (ints n) by unfold Row; rw [← e]; exact HO.out)
      clear e HY HO
      have HOK := hid_ (cmpOk_of HN.out HR.out HB.out HCB.out (Nat.lt_succ_self _))
      go_wp2_with fail
      refine (sortStable_any l w.heap.size (w.heap.size + 1) n n w.heap.size wr _ HOK.out (World.grownBy.refl _ _) HRow.out hm).mono ?_
      rintro e w2 ⟨rfl, ho2, hg2⟩
      have HO2 := hid_ ho2; clear ho2
      have HG2 := hid_ hg2; clear hg2
      go_wp2
      go_returns
      exact RSl.of_own HO2.out (HB.out.grown HG2.out HB.out.size (fun g e => by injection e with e; omega))
end Go.Proofs.Ytfelfopcmkeimaa
