/-
  Schedulers: the sorted order, as the reference makes it; the program's two front functions.
-/
import Derived.Test.YtfelfopcmkeimaaScF
namespace Go.Proofs.Ytfelfopcmkeimaa
open Go.ChangeShapes Go.WideShapes Go.ChangeAt Go.RowKit Go.BigFrame

theorem rd_int1 (w : World) (k : Int) (g : Nat) (hg : w.heap.size = g) : Rd (w.alloc (.cells #[.int .i64 k] 3)) 1 (some ⟨g, 0, none⟩) 1 (intC [k]) := by
  subst hg
  exact ⟨rfl, fun _ => ⟨_, _, rfl, fun j u hu => by
    have := news_alloc w [.int .i64 k] 3 j u hu
    rwa [add_mid] at this⟩⟩
theorem intC_take (l : List Int) (m : Nat) : (intC l).take (m * 1) = intC (l.take m) := by simp [intC, List.map_take]
theorem intC_drop (l : List Int) (m : Nat) : (intC l).drop (m * 1) = intC (l.drop m) := by simp [intC, List.map_drop]

/-- where the reference's search stands -/
def InsAt (l : List Rq) (o : List Int) (k : Int) (n2 : Nat) (w : World) (vp : Value) (wr : World) : Prop :=
  ∃ p : Nat, vp = .int .i64 p ∧ p ≤ n2 ∧ posF l o k n2 = posF l o k p ∧ Below w.heap.size w wr

set_option maxHeartbeats 4000000 in
set_option maxRecDepth 100000 in
theorem insert_any (l : List Rq) (A : Option Addr) (n c : Nat) (o : List Int) (A2 : Option Addr) (n2 c2 : Nat) (k : Nat) (w : World) (hn : l.length = n) (hR : Rd w 3 A n (rqC l)) (hn2 : o.length = n2) (hc2 : n2 ≤ c2) (hcm2 : c2 ≤ maxLen) (hO2 : ∃ B0, w.ownsRow B0 3 1 (.slice A2 n2 c2) n2 (intC o))
    (hm : n ≤ 1000) (hm2 : n2 ≤ 1000) (hk : k < n) (ho : ∀ x ∈ o, 0 ≤ x ∧ x < n) :
    Calls Try.prog 52 #[.slice A n c, .slice A2 n2 c2, .int .i64 k] w (RSl w 3 1 (n2 + 1) (intC (insK l o k))) := by
  have HR := hid_ hR; clear hR
  obtain ⟨B0, hO2⟩ := hO2
  have HR2 := hid_ (own_rd hO2)
  have HCASE := hid_ (show (A2 = none ∧ n2 = 0 ∧ c2 = 0) ∨ ∃ g2, A2 = some ⟨g2, 0, none⟩ from by
    rcases hO2.2 with ⟨h, _⟩ | ⟨g, cap, cur, h, _⟩
    · injection h with h1 h2 h3; exact .inl ⟨h1, h2, h3⟩
    · injection h with h1 h2 h3; exact .inr ⟨g, h1⟩)
  clear hO2
  have HN := hid_ hn; clear hn
  have HN2 := hid_ hn2; clear hn2
  have HX := hid_ ho; clear ho
  have hc2' : n2 ≤ 9223372036854775807 := by omega
  have hcc : c2 ≤ 9223372036854775807 := by unfold maxLen at hcm2; omega
  clear hcm2
  go_enter Try.func52, Try.ntmps52
  go_wp2
  go_loopw [7] (fun vp wr => InsAt l o k n2 w vp wr) (fun vp _ => (intOf vp).toNat)
  case atStart => exact ⟨n2, rfl, Nat.le_refl _, rfl, Below.refl _ _⟩
  case round =>
    unfold InsAt at hrel
    obtain ⟨p, rfl, hp, hpos, hb⟩ := hrel
    have HP := hid_ hpos; clear hpos
    have HB := hid_ hb; clear hb
    by_cases h0 : p = 0
    · have hg0 : decide (0 < p) = false := decide_eq_false (by omega)
      have HPF := hid_ (show posF l o k n2 = p by rw [HP.out, h0]; rfl)
      clear h0 HP
      rcases HCASE.out with ⟨rfl, rfl, rfl⟩ | ⟨b2, rfl⟩
      · obtain rfl : p = 0 := by omega
        go_wp2_with fail
        go_quiet (fail)
        have HB0 := hid_ (bdN HB.out nq)
        generalize wr.drewN nq = wq at HB0 ⊢
        have hbq := HB0.out.size
        have HRo := hid_ (HR2.out.below HB0.out)
        have HTl := hid_ (show Rd wq 1 none 0 (intC (o.drop 0)) from by rw [List.eq_nil_of_length_eq_zero HN2.out]; exact Rd.nil wq 1 none)
        have hTk := HRo.out.take (m := 0) (by omega)
        rw [intC_take] at hTk
        have HTk := hid_ hTk; clear hTk
        go_wp2_with (first
          | ((at_builtin; (with_reducible change wpList _ _ _ (⟨some 36, _, _, _, _, _⟩ :: _) _ _); refine wpList_append_rdg _ rfl _ _ 26 rfl wq.heap.size 3 (.int .i64 0) 1 8 Try.underlying26 int_info rfl (by decide) (by decide) _ _ _ (own_empty wq 3 1) rfl _ _ _ _ (HTl.out.alloc _) rfl (intC_one _) (by omega) (by simp) ?_; intro v36 w36 ho' hg'; have HO36 := hid_ ho'; have HG36 := hid_ hg'; clear ho' hg'); have hoT := own_eq HO36.out (Nat.zero_add _) (List.nil_append _); obtain ⟨AT, cT, rfl, _, _⟩ := own_shape hoT; have HRk := hid_ (own_rd hoT); clear hoT; have HB1 := hid_ (below_push ((Below.refl wq.heap.size wq).alloc (Nat.le_refl _) (.cells #[] 3)) (own_empty wq 3 1) HG36.out (by simp)); have hs1_ := HB1.out.size)
          | ((at_builtin; (with_reducible change wpList _ _ _ (⟨some 41, _, _, _, _, _⟩ :: _) _ _); refine wpList_append_rdg _ rfl _ _ 26 rfl w36.heap.size 3 (.int .i64 0) 1 8 Try.underlying26 int_info rfl (by decide) (by decide) _ _ _ (own_empty w36 3 1) rfl _ _ _ _ ((HTk.out.below HB1.out).alloc _) rfl (intC_one _) (by omega) (by simp) ?_; intro v41 w41 ho' hg'; have HO41 := hid_ ho'; have HG41 := hid_ hg'; clear ho' hg'); have HB2_ := hid_ (below_push ((Below.refl w36.heap.size w36).alloc (Nat.le_refl _) (.cells #[] 3)) (own_empty w36 3 1) HG41.out (by simp)); have hs2_ := HB2_.out.size)
          | ((at_builtin; (with_reducible change wpList _ _ _ (⟨some 44, _, _, _, _, _⟩ :: _) _ _); refine wpList_append_rdg _ rfl _ _ 26 rfl w36.heap.size 3 (.int .i64 0) 1 8 Try.underlying26 int_info rfl (by decide) (by decide) _ _ _ (HO41.out.alloc _) rfl _ _ _ _ (rd_int1 _ (k : Int) _ (by first | rfl | simp)) rfl (intC_one [(k : Int)]) (by omega) (by simp; omega) ?_; intro v44 w44 ho' hg'; have HO44 := hid_ ho'; have HG44 := hid_ hg'; clear ho' hg'); have HB3_ := hid_ (below_push (HB2_.out.alloc hs2_ (.cells #[.int .i64 (k : Int)] 3)) (HO41.out.alloc _) HG44.out (by simp; omega)); have hs3_ := HB3_.out.size)
          | ((at_builtin; (with_reducible change wpList _ _ _ (⟨some 46, _, _, _, _, _⟩ :: _) _ _); refine wpList_append_rdg _ rfl _ _ 26 rfl w36.heap.size 3 (.int .i64 0) 1 8 Try.underlying26 int_info rfl (by decide) (by decide) _ _ _ HO44.out rfl _ _ _ _ (HRk.out.below HB3_.out) rfl (intC_one _) (by omega) hs3_ ?_; intro v46 w46 ho' hg'; have HO46 := hid_ ho'; have HG46 := hid_ hg'; clear ho' hg'); have HB4_ := hid_ (below_push HB3_.out HO44.out HG46.out hs3_)))
        have HBz := hid_ (HB1.out.trans (HB4_.out.mono hs1_))
        have HOz := HO46
        go_returns
        refine RSl.of_own' (own_base HOz.out (by omega)) (HB0.out.trans (HBz.out.mono hbq)) (by omega) ?_
        have hpf := HPF.out
        unfold insK
        rw [HN2.out, hpf]
        simp [intC]
      · go_wp2_with fail
        go_quiet (fail)
        have HB0 := hid_ (bdN HB.out nq)
        generalize wr.drewN nq = wq at HB0 ⊢
        have hbq := HB0.out.size
        have HRo := hid_ (HR2.out.below HB0.out)
        by_cases hcp : c2 = p
        · obtain rfl : n2 = p := by omega
          obtain rfl : n2 = c2 := by omega
          have HTl := hid_ (show Rd wq 1 (some ⟨b2, 0, none⟩) 0 (intC (o.drop n2)) from by rw [List.drop_of_length_le (by rw [HN2.out]; exact Nat.le_refl _)]; exact Rd.nil wq 1 (some ⟨b2, 0, none⟩))
          have hTk := HRo.out.take (m := n2) (by omega)
          rw [intC_take] at hTk
          have HTk := hid_ hTk; clear hTk
          go_wp2_with (first
            | ((at_builtin; (with_reducible change wpList _ _ _ (⟨some 36, _, _, _, _, _⟩ :: _) _ _); refine wpList_append_rdg _ rfl _ _ 26 rfl wq.heap.size 3 (.int .i64 0) 1 8 Try.underlying26 int_info rfl (by decide) (by decide) _ _ _ (own_empty wq 3 1) rfl _ _ _ _ (HTl.out.alloc _) rfl (intC_one _) (by omega) (by simp) ?_; intro v36 w36 ho' hg'; have HO36 := hid_ ho'; have HG36 := hid_ hg'; clear ho' hg'); have hoT := own_eq HO36.out (Nat.zero_add _) (List.nil_append _); obtain ⟨AT, cT, rfl, _, _⟩ := own_shape hoT; have HRk := hid_ (own_rd hoT); clear hoT; have HB1 := hid_ (below_push ((Below.refl wq.heap.size wq).alloc (Nat.le_refl _) (.cells #[] 3)) (own_empty wq 3 1) HG36.out (by simp)); have hs1_ := HB1.out.size)
            | ((at_builtin; (with_reducible change wpList _ _ _ (⟨some 41, _, _, _, _, _⟩ :: _) _ _); refine wpList_append_rdg _ rfl _ _ 26 rfl w36.heap.size 3 (.int .i64 0) 1 8 Try.underlying26 int_info rfl (by decide) (by decide) _ _ _ (own_empty w36 3 1) rfl _ _ _ _ ((HTk.out.below HB1.out).alloc _) rfl (intC_one _) (by omega) (by simp) ?_; intro v41 w41 ho' hg'; have HO41 := hid_ ho'; have HG41 := hid_ hg'; clear ho' hg'); have HB2_ := hid_ (below_push ((Below.refl w36.heap.size w36).alloc (Nat.le_refl _) (.cells #[] 3)) (own_empty w36 3 1) HG41.out (by simp)); have hs2_ := HB2_.out.size)
            | ((at_builtin; (with_reducible change wpList _ _ _ (⟨some 44, _, _, _, _, _⟩ :: _) _ _); refine wpList_append_rdg _ rfl _ _ 26 rfl w36.heap.size 3 (.int .i64 0) 1 8 Try.underlying26 int_info rfl (by decide) (by decide) _ _ _ (HO41.out.alloc _) rfl _ _ _ _ (rd_int1 _ (k : Int) _ (by first | rfl | simp)) rfl (intC_one [(k : Int)]) (by omega) (by simp; omega) ?_; intro v44 w44 ho' hg'; have HO44 := hid_ ho'; have HG44 := hid_ hg'; clear ho' hg'); have HB3_ := hid_ (below_push (HB2_.out.alloc hs2_ (.cells #[.int .i64 (k : Int)] 3)) (HO41.out.alloc _) HG44.out (by simp; omega)); have hs3_ := HB3_.out.size)
            | ((at_builtin; (with_reducible change wpList _ _ _ (⟨some 46, _, _, _, _, _⟩ :: _) _ _); refine wpList_append_rdg _ rfl _ _ 26 rfl w36.heap.size 3 (.int .i64 0) 1 8 Try.underlying26 int_info rfl (by decide) (by decide) _ _ _ HO44.out rfl _ _ _ _ (HRk.out.below HB3_.out) rfl (intC_one _) (by omega) hs3_ ?_; intro v46 w46 ho' hg'; have HO46 := hid_ ho'; have HG46 := hid_ hg'; clear ho' hg'); have HB4_ := hid_ (below_push HB3_.out HO44.out HG46.out hs3_)))
          have HBz := hid_ (HB1.out.trans (HB4_.out.mono hs1_))
          have HOz := HO46
          go_returns
          refine RSl.of_own' (own_base HOz.out (by omega)) (HB0.out.trans (HBz.out.mono hbq)) (by omega) ?_
          have hpf := HPF.out
          unfold insK
          rw [HN2.out, hpf]
          simp [intC]
        · have hpc : (p : Int) ≤ (c2 : Int) := by omega
          have hpn : (p : Int) ≤ (n2 : Int) := by omega
          have hTl := HRo.out.drop hp hc2
          rw [if_neg hcp, intC_drop, Nat.mul_one] at hTl
          simp only [Option.map_some, add_mid, Nat.zero_add] at hTl
          have HTl := hid_ hTl; clear hTl
          have hTk := HRo.out.take (m := p) (by omega)
          rw [intC_take] at hTk
          have HTk := hid_ hTk; clear hTk
          go_wp2_with (first
            | ((at_builtin; (with_reducible change wpList _ _ _ (⟨some 36, _, _, _, _, _⟩ :: _) _ _); refine wpList_append_rdg _ rfl _ _ 26 rfl wq.heap.size 3 (.int .i64 0) 1 8 Try.underlying26 int_info rfl (by decide) (by decide) _ _ _ (own_empty wq 3 1) rfl _ _ _ _ (HTl.out.alloc _) rfl (intC_one _) (by omega) (by simp) ?_; intro v36 w36 ho' hg'; have HO36 := hid_ ho'; have HG36 := hid_ hg'; clear ho' hg'); have hoT := own_eq HO36.out (Nat.zero_add _) (List.nil_append _); obtain ⟨AT, cT, rfl, _, _⟩ := own_shape hoT; have HRk := hid_ (own_rd hoT); clear hoT; have HB1 := hid_ (below_push ((Below.refl wq.heap.size wq).alloc (Nat.le_refl _) (.cells #[] 3)) (own_empty wq 3 1) HG36.out (by simp)); have hs1_ := HB1.out.size)
            | ((at_builtin; (with_reducible change wpList _ _ _ (⟨some 41, _, _, _, _, _⟩ :: _) _ _); refine wpList_append_rdg _ rfl _ _ 26 rfl w36.heap.size 3 (.int .i64 0) 1 8 Try.underlying26 int_info rfl (by decide) (by decide) _ _ _ (own_empty w36 3 1) rfl _ _ _ _ ((HTk.out.below HB1.out).alloc _) rfl (intC_one _) (by omega) (by simp) ?_; intro v41 w41 ho' hg'; have HO41 := hid_ ho'; have HG41 := hid_ hg'; clear ho' hg'); have HB2_ := hid_ (below_push ((Below.refl w36.heap.size w36).alloc (Nat.le_refl _) (.cells #[] 3)) (own_empty w36 3 1) HG41.out (by simp)); have hs2_ := HB2_.out.size)
            | ((at_builtin; (with_reducible change wpList _ _ _ (⟨some 44, _, _, _, _, _⟩ :: _) _ _); refine wpList_append_rdg _ rfl _ _ 26 rfl w36.heap.size 3 (.int .i64 0) 1 8 Try.underlying26 int_info rfl (by decide) (by decide) _ _ _ (HO41.out.alloc _) rfl _ _ _ _ (rd_int1 _ (k : Int) _ (by first | rfl | simp)) rfl (intC_one [(k : Int)]) (by omega) (by simp; omega) ?_; intro v44 w44 ho' hg'; have HO44 := hid_ ho'; have HG44 := hid_ hg'; clear ho' hg'); have HB3_ := hid_ (below_push (HB2_.out.alloc hs2_ (.cells #[.int .i64 (k : Int)] 3)) (HO41.out.alloc _) HG44.out (by simp; omega)); have hs3_ := HB3_.out.size)
            | ((at_builtin; (with_reducible change wpList _ _ _ (⟨some 46, _, _, _, _, _⟩ :: _) _ _); refine wpList_append_rdg _ rfl _ _ 26 rfl w36.heap.size 3 (.int .i64 0) 1 8 Try.underlying26 int_info rfl (by decide) (by decide) _ _ _ HO44.out rfl _ _ _ _ (HRk.out.below HB3_.out) rfl (intC_one _) (by omega) hs3_ ?_; intro v46 w46 ho' hg'; have HO46 := hid_ ho'; have HG46 := hid_ hg'; clear ho' hg'); have HB4_ := hid_ (below_push HB3_.out HO44.out HG46.out hs3_)))
          have HBz := hid_ (HB1.out.trans (HB4_.out.mono hs1_))
          have HOz := HO46
          go_returns
          refine RSl.of_own' (own_base HOz.out (by omega)) (HB0.out.trans (HBz.out.mono hbq)) (by omega) ?_
          have hpf := HPF.out
          unfold insK
          rw [HN2.out, hpf]
          simp [intC]
    · obtain ⟨p1, hp1⟩ : ∃ p1, p = p1 + 1 := ⟨p - 1, by omega⟩
      have hp1l : p1 < o.length := by rw [HN2.out]; omega
      obtain ⟨b2, o2, rfl, y0⟩ := (HR2.out.below HB.out).int p1 (by omega) HN2.out
      obtain ⟨x, hx⟩ : ∃ x, o[p1] = x := ⟨_, rfl⟩
      have hxb := HX.out o[p1] (List.getElem_mem hp1l)
      rw [hx] at y0 hxb
      obtain ⟨xn, rfl⟩ := Int.eq_ofNat_of_zero_le hxb.1
      have hxn : xn < n := by omega
      obtain ⟨b1, o1, rfl, z0, z1, z2⟩ := (HR.out.below HB.out).rq xn hxn HN.out
      obtain ⟨b1', o1', e', u0, u1, u2⟩ := (HR.out.below HB.out).rq k hk HN.out
      injection e' with e'
      injection e' with e1 e2
      subst e1; subst e2
      rw [← atK_nat l xn (by rw [HN.out]; exact hxn)] at z0
      rw [← atK_nat l k (by rw [HN.out]; exact hk)] at u0
      have hst := posF_step (l := l) (k := k) hp1l
      rw [hx] at hst
      have HST := hid_ hst; clear hst
      obtain ⟨ax, hax⟩ : ∃ ax, atK l (xn : Int) = ax := ⟨_, rfl⟩
      obtain ⟨ak, hak⟩ : ∃ ak, atK l (k : Int) = ak := ⟨_, rfl⟩
      rw [hax] at z0 HST
      rw [hak] at u0 HST
      rw [← hp1] at HST
      have r1 : (p : Int) - 1 = (p1 : Int) := by omega
      have hg0 : decide (0 < p) = true := decide_eq_true (by omega)
      have hp1n : (p1 : Int) < (n2 : Int) := by omega
      have hxz : (xn : Int) < (n : Int) := by omega
      have hkz : (k : Int) < (n : Int) := by omega
      have hp1le : p1 ≤ n2 := by omega
      have HP1 := hid_ hp1
      clear hx hax hak hp1 h0 hp1l z1 z2 u1 u2 hxb
      by_cases hlt : ak < ax
      · have HQ := hid_ (HST.out.trans (if_pos hlt))
        have hd : decide (ak < ax) = true := decide_eq_true hlt
        go_wp2_with fail
        go_quiet (fail)
        go_wp2
        go_roundw
        case rel => exact ⟨p1, rfl, hp1le, HP.out.trans HQ.out, bdN HB.out _⟩
        case measure => simp only [intOf]; have := HP1.out; omega
      · have HPF := hid_ (show posF l o k n2 = p by rw [HP.out, HST.out, if_neg hlt])
        have hd : decide (ak < ax) = false := decide_eq_false hlt
        clear HST HP HP1
        go_wp2_with fail
        go_quiet (fail)
        have HB0 := hid_ (bdN HB.out nq)
        generalize wr.drewN nq = wq at HB0 ⊢
        have hbq := HB0.out.size
        have HRo := hid_ (HR2.out.below HB0.out)
        by_cases hcp : c2 = p
        · obtain rfl : n2 = p := by omega
          obtain rfl : n2 = c2 := by omega
          have HTl := hid_ (show Rd wq 1 (some ⟨b2, o2, none⟩) 0 (intC (o.drop n2)) from by rw [List.drop_of_length_le (by rw [HN2.out]; exact Nat.le_refl _)]; exact Rd.nil wq 1 (some ⟨b2, o2, none⟩))
          have hTk := HRo.out.take (m := n2) (by omega)
          rw [intC_take] at hTk
          have HTk := hid_ hTk; clear hTk
          go_wp2_with (first
            | ((at_builtin; (with_reducible change wpList _ _ _ (⟨some 36, _, _, _, _, _⟩ :: _) _ _); refine wpList_append_rdg _ rfl _ _ 26 rfl wq.heap.size 3 (.int .i64 0) 1 8 Try.underlying26 int_info rfl (by decide) (by decide) _ _ _ (own_empty wq 3 1) rfl _ _ _ _ (HTl.out.alloc _) rfl (intC_one _) (by omega) (by simp) ?_; intro v36 w36 ho' hg'; have HO36 := hid_ ho'; have HG36 := hid_ hg'; clear ho' hg'); have hoT := own_eq HO36.out (Nat.zero_add _) (List.nil_append _); obtain ⟨AT, cT, rfl, _, _⟩ := own_shape hoT; have HRk := hid_ (own_rd hoT); clear hoT; have HB1 := hid_ (below_push ((Below.refl wq.heap.size wq).alloc (Nat.le_refl _) (.cells #[] 3)) (own_empty wq 3 1) HG36.out (by simp)); have hs1_ := HB1.out.size)
            | ((at_builtin; (with_reducible change wpList _ _ _ (⟨some 41, _, _, _, _, _⟩ :: _) _ _); refine wpList_append_rdg _ rfl _ _ 26 rfl w36.heap.size 3 (.int .i64 0) 1 8 Try.underlying26 int_info rfl (by decide) (by decide) _ _ _ (own_empty w36 3 1) rfl _ _ _ _ ((HTk.out.below HB1.out).alloc _) rfl (intC_one _) (by omega) (by simp) ?_; intro v41 w41 ho' hg'; have HO41 := hid_ ho'; have HG41 := hid_ hg'; clear ho' hg'); have HB2_ := hid_ (below_push ((Below.refl w36.heap.size w36).alloc (Nat.le_refl _) (.cells #[] 3)) (own_empty w36 3 1) HG41.out (by simp)); have hs2_ := HB2_.out.size)
            | ((at_builtin; (with_reducible change wpList _ _ _ (⟨some 44, _, _, _, _, _⟩ :: _) _ _); refine wpList_append_rdg _ rfl _ _ 26 rfl w36.heap.size 3 (.int .i64 0) 1 8 Try.underlying26 int_info rfl (by decide) (by decide) _ _ _ (HO41.out.alloc _) rfl _ _ _ _ (rd_int1 _ (k : Int) _ (by first | rfl | simp)) rfl (intC_one [(k : Int)]) (by omega) (by simp; omega) ?_; intro v44 w44 ho' hg'; have HO44 := hid_ ho'; have HG44 := hid_ hg'; clear ho' hg'); have HB3_ := hid_ (below_push (HB2_.out.alloc hs2_ (.cells #[.int .i64 (k : Int)] 3)) (HO41.out.alloc _) HG44.out (by simp; omega)); have hs3_ := HB3_.out.size)
            | ((at_builtin; (with_reducible change wpList _ _ _ (⟨some 46, _, _, _, _, _⟩ :: _) _ _); refine wpList_append_rdg _ rfl _ _ 26 rfl w36.heap.size 3 (.int .i64 0) 1 8 Try.underlying26 int_info rfl (by decide) (by decide) _ _ _ HO44.out rfl _ _ _ _ (HRk.out.below HB3_.out) rfl (intC_one _) (by omega) hs3_ ?_; intro v46 w46 ho' hg'; have HO46 := hid_ ho'; have HG46 := hid_ hg'; clear ho' hg'); have HB4_ := hid_ (below_push HB3_.out HO44.out HG46.out hs3_)))
          have HBz := hid_ (HB1.out.trans (HB4_.out.mono hs1_))
          have HOz := HO46
          go_returns
          refine RSl.of_own' (own_base HOz.out (by omega)) (HB0.out.trans (HBz.out.mono hbq)) (by omega) ?_
          have hpf := HPF.out
          unfold insK
          rw [HN2.out, hpf]
          simp [intC]
        · have hpc : (p : Int) ≤ (c2 : Int) := by omega
          have hpn : (p : Int) ≤ (n2 : Int) := by omega
          have hTl := HRo.out.drop hp hc2
          rw [if_neg hcp, intC_drop, Nat.mul_one] at hTl
          simp only [Option.map_some, add_mid, Nat.zero_add] at hTl
          have HTl := hid_ hTl; clear hTl
          have hTk := HRo.out.take (m := p) (by omega)
          rw [intC_take] at hTk
          have HTk := hid_ hTk; clear hTk
          go_wp2_with (first
            | ((at_builtin; (with_reducible change wpList _ _ _ (⟨some 36, _, _, _, _, _⟩ :: _) _ _); refine wpList_append_rdg _ rfl _ _ 26 rfl wq.heap.size 3 (.int .i64 0) 1 8 Try.underlying26 int_info rfl (by decide) (by decide) _ _ _ (own_empty wq 3 1) rfl _ _ _ _ (HTl.out.alloc _) rfl (intC_one _) (by omega) (by simp) ?_; intro v36 w36 ho' hg'; have HO36 := hid_ ho'; have HG36 := hid_ hg'; clear ho' hg'); have hoT := own_eq HO36.out (Nat.zero_add _) (List.nil_append _); obtain ⟨AT, cT, rfl, _, _⟩ := own_shape hoT; have HRk := hid_ (own_rd hoT); clear hoT; have HB1 := hid_ (below_push ((Below.refl wq.heap.size wq).alloc (Nat.le_refl _) (.cells #[] 3)) (own_empty wq 3 1) HG36.out (by simp)); have hs1_ := HB1.out.size)
            | ((at_builtin; (with_reducible change wpList _ _ _ (⟨some 41, _, _, _, _, _⟩ :: _) _ _); refine wpList_append_rdg _ rfl _ _ 26 rfl w36.heap.size 3 (.int .i64 0) 1 8 Try.underlying26 int_info rfl (by decide) (by decide) _ _ _ (own_empty w36 3 1) rfl _ _ _ _ ((HTk.out.below HB1.out).alloc _) rfl (intC_one _) (by omega) (by simp) ?_; intro v41 w41 ho' hg'; have HO41 := hid_ ho'; have HG41 := hid_ hg'; clear ho' hg'); have HB2_ := hid_ (below_push ((Below.refl w36.heap.size w36).alloc (Nat.le_refl _) (.cells #[] 3)) (own_empty w36 3 1) HG41.out (by simp)); have hs2_ := HB2_.out.size)
            | ((at_builtin; (with_reducible change wpList _ _ _ (⟨some 44, _, _, _, _, _⟩ :: _) _ _); refine wpList_append_rdg _ rfl _ _ 26 rfl w36.heap.size 3 (.int .i64 0) 1 8 Try.underlying26 int_info rfl (by decide) (by decide) _ _ _ (HO41.out.alloc _) rfl _ _ _ _ (rd_int1 _ (k : Int) _ (by first | rfl | simp)) rfl (intC_one [(k : Int)]) (by omega) (by simp; omega) ?_; intro v44 w44 ho' hg'; have HO44 := hid_ ho'; have HG44 := hid_ hg'; clear ho' hg'); have HB3_ := hid_ (below_push (HB2_.out.alloc hs2_ (.cells #[.int .i64 (k : Int)] 3)) (HO41.out.alloc _) HG44.out (by simp; omega)); have hs3_ := HB3_.out.size)
            | ((at_builtin; (with_reducible change wpList _ _ _ (⟨some 46, _, _, _, _, _⟩ :: _) _ _); refine wpList_append_rdg _ rfl _ _ 26 rfl w36.heap.size 3 (.int .i64 0) 1 8 Try.underlying26 int_info rfl (by decide) (by decide) _ _ _ HO44.out rfl _ _ _ _ (HRk.out.below HB3_.out) rfl (intC_one _) (by omega) hs3_ ?_; intro v46 w46 ho' hg'; have HO46 := hid_ ho'; have HG46 := hid_ hg'; clear ho' hg'); have HB4_ := hid_ (below_push HB3_.out HO44.out HG46.out hs3_)))
          have HBz := hid_ (HB1.out.trans (HB4_.out.mono hs1_))
          have HOz := HO46
          go_returns
          refine RSl.of_own' (own_base HOz.out (by omega)) (HB0.out.trans (HBz.out.mono hbq)) (by omega) ?_
          have hpf := HPF.out
          unfold insK
          rw [HN2.out, hpf]
          simp [intC]
end Go.Proofs.Ytfelfopcmkeimaa
