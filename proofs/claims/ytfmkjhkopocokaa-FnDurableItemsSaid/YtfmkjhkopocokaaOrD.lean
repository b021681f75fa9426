/-
  Orders: what is drawn.
-/
import Derived.Test.YtfmkjhkopocokaaItD
import Derived.Test.YtfmkjhkopocokaaOrA
import Derived.Test.YtfmkjhkopocokaaSemT
namespace Go.Proofs.Ytfmkjhkopocokaa
open Go.ChangeShapes Go.WideShapes Go.ChangeAt Go.RowKit Go.BigFrame

theorem intC_drop_ (l : List Int) (m : Nat) : (intC l).drop (m * 1) = intC (l.drop m) := by simp [intC, List.map_drop]
theorem rd_int1 (w : World) (k : Int) (g : Nat) (hg : w.heap.size = g) : Rd (w.alloc (.cells #[.int .i64 k] 3)) 1 (some ⟨g, 0, none⟩) 1 (intC [k]) := by
  subst hg
  refine ⟨rfl, fun _ => ⟨w.heap.size, 0, rfl, fun j u hu => ?_⟩⟩
  match j, hu with
  | 0, hu => rw [← Option.some.inj hu]; simp [go_sem]
theorem intC_take (l : List Int) (m : Nat) : (intC l).take (m * 1) = intC (l.take m) := by simp [intC, List.map_take]
theorem ins_mem {l : List Int} {k p : Nat} (h : ∀ x ∈ l, 0 ≤ x ∧ x < (k : Int)) : ∀ x ∈ l.take p ++ [(k : Int)] ++ l.drop p, 0 ≤ x ∧ x < ((k + 1 : Nat) : Int) := by
  intro x hx
  simp only [List.mem_append, List.mem_singleton] at hx
  rcases hx with (hx | hx) | hx
  · have := h x (List.mem_of_mem_take hx); omega
  · omega
  · have := h x (List.mem_of_mem_drop hx); omega

/-- what odd answers, with the bound that a yes tells -/
def OddP (g : Nat) (p n : Int) (w : World) (e : Ending) (w' : World) : Prop :=
  ∃ b : Bool, e = .returned (.bool b) ∧ (b = true → 0 < n) ∧ Rdr w' g (p + 1) ∧ w.grownBy w' (some g)
set_option maxHeartbeats 1000000 in
theorem oddP_any (g : Nat) (p n : Int) (w : World) (hp : p ≤ 1000000) (hn1 : -1000000 ≤ n) (hn : n ≤ 1000000) (hR : Rdr w g p) :
    Calls Try.prog 49 #[.pointer (some ⟨g, 0, none⟩), .int .i64 n] w (OddP g p n w) := by
  have HR := hid_ hR; clear hR
  by_cases hn0 : 0 < n
  · go_enter Try.func49, Try.ntmps49
    go_wp2_with (go_at_call 50; refine (pick_any g p n _ hp hn1 hn HR.out).mono ?_; rintro e w1 ⟨k, rfl, k0, k1, k2, hr1, hg1⟩)
    go_returns
    exact ⟨_, rfl, fun _ => hn0, hr1, hg1⟩
  · go_enter Try.func49, Try.ntmps49
    go_wp2
    go_returns
    exact ⟨false, rfl, by simp, HR.out.mono (by omega), World.grownBy.refl _ _⟩

theorem intC_set_ (X : List Int) (i : Nat) (v : Int) : (intC X).set i (.int .i64 v) = intC (X.set i v) := by simp [intC, List.map_set]
/-- what the last region's slots hold -/
def envOrd (g g2 m c : Nat) (x : Int) : Nat → SV
  | 0 => .val (.pointer (some ⟨g, 0, none⟩))
  | 59 => .val (.pointer (some ⟨g, 0, none⟩))
  | 68 => .val (.pointer (some ⟨g, 0, none⟩))
  | 1 => .val (.int .i64 m)
  | 63 => .val (.int .i64 m)
  | 61 => .val (.int .i64 m)
  | 7 => .val (.slice (some ⟨g2, 0, none⟩) m c)
  | 58 => .val (.slice (some ⟨g2, 0, none⟩) m c)
  | 60 => .val (.slice (some ⟨g2, 0, none⟩) m c)
  | 64 => .val (.slice (some ⟨g2, 0, none⟩) m c)
  | 62 => .int 0 ((m : Int) - 1)
  | 65 => .val (.pointer (some ⟨g2, 0, none⟩))
  | 66 => .val (.int .i64 x)
  | 67 => .tab 3 (-1) m
  | 69 => .int 0 ((3 : Nat) - 1)
  | 70 => .ad (-1) m
  | 71 => .int (-1) m
  | 72 => .el g2 m 1
  | _ => .boo

/-- k numbers have been inserted -/
def OrdAt (w : World) (g : Nat) (p0 : Int) (many : Nat) (v vk : Value) (wr : World) : Prop :=
  ∃ (k m : Nat) (l : List Int), k ≤ many ∧ vk = .int .i64 k ∧ l.length = m ∧ m = k ∧ wr.ownsRow w.heap.size 3 1 v m (intC l) ∧ (∀ x ∈ l, 0 ≤ x ∧ x < (k : Int)) ∧ Rdr wr g (p0 + 1 + 2 * k) ∧ w.grownBy wr (some g)

/-- a drawn order, of the call's own -/
def DrawnO (g : Nat) (q : Int) (many : Nat) (n : Int) (w : World) (e : Ending) (w' : World) : Prop :=
  ∃ (l : List Int) (A : Option Addr) (c : Nat), e = .returned (.slice A l.length c) ∧ l.length = many ∧ (∀ x ∈ l, -1 ≤ x ∧ x ≤ (many : Int)) ∧ (n ≤ 0 → ∀ x ∈ l, 0 ≤ x ∧ x < (many : Int)) ∧ l.length ≤ c ∧ c ≤ maxLen ∧ w'.ownsRow w.heap.size 3 1 (.slice A l.length c) l.length (intC l) ∧ Rdr w' g q ∧ w.grownBy w' (some g)
theorem DrawnO.mk_ {g : Nat} {q p : Int} {many : Nat} {n : Int} {w w' : World} {v : Value} (l : List Int) (hl : l.length = many) (h1 : ∀ x ∈ l, -1 ≤ x ∧ x ≤ (many : Int)) (h2 : n ≤ 0 → ∀ x ∈ l, 0 ≤ x ∧ x < (many : Int)) (ho : w'.ownsRow w.heap.size 3 1 v l.length (intC l)) (hR : Rdr w' g p) (hp : p ≤ q) (hg : w.grownBy w' (some g)) : DrawnO g q many n w (.returned v) w' := by
  obtain ⟨A, c, rfl, h3, h4⟩ := own_shape ho
  exact ⟨l, A, c, rfl, hl, h1, h2, h3, h4, ho, hR.mono hp, hg⟩

set_option maxHeartbeats 4000000 in
set_option maxRecDepth 100000 in
theorem l20Order_any (g : Nat) (p0 : Int) (many : Nat) (n : Int) (w : World) (hm : many ≤ 100) (h0 : 0 ≤ p0) (hp0 : p0 ≤ 10000) (hn1 : -1000000 ≤ n) (hn : n ≤ 1000000) (hR : Rdr w g p0) :
    Calls Try.prog 46 #[.pointer (some ⟨g, 0, none⟩), .int .i64 (many : Int), .int .i64 n] w (DrawnO g (p0 + 2 * many + 20) many n w) := by
  have hlt := hR.lt
  have HR := hid_ (hR.alloc (.cells #[] 3)); clear hR
  have G := hid_ (World.grownBy_alloc w (.cells #[] 3) (some g))
  have HO := hid_ (own_empty w 3 1)
  go_enter Try.func46, Try.ntmps46
  go_wp2_with fail
  refine (pick_any g (p0) 2 _ (by omega) (by omega) (by omega) HR.out).mono ?_
  rintro e w1 ⟨k1, rfl, hk10, hk11, hx_, hr_, hg_⟩
  replace hk11 := hk11 (by omega)
  clear hx_
  have HGo := hid_ hg_
  have hs_hg_ := hg_.size
  try simp only [World.size_alloc, World.size_setCell] at hs_hg_
  replace HO := hid_ (own_pick HO.out hg_ hlt)
  replace G := hid_ (gb_trans G.out hg_); clear hg_
  replace HR := hid_ hr_; clear hr_
  have hk1 : k1 = 0 ∨ k1 = 1 := by omega
  rcases hk1 with rfl | rfl
  · go_wp2
    go_loopw [7, 9] (fun v vk wr => OrdAt w g p0 many v vk wr) (fun _ vk _ => many - (intOf vk).toNat)
    case atStart => exact ⟨0, 0, [], Nat.zero_le _, rfl, rfl, rfl, HO.out, fun x hx => by simp at hx, HR.out.mono (by omega), G.out⟩
    case round =>
      unfold OrdAt at hrel
      obtain ⟨k, m, l, hk, rfl, hl, hkm, ho, hmem, hr, hg⟩ := hrel
      have HKM := hid_ hkm
      have hm101 : m ≤ 100 := by omega
      clear hkm
      clear HO HR G
      have HL := hid_ hl; clear hl
      have HM := hid_ hmem; clear hmem
      have HO := hid_ ho; clear ho
      have HR := hid_ hr; clear hr
      have G := hid_ hg; clear hg
      have hsz := G.out.size
      obtain ⟨A, c2, rfl, hc2, hcm2⟩ := own_shape HO.out
      have hcc : c2 ≤ 9223372036854775807 := by unfold maxLen at hcm2; omega
      by_cases hlt2 : k < many
      · go_wp2_with fail
        refine (pick_any g (p0 + 1 + 2 * (k : Int)) 3 _ (by omega) (by omega) (by omega) HR.out).mono ?_
        rintro e wq ⟨k3, rfl, k30, k31, hx_, hr3, hg3⟩
        replace k31 := k31 (by omega)
        clear hx_
        replace HO := hid_ (own_pick HO.out hg3 hlt)
        replace G := hid_ (gb_trans G.out hg3)
        replace HR := hid_ hr3
        clear hr3 hg3
        have hk3 : k3 = 0 ∨ k3 = 1 ∨ k3 = 2 := by omega
        clear k30 k31
        rcases hk3 with rfl | hk3
        · go_wp2_with fail
          refine (pick_any g (p0 + 1 + 2 * (k : Int) + 1) ((m : Int) + 1) _ (by omega) (by omega) (by omega) HR.out).mono ?_
          rintro e wq ⟨k4, rfl, k40, k41, hx_, hr4, hg4⟩
          replace k41 := k41 (by omega)
          clear hx_
          obtain ⟨p, rfl⟩ := Int.eq_ofNat_of_zero_le k40
          have HOb := hid_ (own_pick HO.out hg4 hlt)
          have Gb := hid_ (gb_trans G.out hg4)
          have HRb := hid_ (hr4.mono (show p0 + 1 + 2 * (k : Int) + 1 + 1 ≤ p0 + 1 + 2 * ((k + 1 : Nat) : Int) by omega))
          clear HO HR G hr4 hg4
          have hpk : p ≤ m := by omega
          have hpz : (p : Int) ≤ (m : Int) := by omega
          have hbq := Gb.out.size
          have hRo := own_rd HOb.out
          have HCASE := hid_ (show (A = none ∧ m = 0 ∧ c2 = 0) ∨ ∃ g2, A = some ⟨g2, 0, none⟩ from by
            rcases HOb.out.2 with ⟨h, _⟩ | ⟨g, cap, cur, h, _⟩
            · injection h with h1 h2 h3; exact .inl ⟨h1, h2, h3⟩
            · injection h with h1 h2 h3; exact .inr ⟨g, h1⟩)
          rcases HCASE.out with ⟨hA, hk0, hc0⟩ | ⟨g2, hA⟩
          · subst hA; subst hc0; subst hk0
            clear HCASE
            try (obtain rfl : p = 0 := by omega)
            have HRo := hid_ hRo; clear hRo
            have HTl := hid_ (show Rd wq 1 none 0 (intC (l.drop 0)) from by rw [List.eq_nil_of_length_eq_zero HL.out]; exact Rd.nil wq 1 none)
            have hTk := HRo.out.take (m := 0) (by omega)
            rw [intC_take] at hTk
            have HTk := hid_ hTk; clear hTk
            go_wp2_with (first
              | ((at_builtin; (with_reducible change wpList _ _ _ (⟨some 39, _, _, _, _, _⟩ :: _) _ _); refine wpList_append_rdg _ rfl _ _ 38 rfl wq.heap.size 3 (.int .i64 0) 1 8 Try.underlying38 int_info rfl (by decide) (by decide) _ _ _ (own_empty wq 3 1) rfl _ _ _ _ (HTl.out.alloc _) rfl (intC_one _) (by omega) (by simp) ?_; intro v39 w39 ho' hg'; have HO39 := hid_ ho'; have HG39 := hid_ hg'; clear ho' hg'); have hoT := own_eq HO39.out (Nat.zero_add _) (List.nil_append _); obtain ⟨AT, cT, rfl, _, _⟩ := own_shape hoT; have HRk := hid_ (own_rd hoT); clear hoT; have HB1 := hid_ (below_push ((Below.refl wq.heap.size wq).alloc (Nat.le_refl _) (.cells #[] 3)) (own_empty wq 3 1) HG39.out (by simp)); have hs1_ := HB1.out.size)
              | ((at_builtin; (with_reducible change wpList _ _ _ (⟨some 44, _, _, _, _, _⟩ :: _) _ _); refine wpList_append_rdg _ rfl _ _ 38 rfl w39.heap.size 3 (.int .i64 0) 1 8 Try.underlying38 int_info rfl (by decide) (by decide) _ _ _ (own_empty w39 3 1) rfl _ _ _ _ ((HTk.out.below HB1.out).alloc _) rfl (intC_one _) (by omega) (by simp) ?_; intro v44 w44 ho' hg'; have HO44 := hid_ ho'; have HG44 := hid_ hg'; clear ho' hg'); have HB2_ := hid_ (below_push ((Below.refl w39.heap.size w39).alloc (Nat.le_refl _) (.cells #[] 3)) (own_empty w39 3 1) HG44.out (by simp)); have hs2_ := HB2_.out.size)
              | ((at_builtin; (with_reducible change wpList _ _ _ (⟨some 47, _, _, _, _, _⟩ :: _) _ _); refine wpList_append_rdg _ rfl _ _ 38 rfl w39.heap.size 3 (.int .i64 0) 1 8 Try.underlying38 int_info rfl (by decide) (by decide) _ _ _ (HO44.out.alloc _) rfl _ _ _ _ (rd_int1 _ (k : Int) _ (by first | rfl | simp)) rfl (intC_one [(k : Int)]) (by omega) (by simp; omega) ?_; intro v47 w47 ho' hg'; have HO47 := hid_ ho'; have HG47 := hid_ hg'; clear ho' hg'); have HB3_ := hid_ (below_push (HB2_.out.alloc hs2_ (.cells #[.int .i64 (k : Int)] 3)) (HO44.out.alloc _) HG47.out (by simp; omega)); have hs3_ := HB3_.out.size)
              | ((at_builtin; (with_reducible change wpList _ _ _ (⟨some 49, _, _, _, _, _⟩ :: _) _ _); refine wpList_append_rdg _ rfl _ _ 38 rfl w39.heap.size 3 (.int .i64 0) 1 8 Try.underlying38 int_info rfl (by decide) (by decide) _ _ _ HO47.out rfl _ _ _ _ (HRk.out.below HB3_.out) rfl (intC_one _) (by omega) hs3_ ?_; intro v49 w49 ho' hg'; have HO49 := hid_ ho'; have HG49 := hid_ hg'; clear ho' hg'); have HB4_ := hid_ (below_push HB3_.out HO47.out HG49.out hs3_)))
            have HBz := hid_ (HB1.out.trans (HB4_.out.mono hs1_))
            have HOz := HO49
            have hs5_ := HBz.out.size
            go_roundw
            case rel =>
              refine ⟨k + 1, k + 1, l.take 0 ++ [(k : Int)] ++ l.drop 0, by omega, by go_num, ?_, rfl, ?_, ins_mem HM.out, HRb.out.below HBz.out, gb_trans Gb.out (gb_of_below HBz.out)⟩
              · have := HL.out; have := HKM.out; simp only [List.length_append, List.length_take, List.length_drop, List.length_singleton]; omega
              · exact own_eq (own_base HOz.out (by omega)) (by have := HL.out; have := HKM.out; omega) (by simp [intC])
            case measure => simp only [intOf]; omega
          · subst hA
            clear HCASE
            have HRo := hid_ hRo; clear hRo
            by_cases hcp : c2 = p
            · try (obtain rfl : m = p := by omega)
              obtain rfl : m = c2 := by omega
              have HTl := hid_ (show Rd wq 1 (some ⟨g2, 0, none⟩) 0 (intC (l.drop m)) from by rw [List.drop_of_length_le (by rw [HL.out]; exact Nat.le_refl _)]; exact Rd.nil wq 1 _)
              have hTk := HRo.out.take (m := m) (by omega)
              rw [intC_take] at hTk
              have HTk := hid_ hTk; clear hTk
              go_wp2_with (first
                | ((at_builtin; (with_reducible change wpList _ _ _ (⟨some 39, _, _, _, _, _⟩ :: _) _ _); refine wpList_append_rdg _ rfl _ _ 38 rfl wq.heap.size 3 (.int .i64 0) 1 8 Try.underlying38 int_info rfl (by decide) (by decide) _ _ _ (own_empty wq 3 1) rfl _ _ _ _ (HTl.out.alloc _) rfl (intC_one _) (by omega) (by simp) ?_; intro v39 w39 ho' hg'; have HO39 := hid_ ho'; have HG39 := hid_ hg'; clear ho' hg'); have hoT := own_eq HO39.out (Nat.zero_add _) (List.nil_append _); obtain ⟨AT, cT, rfl, _, _⟩ := own_shape hoT; have HRk := hid_ (own_rd hoT); clear hoT; have HB1 := hid_ (below_push ((Below.refl wq.heap.size wq).alloc (Nat.le_refl _) (.cells #[] 3)) (own_empty wq 3 1) HG39.out (by simp)); have hs1_ := HB1.out.size)
                | ((at_builtin; (with_reducible change wpList _ _ _ (⟨some 44, _, _, _, _, _⟩ :: _) _ _); refine wpList_append_rdg _ rfl _ _ 38 rfl w39.heap.size 3 (.int .i64 0) 1 8 Try.underlying38 int_info rfl (by decide) (by decide) _ _ _ (own_empty w39 3 1) rfl _ _ _ _ ((HTk.out.below HB1.out).alloc _) rfl (intC_one _) (by omega) (by simp) ?_; intro v44 w44 ho' hg'; have HO44 := hid_ ho'; have HG44 := hid_ hg'; clear ho' hg'); have HB2_ := hid_ (below_push ((Below.refl w39.heap.size w39).alloc (Nat.le_refl _) (.cells #[] 3)) (own_empty w39 3 1) HG44.out (by simp)); have hs2_ := HB2_.out.size)
                | ((at_builtin; (with_reducible change wpList _ _ _ (⟨some 47, _, _, _, _, _⟩ :: _) _ _); refine wpList_append_rdg _ rfl _ _ 38 rfl w39.heap.size 3 (.int .i64 0) 1 8 Try.underlying38 int_info rfl (by decide) (by decide) _ _ _ (HO44.out.alloc _) rfl _ _ _ _ (rd_int1 _ (k : Int) _ (by first | rfl | simp)) rfl (intC_one [(k : Int)]) (by omega) (by simp; omega) ?_; intro v47 w47 ho' hg'; have HO47 := hid_ ho'; have HG47 := hid_ hg'; clear ho' hg'); have HB3_ := hid_ (below_push (HB2_.out.alloc hs2_ (.cells #[.int .i64 (k : Int)] 3)) (HO44.out.alloc _) HG47.out (by simp; omega)); have hs3_ := HB3_.out.size)
                | ((at_builtin; (with_reducible change wpList _ _ _ (⟨some 49, _, _, _, _, _⟩ :: _) _ _); refine wpList_append_rdg _ rfl _ _ 38 rfl w39.heap.size 3 (.int .i64 0) 1 8 Try.underlying38 int_info rfl (by decide) (by decide) _ _ _ HO47.out rfl _ _ _ _ (HRk.out.below HB3_.out) rfl (intC_one _) (by omega) hs3_ ?_; intro v49 w49 ho' hg'; have HO49 := hid_ ho'; have HG49 := hid_ hg'; clear ho' hg'); have HB4_ := hid_ (below_push HB3_.out HO47.out HG49.out hs3_)))
              have HBz := hid_ (HB1.out.trans (HB4_.out.mono hs1_))
              have HOz := HO49
              have hs5_ := HBz.out.size
              go_roundw
              case rel =>
                refine ⟨k + 1, k + 1, l.take m ++ [(k : Int)] ++ l.drop m, by omega, by go_num, ?_, rfl, ?_, ins_mem HM.out, HRb.out.below HBz.out, gb_trans Gb.out (gb_of_below HBz.out)⟩
                · have := HL.out; have := HKM.out; simp only [List.length_append, List.length_take, List.length_drop, List.length_singleton]; omega
                · exact own_eq (own_base HOz.out (by omega)) (by have := HL.out; have := HKM.out; omega) (by simp [intC])
              case measure => simp only [intOf]; omega
            · have hTl := HRo.out.drop (m := p) (by omega) hc2
              rw [if_neg hcp, intC_drop_, Nat.mul_one] at hTl
              simp only [Option.map_some, add_mid, Nat.zero_add, Nat.sub_self] at hTl
              have HTl := hid_ hTl; clear hTl
              have hTk := HRo.out.take (m := p) (by omega)
              rw [intC_take] at hTk
              have HTk := hid_ hTk; clear hTk
              go_wp2_with (first
                | ((at_builtin; (with_reducible change wpList _ _ _ (⟨some 39, _, _, _, _, _⟩ :: _) _ _); refine wpList_append_rdg _ rfl _ _ 38 rfl wq.heap.size 3 (.int .i64 0) 1 8 Try.underlying38 int_info rfl (by decide) (by decide) _ _ _ (own_empty wq 3 1) rfl _ _ _ _ (HTl.out.alloc _) rfl (intC_one _) (by omega) (by simp) ?_; intro v39 w39 ho' hg'; have HO39 := hid_ ho'; have HG39 := hid_ hg'; clear ho' hg'); have hoT := own_eq HO39.out (Nat.zero_add _) (List.nil_append _); obtain ⟨AT, cT, rfl, _, _⟩ := own_shape hoT; have HRk := hid_ (own_rd hoT); clear hoT; have HB1 := hid_ (below_push ((Below.refl wq.heap.size wq).alloc (Nat.le_refl _) (.cells #[] 3)) (own_empty wq 3 1) HG39.out (by simp)); have hs1_ := HB1.out.size)
                | ((at_builtin; (with_reducible change wpList _ _ _ (⟨some 44, _, _, _, _, _⟩ :: _) _ _); refine wpList_append_rdg _ rfl _ _ 38 rfl w39.heap.size 3 (.int .i64 0) 1 8 Try.underlying38 int_info rfl (by decide) (by decide) _ _ _ (own_empty w39 3 1) rfl _ _ _ _ ((HTk.out.below HB1.out).alloc _) rfl (intC_one _) (by omega) (by simp) ?_; intro v44 w44 ho' hg'; have HO44 := hid_ ho'; have HG44 := hid_ hg'; clear ho' hg'); have HB2_ := hid_ (below_push ((Below.refl w39.heap.size w39).alloc (Nat.le_refl _) (.cells #[] 3)) (own_empty w39 3 1) HG44.out (by simp)); have hs2_ := HB2_.out.size)
                | ((at_builtin; (with_reducible change wpList _ _ _ (⟨some 47, _, _, _, _, _⟩ :: _) _ _); refine wpList_append_rdg _ rfl _ _ 38 rfl w39.heap.size 3 (.int .i64 0) 1 8 Try.underlying38 int_info rfl (by decide) (by decide) _ _ _ (HO44.out.alloc _) rfl _ _ _ _ (rd_int1 _ (k : Int) _ (by first | rfl | simp)) rfl (intC_one [(k : Int)]) (by omega) (by simp; omega) ?_; intro v47 w47 ho' hg'; have HO47 := hid_ ho'; have HG47 := hid_ hg'; clear ho' hg'); have HB3_ := hid_ (below_push (HB2_.out.alloc hs2_ (.cells #[.int .i64 (k : Int)] 3)) (HO44.out.alloc _) HG47.out (by simp; omega)); have hs3_ := HB3_.out.size)
                | ((at_builtin; (with_reducible change wpList _ _ _ (⟨some 49, _, _, _, _, _⟩ :: _) _ _); refine wpList_append_rdg _ rfl _ _ 38 rfl w39.heap.size 3 (.int .i64 0) 1 8 Try.underlying38 int_info rfl (by decide) (by decide) _ _ _ HO47.out rfl _ _ _ _ (HRk.out.below HB3_.out) rfl (intC_one _) (by omega) hs3_ ?_; intro v49 w49 ho' hg'; have HO49 := hid_ ho'; have HG49 := hid_ hg'; clear ho' hg'); have HB4_ := hid_ (below_push HB3_.out HO47.out HG49.out hs3_)))
              have HBz := hid_ (HB1.out.trans (HB4_.out.mono hs1_))
              have HOz := HO49
              have hs5_ := HBz.out.size
              go_roundw
              case rel =>
                refine ⟨k + 1, k + 1, l.take p ++ [(k : Int)] ++ l.drop p, by omega, by go_num, ?_, rfl, ?_, ins_mem HM.out, HRb.out.below HBz.out, gb_trans Gb.out (gb_of_below HBz.out)⟩
                · have := HL.out; have := HKM.out; simp only [List.length_append, List.length_take, List.length_drop, List.length_singleton]; omega
                · exact own_eq (own_base HOz.out (by omega)) (by have := HL.out; have := HKM.out; omega) (by simp [intC])
              case measure => simp only [intOf]; omega
        · have HOb := HO
          have Gb := G
          have HRb := hid_ (HR.out.mono (show p0 + 1 + 2 * (k : Int) + 1 ≤ p0 + 1 + 2 * ((k + 1 : Nat) : Int) by omega))
          clear HO HR G
          have hpz : (m : Int) ≤ (m : Int) := Int.le_refl _
          clear hpz
          rcases hk3 with rfl | rfl
          · have hbq := Gb.out.size
            have hRo := own_rd HOb.out
            have HCASE := hid_ (show (A = none ∧ m = 0 ∧ c2 = 0) ∨ ∃ g2, A = some ⟨g2, 0, none⟩ from by
              rcases HOb.out.2 with ⟨h, _⟩ | ⟨g, cap, cur, h, _⟩
              · injection h with h1 h2 h3; exact .inl ⟨h1, h2, h3⟩
              · injection h with h1 h2 h3; exact .inr ⟨g, h1⟩)
            rcases HCASE.out with ⟨hA, hk0, hc0⟩ | ⟨g2, hA⟩
            · subst hA; subst hc0; subst hk0
              clear HCASE
              try (obtain rfl : m = 0 := by omega)
              have HRo := hid_ hRo; clear hRo
              have HTl := hid_ (show Rd wq 1 none 0 (intC (l.drop 0)) from by rw [List.eq_nil_of_length_eq_zero HL.out]; exact Rd.nil wq 1 none)
              have hTk := HRo.out.take (m := 0) (by omega)
              rw [intC_take] at hTk
              have HTk := hid_ hTk; clear hTk
              go_wp2_with (first
                | ((at_builtin; (with_reducible change wpList _ _ _ (⟨some 39, _, _, _, _, _⟩ :: _) _ _); refine wpList_append_rdg _ rfl _ _ 38 rfl wq.heap.size 3 (.int .i64 0) 1 8 Try.underlying38 int_info rfl (by decide) (by decide) _ _ _ (own_empty wq 3 1) rfl _ _ _ _ (HTl.out.alloc _) rfl (intC_one _) (by omega) (by simp) ?_; intro v39 w39 ho' hg'; have HO39 := hid_ ho'; have HG39 := hid_ hg'; clear ho' hg'); have hoT := own_eq HO39.out (Nat.zero_add _) (List.nil_append _); obtain ⟨AT, cT, rfl, _, _⟩ := own_shape hoT; have HRk := hid_ (own_rd hoT); clear hoT; have HB1 := hid_ (below_push ((Below.refl wq.heap.size wq).alloc (Nat.le_refl _) (.cells #[] 3)) (own_empty wq 3 1) HG39.out (by simp)); have hs1_ := HB1.out.size)
                | ((at_builtin; (with_reducible change wpList _ _ _ (⟨some 44, _, _, _, _, _⟩ :: _) _ _); refine wpList_append_rdg _ rfl _ _ 38 rfl w39.heap.size 3 (.int .i64 0) 1 8 Try.underlying38 int_info rfl (by decide) (by decide) _ _ _ (own_empty w39 3 1) rfl _ _ _ _ ((HTk.out.below HB1.out).alloc _) rfl (intC_one _) (by omega) (by simp) ?_; intro v44 w44 ho' hg'; have HO44 := hid_ ho'; have HG44 := hid_ hg'; clear ho' hg'); have HB2_ := hid_ (below_push ((Below.refl w39.heap.size w39).alloc (Nat.le_refl _) (.cells #[] 3)) (own_empty w39 3 1) HG44.out (by simp)); have hs2_ := HB2_.out.size)
                | ((at_builtin; (with_reducible change wpList _ _ _ (⟨some 47, _, _, _, _, _⟩ :: _) _ _); refine wpList_append_rdg _ rfl _ _ 38 rfl w39.heap.size 3 (.int .i64 0) 1 8 Try.underlying38 int_info rfl (by decide) (by decide) _ _ _ (HO44.out.alloc _) rfl _ _ _ _ (rd_int1 _ (k : Int) _ (by first | rfl | simp)) rfl (intC_one [(k : Int)]) (by omega) (by simp; omega) ?_; intro v47 w47 ho' hg'; have HO47 := hid_ ho'; have HG47 := hid_ hg'; clear ho' hg'); have HB3_ := hid_ (below_push (HB2_.out.alloc hs2_ (.cells #[.int .i64 (k : Int)] 3)) (HO44.out.alloc _) HG47.out (by simp; omega)); have hs3_ := HB3_.out.size)
                | ((at_builtin; (with_reducible change wpList _ _ _ (⟨some 49, _, _, _, _, _⟩ :: _) _ _); refine wpList_append_rdg _ rfl _ _ 38 rfl w39.heap.size 3 (.int .i64 0) 1 8 Try.underlying38 int_info rfl (by decide) (by decide) _ _ _ HO47.out rfl _ _ _ _ (HRk.out.below HB3_.out) rfl (intC_one _) (by omega) hs3_ ?_; intro v49 w49 ho' hg'; have HO49 := hid_ ho'; have HG49 := hid_ hg'; clear ho' hg'); have HB4_ := hid_ (below_push HB3_.out HO47.out HG49.out hs3_)))
              have HBz := hid_ (HB1.out.trans (HB4_.out.mono hs1_))
              have HOz := HO49
              have hs5_ := HBz.out.size
              go_roundw
              case rel =>
                refine ⟨k + 1, k + 1, l.take 0 ++ [(k : Int)] ++ l.drop 0, by omega, by go_num, ?_, rfl, ?_, ins_mem HM.out, HRb.out.below HBz.out, gb_trans Gb.out (gb_of_below HBz.out)⟩
                · have := HL.out; have := HKM.out; simp only [List.length_append, List.length_take, List.length_drop, List.length_singleton]; omega
                · exact own_eq (own_base HOz.out (by omega)) (by have := HL.out; have := HKM.out; omega) (by simp [intC])
              case measure => simp only [intOf]; omega
            · subst hA
              clear HCASE
              have HRo := hid_ hRo; clear hRo
              by_cases hcp : c2 = m
              · try (obtain rfl : m = m := by omega)
                obtain rfl : m = c2 := by omega
                have HTl := hid_ (show Rd wq 1 (some ⟨g2, 0, none⟩) 0 (intC (l.drop m)) from by rw [List.drop_of_length_le (by rw [HL.out]; exact Nat.le_refl _)]; exact Rd.nil wq 1 _)
                have hTk := HRo.out.take (m := m) (by omega)
                rw [intC_take] at hTk
                have HTk := hid_ hTk; clear hTk
                go_wp2_with (first
                  | ((at_builtin; (with_reducible change wpList _ _ _ (⟨some 39, _, _, _, _, _⟩ :: _) _ _); refine wpList_append_rdg _ rfl _ _ 38 rfl wq.heap.size 3 (.int .i64 0) 1 8 Try.underlying38 int_info rfl (by decide) (by decide) _ _ _ (own_empty wq 3 1) rfl _ _ _ _ (HTl.out.alloc _) rfl (intC_one _) (by omega) (by simp) ?_; intro v39 w39 ho' hg'; have HO39 := hid_ ho'; have HG39 := hid_ hg'; clear ho' hg'); have hoT := own_eq HO39.out (Nat.zero_add _) (List.nil_append _); obtain ⟨AT, cT, rfl, _, _⟩ := own_shape hoT; have HRk := hid_ (own_rd hoT); clear hoT; have HB1 := hid_ (below_push ((Below.refl wq.heap.size wq).alloc (Nat.le_refl _) (.cells #[] 3)) (own_empty wq 3 1) HG39.out (by simp)); have hs1_ := HB1.out.size)
                  | ((at_builtin; (with_reducible change wpList _ _ _ (⟨some 44, _, _, _, _, _⟩ :: _) _ _); refine wpList_append_rdg _ rfl _ _ 38 rfl w39.heap.size 3 (.int .i64 0) 1 8 Try.underlying38 int_info rfl (by decide) (by decide) _ _ _ (own_empty w39 3 1) rfl _ _ _ _ ((HTk.out.below HB1.out).alloc _) rfl (intC_one _) (by omega) (by simp) ?_; intro v44 w44 ho' hg'; have HO44 := hid_ ho'; have HG44 := hid_ hg'; clear ho' hg'); have HB2_ := hid_ (below_push ((Below.refl w39.heap.size w39).alloc (Nat.le_refl _) (.cells #[] 3)) (own_empty w39 3 1) HG44.out (by simp)); have hs2_ := HB2_.out.size)
                  | ((at_builtin; (with_reducible change wpList _ _ _ (⟨some 47, _, _, _, _, _⟩ :: _) _ _); refine wpList_append_rdg _ rfl _ _ 38 rfl w39.heap.size 3 (.int .i64 0) 1 8 Try.underlying38 int_info rfl (by decide) (by decide) _ _ _ (HO44.out.alloc _) rfl _ _ _ _ (rd_int1 _ (k : Int) _ (by first | rfl | simp)) rfl (intC_one [(k : Int)]) (by omega) (by simp; omega) ?_; intro v47 w47 ho' hg'; have HO47 := hid_ ho'; have HG47 := hid_ hg'; clear ho' hg'); have HB3_ := hid_ (below_push (HB2_.out.alloc hs2_ (.cells #[.int .i64 (k : Int)] 3)) (HO44.out.alloc _) HG47.out (by simp; omega)); have hs3_ := HB3_.out.size)
                  | ((at_builtin; (with_reducible change wpList _ _ _ (⟨some 49, _, _, _, _, _⟩ :: _) _ _); refine wpList_append_rdg _ rfl _ _ 38 rfl w39.heap.size 3 (.int .i64 0) 1 8 Try.underlying38 int_info rfl (by decide) (by decide) _ _ _ HO47.out rfl _ _ _ _ (HRk.out.below HB3_.out) rfl (intC_one _) (by omega) hs3_ ?_; intro v49 w49 ho' hg'; have HO49 := hid_ ho'; have HG49 := hid_ hg'; clear ho' hg'); have HB4_ := hid_ (below_push HB3_.out HO47.out HG49.out hs3_)))
                have HBz := hid_ (HB1.out.trans (HB4_.out.mono hs1_))
                have HOz := HO49
                have hs5_ := HBz.out.size
                go_roundw
                case rel =>
                  refine ⟨k + 1, k + 1, l.take m ++ [(k : Int)] ++ l.drop m, by omega, by go_num, ?_, rfl, ?_, ins_mem HM.out, HRb.out.below HBz.out, gb_trans Gb.out (gb_of_below HBz.out)⟩
                  · have := HL.out; have := HKM.out; simp only [List.length_append, List.length_take, List.length_drop, List.length_singleton]; omega
                  · exact own_eq (own_base HOz.out (by omega)) (by have := HL.out; have := HKM.out; omega) (by simp [intC])
                case measure => simp only [intOf]; omega
              · have hTl := HRo.out.drop (m := m) (by omega) hc2
                rw [if_neg hcp, intC_drop_, Nat.mul_one] at hTl
                simp only [Option.map_some, add_mid, Nat.zero_add, Nat.sub_self] at hTl
                have HTl := hid_ hTl; clear hTl
                have hTk := HRo.out.take (m := m) (by omega)
                rw [intC_take] at hTk
                have HTk := hid_ hTk; clear hTk
                go_wp2_with (first
                  | ((at_builtin; (with_reducible change wpList _ _ _ (⟨some 39, _, _, _, _, _⟩ :: _) _ _); refine wpList_append_rdg _ rfl _ _ 38 rfl wq.heap.size 3 (.int .i64 0) 1 8 Try.underlying38 int_info rfl (by decide) (by decide) _ _ _ (own_empty wq 3 1) rfl _ _ _ _ (HTl.out.alloc _) rfl (intC_one _) (by omega) (by simp) ?_; intro v39 w39 ho' hg'; have HO39 := hid_ ho'; have HG39 := hid_ hg'; clear ho' hg'); have hoT := own_eq HO39.out (Nat.zero_add _) (List.nil_append _); obtain ⟨AT, cT, rfl, _, _⟩ := own_shape hoT; have HRk := hid_ (own_rd hoT); clear hoT; have HB1 := hid_ (below_push ((Below.refl wq.heap.size wq).alloc (Nat.le_refl _) (.cells #[] 3)) (own_empty wq 3 1) HG39.out (by simp)); have hs1_ := HB1.out.size)
                  | ((at_builtin; (with_reducible change wpList _ _ _ (⟨some 44, _, _, _, _, _⟩ :: _) _ _); refine wpList_append_rdg _ rfl _ _ 38 rfl w39.heap.size 3 (.int .i64 0) 1 8 Try.underlying38 int_info rfl (by decide) (by decide) _ _ _ (own_empty w39 3 1) rfl _ _ _ _ ((HTk.out.below HB1.out).alloc _) rfl (intC_one _) (by omega) (by simp) ?_; intro v44 w44 ho' hg'; have HO44 := hid_ ho'; have HG44 := hid_ hg'; clear ho' hg'); have HB2_ := hid_ (below_push ((Below.refl w39.heap.size w39).alloc (Nat.le_refl _) (.cells #[] 3)) (own_empty w39 3 1) HG44.out (by simp)); have hs2_ := HB2_.out.size)
                  | ((at_builtin; (with_reducible change wpList _ _ _ (⟨some 47, _, _, _, _, _⟩ :: _) _ _); refine wpList_append_rdg _ rfl _ _ 38 rfl w39.heap.size 3 (.int .i64 0) 1 8 Try.underlying38 int_info rfl (by decide) (by decide) _ _ _ (HO44.out.alloc _) rfl _ _ _ _ (rd_int1 _ (k : Int) _ (by first | rfl | simp)) rfl (intC_one [(k : Int)]) (by omega) (by simp; omega) ?_; intro v47 w47 ho' hg'; have HO47 := hid_ ho'; have HG47 := hid_ hg'; clear ho' hg'); have HB3_ := hid_ (below_push (HB2_.out.alloc hs2_ (.cells #[.int .i64 (k : Int)] 3)) (HO44.out.alloc _) HG47.out (by simp; omega)); have hs3_ := HB3_.out.size)
                  | ((at_builtin; (with_reducible change wpList _ _ _ (⟨some 49, _, _, _, _, _⟩ :: _) _ _); refine wpList_append_rdg _ rfl _ _ 38 rfl w39.heap.size 3 (.int .i64 0) 1 8 Try.underlying38 int_info rfl (by decide) (by decide) _ _ _ HO47.out rfl _ _ _ _ (HRk.out.below HB3_.out) rfl (intC_one _) (by omega) hs3_ ?_; intro v49 w49 ho' hg'; have HO49 := hid_ ho'; have HG49 := hid_ hg'; clear ho' hg'); have HB4_ := hid_ (below_push HB3_.out HO47.out HG49.out hs3_)))
                have HBz := hid_ (HB1.out.trans (HB4_.out.mono hs1_))
                have HOz := HO49
                have hs5_ := HBz.out.size
                go_roundw
                case rel =>
                  refine ⟨k + 1, k + 1, l.take m ++ [(k : Int)] ++ l.drop m, by omega, by go_num, ?_, rfl, ?_, ins_mem HM.out, HRb.out.below HBz.out, gb_trans Gb.out (gb_of_below HBz.out)⟩
                  · have := HL.out; have := HKM.out; simp only [List.length_append, List.length_take, List.length_drop, List.length_singleton]; omega
                  · exact own_eq (own_base HOz.out (by omega)) (by have := HL.out; have := HKM.out; omega) (by simp [intC])
                case measure => simp only [intOf]; omega
          · have hbq := Gb.out.size
            have hRo := own_rd HOb.out
            have HCASE := hid_ (show (A = none ∧ m = 0 ∧ c2 = 0) ∨ ∃ g2, A = some ⟨g2, 0, none⟩ from by
              rcases HOb.out.2 with ⟨h, _⟩ | ⟨g, cap, cur, h, _⟩
              · injection h with h1 h2 h3; exact .inl ⟨h1, h2, h3⟩
              · injection h with h1 h2 h3; exact .inr ⟨g, h1⟩)
            rcases HCASE.out with ⟨hA, hk0, hc0⟩ | ⟨g2, hA⟩
            · subst hA; subst hc0; subst hk0
              clear HCASE
              try (obtain rfl : m = 0 := by omega)
              have HRo := hid_ hRo; clear hRo
              have HTl := hid_ (show Rd wq 1 none 0 (intC (l.drop 0)) from by rw [List.eq_nil_of_length_eq_zero HL.out]; exact Rd.nil wq 1 none)
              have hTk := HRo.out.take (m := 0) (by omega)
              rw [intC_take] at hTk
              have HTk := hid_ hTk; clear hTk
              go_wp2_with (first
                | ((at_builtin; (with_reducible change wpList _ _ _ (⟨some 39, _, _, _, _, _⟩ :: _) _ _); refine wpList_append_rdg _ rfl _ _ 38 rfl wq.heap.size 3 (.int .i64 0) 1 8 Try.underlying38 int_info rfl (by decide) (by decide) _ _ _ (own_empty wq 3 1) rfl _ _ _ _ (HTl.out.alloc _) rfl (intC_one _) (by omega) (by simp) ?_; intro v39 w39 ho' hg'; have HO39 := hid_ ho'; have HG39 := hid_ hg'; clear ho' hg'); have hoT := own_eq HO39.out (Nat.zero_add _) (List.nil_append _); obtain ⟨AT, cT, rfl, _, _⟩ := own_shape hoT; have HRk := hid_ (own_rd hoT); clear hoT; have HB1 := hid_ (below_push ((Below.refl wq.heap.size wq).alloc (Nat.le_refl _) (.cells #[] 3)) (own_empty wq 3 1) HG39.out (by simp)); have hs1_ := HB1.out.size)
                | ((at_builtin; (with_reducible change wpList _ _ _ (⟨some 44, _, _, _, _, _⟩ :: _) _ _); refine wpList_append_rdg _ rfl _ _ 38 rfl w39.heap.size 3 (.int .i64 0) 1 8 Try.underlying38 int_info rfl (by decide) (by decide) _ _ _ (own_empty w39 3 1) rfl _ _ _ _ ((HTk.out.below HB1.out).alloc _) rfl (intC_one _) (by omega) (by simp) ?_; intro v44 w44 ho' hg'; have HO44 := hid_ ho'; have HG44 := hid_ hg'; clear ho' hg'); have HB2_ := hid_ (below_push ((Below.refl w39.heap.size w39).alloc (Nat.le_refl _) (.cells #[] 3)) (own_empty w39 3 1) HG44.out (by simp)); have hs2_ := HB2_.out.size)
                | ((at_builtin; (with_reducible change wpList _ _ _ (⟨some 47, _, _, _, _, _⟩ :: _) _ _); refine wpList_append_rdg _ rfl _ _ 38 rfl w39.heap.size 3 (.int .i64 0) 1 8 Try.underlying38 int_info rfl (by decide) (by decide) _ _ _ (HO44.out.alloc _) rfl _ _ _ _ (rd_int1 _ (k : Int) _ (by first | rfl | simp)) rfl (intC_one [(k : Int)]) (by omega) (by simp; omega) ?_; intro v47 w47 ho' hg'; have HO47 := hid_ ho'; have HG47 := hid_ hg'; clear ho' hg'); have HB3_ := hid_ (below_push (HB2_.out.alloc hs2_ (.cells #[.int .i64 (k : Int)] 3)) (HO44.out.alloc _) HG47.out (by simp; omega)); have hs3_ := HB3_.out.size)
                | ((at_builtin; (with_reducible change wpList _ _ _ (⟨some 49, _, _, _, _, _⟩ :: _) _ _); refine wpList_append_rdg _ rfl _ _ 38 rfl w39.heap.size 3 (.int .i64 0) 1 8 Try.underlying38 int_info rfl (by decide) (by decide) _ _ _ HO47.out rfl _ _ _ _ (HRk.out.below HB3_.out) rfl (intC_one _) (by omega) hs3_ ?_; intro v49 w49 ho' hg'; have HO49 := hid_ ho'; have HG49 := hid_ hg'; clear ho' hg'); have HB4_ := hid_ (below_push HB3_.out HO47.out HG49.out hs3_)))
              have HBz := hid_ (HB1.out.trans (HB4_.out.mono hs1_))
              have HOz := HO49
              have hs5_ := HBz.out.size
              go_roundw
              case rel =>
                refine ⟨k + 1, k + 1, l.take 0 ++ [(k : Int)] ++ l.drop 0, by omega, by go_num, ?_, rfl, ?_, ins_mem HM.out, HRb.out.below HBz.out, gb_trans Gb.out (gb_of_below HBz.out)⟩
                · have := HL.out; have := HKM.out; simp only [List.length_append, List.length_take, List.length_drop, List.length_singleton]; omega
                · exact own_eq (own_base HOz.out (by omega)) (by have := HL.out; have := HKM.out; omega) (by simp [intC])
              case measure => simp only [intOf]; omega
            · subst hA
              clear HCASE
              have HRo := hid_ hRo; clear hRo
              by_cases hcp : c2 = m
              · try (obtain rfl : m = m := by omega)
                obtain rfl : m = c2 := by omega
                have HTl := hid_ (show Rd wq 1 (some ⟨g2, 0, none⟩) 0 (intC (l.drop m)) from by rw [List.drop_of_length_le (by rw [HL.out]; exact Nat.le_refl _)]; exact Rd.nil wq 1 _)
                have hTk := HRo.out.take (m := m) (by omega)
                rw [intC_take] at hTk
                have HTk := hid_ hTk; clear hTk
                go_wp2_with (first
                  | ((at_builtin; (with_reducible change wpList _ _ _ (⟨some 39, _, _, _, _, _⟩ :: _) _ _); refine wpList_append_rdg _ rfl _ _ 38 rfl wq.heap.size 3 (.int .i64 0) 1 8 Try.underlying38 int_info rfl (by decide) (by decide) _ _ _ (own_empty wq 3 1) rfl _ _ _ _ (HTl.out.alloc _) rfl (intC_one _) (by omega) (by simp) ?_; intro v39 w39 ho' hg'; have HO39 := hid_ ho'; have HG39 := hid_ hg'; clear ho' hg'); have hoT := own_eq HO39.out (Nat.zero_add _) (List.nil_append _); obtain ⟨AT, cT, rfl, _, _⟩ := own_shape hoT; have HRk := hid_ (own_rd hoT); clear hoT; have HB1 := hid_ (below_push ((Below.refl wq.heap.size wq).alloc (Nat.le_refl _) (.cells #[] 3)) (own_empty wq 3 1) HG39.out (by simp)); have hs1_ := HB1.out.size)
                  | ((at_builtin; (with_reducible change wpList _ _ _ (⟨some 44, _, _, _, _, _⟩ :: _) _ _); refine wpList_append_rdg _ rfl _ _ 38 rfl w39.heap.size 3 (.int .i64 0) 1 8 Try.underlying38 int_info rfl (by decide) (by decide) _ _ _ (own_empty w39 3 1) rfl _ _ _ _ ((HTk.out.below HB1.out).alloc _) rfl (intC_one _) (by omega) (by simp) ?_; intro v44 w44 ho' hg'; have HO44 := hid_ ho'; have HG44 := hid_ hg'; clear ho' hg'); have HB2_ := hid_ (below_push ((Below.refl w39.heap.size w39).alloc (Nat.le_refl _) (.cells #[] 3)) (own_empty w39 3 1) HG44.out (by simp)); have hs2_ := HB2_.out.size)
                  | ((at_builtin; (with_reducible change wpList _ _ _ (⟨some 47, _, _, _, _, _⟩ :: _) _ _); refine wpList_append_rdg _ rfl _ _ 38 rfl w39.heap.size 3 (.int .i64 0) 1 8 Try.underlying38 int_info rfl (by decide) (by decide) _ _ _ (HO44.out.alloc _) rfl _ _ _ _ (rd_int1 _ (k : Int) _ (by first | rfl | simp)) rfl (intC_one [(k : Int)]) (by omega) (by simp; omega) ?_; intro v47 w47 ho' hg'; have HO47 := hid_ ho'; have HG47 := hid_ hg'; clear ho' hg'); have HB3_ := hid_ (below_push (HB2_.out.alloc hs2_ (.cells #[.int .i64 (k : Int)] 3)) (HO44.out.alloc _) HG47.out (by simp; omega)); have hs3_ := HB3_.out.size)
                  | ((at_builtin; (with_reducible change wpList _ _ _ (⟨some 49, _, _, _, _, _⟩ :: _) _ _); refine wpList_append_rdg _ rfl _ _ 38 rfl w39.heap.size 3 (.int .i64 0) 1 8 Try.underlying38 int_info rfl (by decide) (by decide) _ _ _ HO47.out rfl _ _ _ _ (HRk.out.below HB3_.out) rfl (intC_one _) (by omega) hs3_ ?_; intro v49 w49 ho' hg'; have HO49 := hid_ ho'; have HG49 := hid_ hg'; clear ho' hg'); have HB4_ := hid_ (below_push HB3_.out HO47.out HG49.out hs3_)))
                have HBz := hid_ (HB1.out.trans (HB4_.out.mono hs1_))
                have HOz := HO49
                have hs5_ := HBz.out.size
                go_roundw
                case rel =>
                  refine ⟨k + 1, k + 1, l.take m ++ [(k : Int)] ++ l.drop m, by omega, by go_num, ?_, rfl, ?_, ins_mem HM.out, HRb.out.below HBz.out, gb_trans Gb.out (gb_of_below HBz.out)⟩
                  · have := HL.out; have := HKM.out; simp only [List.length_append, List.length_take, List.length_drop, List.length_singleton]; omega
                  · exact own_eq (own_base HOz.out (by omega)) (by have := HL.out; have := HKM.out; omega) (by simp [intC])
                case measure => simp only [intOf]; omega
              · have hTl := HRo.out.drop (m := m) (by omega) hc2
                rw [if_neg hcp, intC_drop_, Nat.mul_one] at hTl
                simp only [Option.map_some, add_mid, Nat.zero_add, Nat.sub_self] at hTl
                have HTl := hid_ hTl; clear hTl
                have hTk := HRo.out.take (m := m) (by omega)
                rw [intC_take] at hTk
                have HTk := hid_ hTk; clear hTk
                go_wp2_with (first
                  | ((at_builtin; (with_reducible change wpList _ _ _ (⟨some 39, _, _, _, _, _⟩ :: _) _ _); refine wpList_append_rdg _ rfl _ _ 38 rfl wq.heap.size 3 (.int .i64 0) 1 8 Try.underlying38 int_info rfl (by decide) (by decide) _ _ _ (own_empty wq 3 1) rfl _ _ _ _ (HTl.out.alloc _) rfl (intC_one _) (by omega) (by simp) ?_; intro v39 w39 ho' hg'; have HO39 := hid_ ho'; have HG39 := hid_ hg'; clear ho' hg'); have hoT := own_eq HO39.out (Nat.zero_add _) (List.nil_append _); obtain ⟨AT, cT, rfl, _, _⟩ := own_shape hoT; have HRk := hid_ (own_rd hoT); clear hoT; have HB1 := hid_ (below_push ((Below.refl wq.heap.size wq).alloc (Nat.le_refl _) (.cells #[] 3)) (own_empty wq 3 1) HG39.out (by simp)); have hs1_ := HB1.out.size)
                  | ((at_builtin; (with_reducible change wpList _ _ _ (⟨some 44, _, _, _, _, _⟩ :: _) _ _); refine wpList_append_rdg _ rfl _ _ 38 rfl w39.heap.size 3 (.int .i64 0) 1 8 Try.underlying38 int_info rfl (by decide) (by decide) _ _ _ (own_empty w39 3 1) rfl _ _ _ _ ((HTk.out.below HB1.out).alloc _) rfl (intC_one _) (by omega) (by simp) ?_; intro v44 w44 ho' hg'; have HO44 := hid_ ho'; have HG44 := hid_ hg'; clear ho' hg'); have HB2_ := hid_ (below_push ((Below.refl w39.heap.size w39).alloc (Nat.le_refl _) (.cells #[] 3)) (own_empty w39 3 1) HG44.out (by simp)); have hs2_ := HB2_.out.size)
                  | ((at_builtin; (with_reducible change wpList _ _ _ (⟨some 47, _, _, _, _, _⟩ :: _) _ _); refine wpList_append_rdg _ rfl _ _ 38 rfl w39.heap.size 3 (.int .i64 0) 1 8 Try.underlying38 int_info rfl (by decide) (by decide) _ _ _ (HO44.out.alloc _) rfl _ _ _ _ (rd_int1 _ (k : Int) _ (by first | rfl | simp)) rfl (intC_one [(k : Int)]) (by omega) (by simp; omega) ?_; intro v47 w47 ho' hg'; have HO47 := hid_ ho'; have HG47 := hid_ hg'; clear ho' hg'); have HB3_ := hid_ (below_push (HB2_.out.alloc hs2_ (.cells #[.int .i64 (k : Int)] 3)) (HO44.out.alloc _) HG47.out (by simp; omega)); have hs3_ := HB3_.out.size)
                  | ((at_builtin; (with_reducible change wpList _ _ _ (⟨some 49, _, _, _, _, _⟩ :: _) _ _); refine wpList_append_rdg _ rfl _ _ 38 rfl w39.heap.size 3 (.int .i64 0) 1 8 Try.underlying38 int_info rfl (by decide) (by decide) _ _ _ HO47.out rfl _ _ _ _ (HRk.out.below HB3_.out) rfl (intC_one _) (by omega) hs3_ ?_; intro v49 w49 ho' hg'; have HO49 := hid_ ho'; have HG49 := hid_ hg'; clear ho' hg'); have HB4_ := hid_ (below_push HB3_.out HO47.out HG49.out hs3_)))
                have HBz := hid_ (HB1.out.trans (HB4_.out.mono hs1_))
                have HOz := HO49
                have hs5_ := HBz.out.size
                go_roundw
                case rel =>
                  refine ⟨k + 1, k + 1, l.take m ++ [(k : Int)] ++ l.drop m, by omega, by go_num, ?_, rfl, ?_, ins_mem HM.out, HRb.out.below HBz.out, gb_trans Gb.out (gb_of_below HBz.out)⟩
                  · have := HL.out; have := HKM.out; simp only [List.length_append, List.length_take, List.length_drop, List.length_singleton]; omega
                  · exact own_eq (own_base HOz.out (by omega)) (by have := HL.out; have := HKM.out; omega) (by simp [intC])
                case measure => simp only [intOf]; omega
      · have hkm2 : m = many := by have := HKM.out; omega
        have hmm : m = k := HKM.out
        clear hk hlt2 HKM
        subst hkm2
        subst hmm
        rcases Nat.eq_zero_or_pos m with hz | hz
        · have HZ := hid_ hz
          have hzz : ¬ (0 : Int) < (m : Int) := by omega
          clear hz
          go_wp2
          go_returns
          exact DrawnO.mk_ l HL.out (fun x hx => by have := HM.out x hx; omega) (fun _ => HM.out) (own_eq HO.out HL.out.symm rfl) HR.out (by omega) G.out
        · have hzz : (0 : Int) < (m : Int) := by omega
          go_wp2_with fail
          refine (oddP_any g (p0 + 1 + 2 * (m : Int)) n _ (by omega) hn1 hn HR.out).mono ?_
          rintro e wq ⟨b, rfl, hnp, hr3, hg3⟩
          replace HO := hid_ (own_pick HO.out hg3 hlt)
          replace G := hid_ (gb_trans G.out hg3)
          replace HR := hid_ hr3
          clear hr3 hg3
          cases b
          · go_wp2
            go_returns
            exact DrawnO.mk_ l HL.out (fun x hx => by have := HM.out x hx; omega) (fun _ => HM.out) (own_eq HO.out HL.out.symm rfl) HR.out (by omega) G.out
          · obtain ⟨g2, rfl, hg2, hg2s, hcell, hfz⟩ := own_block HO.out hz
            obtain ⟨x0, hx0⟩ : ∃ x0 : Int, x0 = l[0]'(by have := HL.out; omega) := ⟨_, rfl⟩
            have hx0b : 0 ≤ x0 ∧ x0 < (m : Int) := by rw [hx0]; exact HM.out _ (List.getElem_mem _)
            have hc0 : wq.cell? ⟨g2, 0, none⟩ = some (.int .i64 x0) := hcell 0 _ (by rw [hx0]; simp [intC])
            have HX0 := hid_ hx0; clear hx0 hcell hfz
            have hg2g : g2 ≠ g := by omega
            go_wp2_with fail
            refine wp_region_semT (semG g (p0 + 1 + 2 * (m : Int) + 1) (envOrd g g2 m c2 x0)) [0, 1, 7] 74 15 (by kernel_rfl) (by kernel_rfl) rfl ?_ ?_ ?_ ?_
            · intro d hd
              have hd' : d = 0 ∨ d = 1 ∨ d = 7 := by simpa using hd
              rcases hd' with rfl | rfl | rfl <;> rfl
            · exact (HR.out.keep (fun _ _ => rfl)).mono (by omega)
            · simp only [List.take_succ_cons, List.take_zero, HAll]
              refine ⟨hop_move _ rfl (fun a w h => h 7 (by kernel_rfl)), hop_move _ rfl (fun a w h => h 0 (by kernel_rfl)), hop_move _ rfl (fun a w h => h 7 (by kernel_rfl)),
                hop_len _ _ _ Try.underlying38 (some ⟨g2, 0, none⟩) m c2 rfl rfl (fun a w h => h 60 (by kernel_rfl)),
                hop_pick _ _ _ (m : Int) (by omega) (by omega) (by omega) rfl (fun a w h => ⟨h 59 (by kernel_rfl), h 61 (by kernel_rfl)⟩) (fun i w i0 i1 => ⟨i, rfl, i0, by omega⟩),
                hop_move _ rfl (fun a w h => h 1 (by kernel_rfl)), hop_move _ rfl (fun a w h => h 7 (by kernel_rfl)),
                hop_val rfl rfl rfl (fun a w h hR => ⟨.pointer (some ⟨g2, 0, none⟩), run_idx_ a.eval _ _ (.const (.int .i64 0)) (show a.eval (.tmp 64) = .slice (some ⟨g2, 0, none⟩) m c2 from h 64 (by kernel_rfl)) rfl (by omega) (by omega), rfl⟩),
                hop_load _ g2 0 (.int .i64 x0) 3 hg2g hc0 rfl rfl (fun a w e hc => run_load_ a.eval _ _ _ _ _ w _ e hc) (fun a w h => h 65 (by kernel_rfl)),
                hop_table 3 _ (-1) (m : Int) (by omega) (by omega) rfl rfl rfl (fun a w h q hq => by
                  have e1 : a.eval (.tmp 63) = .int .i64 m := h 63 (by kernel_rfl)
                  have e2 : a.eval (.tmp 66) = .int .i64 x0 := h 66 (by kernel_rfl)
                  simp at hq
                  rcases hq with rfl | rfl | rfl
                  · exact ⟨-1, rfl, by omega, by omega⟩
                  · exact ⟨m, e1, by omega, by omega⟩
                  · exact ⟨x0, e2, by omega, by omega⟩),
                hop_move _ rfl (fun a w h => h 0 (by kernel_rfl)),
                hop_pick _ _ _ 3 (by omega) (by omega) (by omega) rfl (fun a w h => ⟨h 68 (by kernel_rfl), rfl⟩) (fun i w i0 i1 => ⟨i, rfl, i0, by omega⟩),
                hop_index_tab _ _ 3 (-1) (m : Int) rfl rfl (fun a w h => ⟨h 67 (by kernel_rfl), h 69 (by kernel_rfl)⟩),
                hop_load_ad _ (-1) (m : Int) rfl rfl (fun a w h => h 70 (by kernel_rfl)),
                hop_index _ _ g2 m c2 rfl rfl (fun a w h => ⟨h 58 (by kernel_rfl), h 62 (by kernel_rfl)⟩), trivial⟩
            · intro a' w' haf
              have hex := haf.ex rfl [58, 59, 60, 61, 62, 63, 64, 65, 66, 67, 68, 69, 70, 71, 72] (by kernel_rfl)
              have hgw : wq.grownBy w' (some g) := gb_trans (b := wq.drew) ⟨rfl, rfl, rfl, Nat.le_refl _, fun _ _ _ => rfl⟩ (show World.grownBy wq.drew w' (some g) from haf.r)
              have hR' : Rdr w' g (p0 + 1 + 2 * (m : Int) + 1 + 15) := haf.s
              clear haf
              simp only [SemEx] at hex
              obtain ⟨x58, _, x59, _, x60, _, x61, _, x62, _, x63, _, x64, _, x65, _, x66, _, x67, _, x68, _, x69, _, x70, _, x71, t71, x72, t72, rfl⟩ := hex
              obtain ⟨y, rfl, y0, y1⟩ : ∃ y : Int, x71 = .int .i64 y ∧ -1 ≤ y ∧ y ≤ (m : Int) := t71
              obtain ⟨j, hj, rfl⟩ : ∃ j : Nat, j < m ∧ x72 = .pointer (some ⟨g2, j * 1, none⟩) := t72
              rw [Nat.mul_one]
              simp only [List.drop_succ_cons, List.drop_zero]
              have HO' := hid_ (own_pick HO.out hgw hlt)
              have hst := World.ownsRow.stored HO'.out j (.int .i64 y)
              rw [intC_set_] at hst
              have HST := hid_ hst.1
              have G' := hid_ (gb_trans G.out hgw)
              have HR' := hid_ hR'
              have HLT := hid_ hlt
              clear hst hgw hR' HO HR G
              obtain ⟨vj, hvj, hfj⟩ := own_store HO'.out j (by omega)
              go_wp2
              go_returns
              refine DrawnO.mk_ (l.set j y) (by simpa using HL.out) (fun x hx => ?_) (fun h => absurd h (by have := hnp trivial; omega)) (own_eq HST.out (by simpa using HL.out.symm) rfl) (rdr_set HR'.out (by omega)) (by omega) (gb_set_new G'.out hg2)
              rcases List.mem_or_eq_of_mem_set hx with hx | rfl
              · have := HM.out x hx; omega
              · exact ⟨y0, y1⟩
  · go_wp2
    go_loopw [7, 9] (fun v vk wr => OrdAt w g p0 many v vk wr) (fun _ vk _ => many - (intOf vk).toNat)
    case atStart => exact ⟨0, 0, [], Nat.zero_le _, rfl, rfl, rfl, HO.out, fun x hx => by simp at hx, HR.out.mono (by omega), G.out⟩
    case round =>
      unfold OrdAt at hrel
      obtain ⟨k, m, l, hk, rfl, hl, hkm, ho, hmem, hr, hg⟩ := hrel
      have HKM := hid_ hkm
      have hm101 : m ≤ 100 := by omega
      clear hkm
      clear HO HR G
      have HL := hid_ hl; clear hl
      have HM := hid_ hmem; clear hmem
      have HO := hid_ ho; clear ho
      have HR := hid_ hr; clear hr
      have G := hid_ hg; clear hg
      have hsz := G.out.size
      obtain ⟨A, c2, rfl, hc2, hcm2⟩ := own_shape HO.out
      have hcc : c2 ≤ 9223372036854775807 := by unfold maxLen at hcm2; omega
      by_cases hlt2 : k < many
      · go_wp2_with fail
        refine (pick_any g (p0 + 1 + 2 * (k : Int)) ((m : Int) + 1) _ (by omega) (by omega) (by omega) HR.out).mono ?_
        rintro e wq ⟨k4, rfl, k40, k41, hx_, hr4, hg4⟩
        replace k41 := k41 (by omega)
        clear hx_
        obtain ⟨p, rfl⟩ := Int.eq_ofNat_of_zero_le k40
        have HOb := hid_ (own_pick HO.out hg4 hlt)
        have Gb := hid_ (gb_trans G.out hg4)
        have HRb := hid_ (hr4.mono (show p0 + 1 + 2 * (k : Int) + 1 ≤ p0 + 1 + 2 * ((k + 1 : Nat) : Int) by omega))
        clear HO HR G hr4 hg4
        have hpk : p ≤ m := by omega
        have hpz : (p : Int) ≤ (m : Int) := by omega
        have hbq := Gb.out.size
        have hRo := own_rd HOb.out
        have HCASE := hid_ (show (A = none ∧ m = 0 ∧ c2 = 0) ∨ ∃ g2, A = some ⟨g2, 0, none⟩ from by
          rcases HOb.out.2 with ⟨h, _⟩ | ⟨g, cap, cur, h, _⟩
          · injection h with h1 h2 h3; exact .inl ⟨h1, h2, h3⟩
          · injection h with h1 h2 h3; exact .inr ⟨g, h1⟩)
        rcases HCASE.out with ⟨hA, hk0, hc0⟩ | ⟨g2, hA⟩
        · subst hA; subst hc0; subst hk0
          clear HCASE
          try (obtain rfl : p = 0 := by omega)
          have HRo := hid_ hRo; clear hRo
          have HTl := hid_ (show Rd wq 1 none 0 (intC (l.drop 0)) from by rw [List.eq_nil_of_length_eq_zero HL.out]; exact Rd.nil wq 1 none)
          have hTk := HRo.out.take (m := 0) (by omega)
          rw [intC_take] at hTk
          have HTk := hid_ hTk; clear hTk
          go_wp2_with (first
            | ((at_builtin; (with_reducible change wpList _ _ _ (⟨some 39, _, _, _, _, _⟩ :: _) _ _); refine wpList_append_rdg _ rfl _ _ 38 rfl wq.heap.size 3 (.int .i64 0) 1 8 Try.underlying38 int_info rfl (by decide) (by decide) _ _ _ (own_empty wq 3 1) rfl _ _ _ _ (HTl.out.alloc _) rfl (intC_one _) (by omega) (by simp) ?_; intro v39 w39 ho' hg'; have HO39 := hid_ ho'; have HG39 := hid_ hg'; clear ho' hg'); have hoT := own_eq HO39.out (Nat.zero_add _) (List.nil_append _); obtain ⟨AT, cT, rfl, _, _⟩ := own_shape hoT; have HRk := hid_ (own_rd hoT); clear hoT; have HB1 := hid_ (below_push ((Below.refl wq.heap.size wq).alloc (Nat.le_refl _) (.cells #[] 3)) (own_empty wq 3 1) HG39.out (by simp)); have hs1_ := HB1.out.size)
            | ((at_builtin; (with_reducible change wpList _ _ _ (⟨some 44, _, _, _, _, _⟩ :: _) _ _); refine wpList_append_rdg _ rfl _ _ 38 rfl w39.heap.size 3 (.int .i64 0) 1 8 Try.underlying38 int_info rfl (by decide) (by decide) _ _ _ (own_empty w39 3 1) rfl _ _ _ _ ((HTk.out.below HB1.out).alloc _) rfl (intC_one _) (by omega) (by simp) ?_; intro v44 w44 ho' hg'; have HO44 := hid_ ho'; have HG44 := hid_ hg'; clear ho' hg'); have HB2_ := hid_ (below_push ((Below.refl w39.heap.size w39).alloc (Nat.le_refl _) (.cells #[] 3)) (own_empty w39 3 1) HG44.out (by simp)); have hs2_ := HB2_.out.size)
            | ((at_builtin; (with_reducible change wpList _ _ _ (⟨some 47, _, _, _, _, _⟩ :: _) _ _); refine wpList_append_rdg _ rfl _ _ 38 rfl w39.heap.size 3 (.int .i64 0) 1 8 Try.underlying38 int_info rfl (by decide) (by decide) _ _ _ (HO44.out.alloc _) rfl _ _ _ _ (rd_int1 _ (k : Int) _ (by first | rfl | simp)) rfl (intC_one [(k : Int)]) (by omega) (by simp; omega) ?_; intro v47 w47 ho' hg'; have HO47 := hid_ ho'; have HG47 := hid_ hg'; clear ho' hg'); have HB3_ := hid_ (below_push (HB2_.out.alloc hs2_ (.cells #[.int .i64 (k : Int)] 3)) (HO44.out.alloc _) HG47.out (by simp; omega)); have hs3_ := HB3_.out.size)
            | ((at_builtin; (with_reducible change wpList _ _ _ (⟨some 49, _, _, _, _, _⟩ :: _) _ _); refine wpList_append_rdg _ rfl _ _ 38 rfl w39.heap.size 3 (.int .i64 0) 1 8 Try.underlying38 int_info rfl (by decide) (by decide) _ _ _ HO47.out rfl _ _ _ _ (HRk.out.below HB3_.out) rfl (intC_one _) (by omega) hs3_ ?_; intro v49 w49 ho' hg'; have HO49 := hid_ ho'; have HG49 := hid_ hg'; clear ho' hg'); have HB4_ := hid_ (below_push HB3_.out HO47.out HG49.out hs3_)))
          have HBz := hid_ (HB1.out.trans (HB4_.out.mono hs1_))
          have HOz := HO49
          have hs5_ := HBz.out.size
          go_roundw
          case rel =>
            refine ⟨k + 1, k + 1, l.take 0 ++ [(k : Int)] ++ l.drop 0, by omega, by go_num, ?_, rfl, ?_, ins_mem HM.out, HRb.out.below HBz.out, gb_trans Gb.out (gb_of_below HBz.out)⟩
            · have := HL.out; have := HKM.out; simp only [List.length_append, List.length_take, List.length_drop, List.length_singleton]; omega
            · exact own_eq (own_base HOz.out (by omega)) (by have := HL.out; have := HKM.out; omega) (by simp [intC])
          case measure => simp only [intOf]; omega
        · subst hA
          clear HCASE
          have HRo := hid_ hRo; clear hRo
          by_cases hcp : c2 = p
          · try (obtain rfl : m = p := by omega)
            obtain rfl : m = c2 := by omega
            have HTl := hid_ (show Rd wq 1 (some ⟨g2, 0, none⟩) 0 (intC (l.drop m)) from by rw [List.drop_of_length_le (by rw [HL.out]; exact Nat.le_refl _)]; exact Rd.nil wq 1 _)
            have hTk := HRo.out.take (m := m) (by omega)
            rw [intC_take] at hTk
            have HTk := hid_ hTk; clear hTk
            go_wp2_with (first
              | ((at_builtin; (with_reducible change wpList _ _ _ (⟨some 39, _, _, _, _, _⟩ :: _) _ _); refine wpList_append_rdg _ rfl _ _ 38 rfl wq.heap.size 3 (.int .i64 0) 1 8 Try.underlying38 int_info rfl (by decide) (by decide) _ _ _ (own_empty wq 3 1) rfl _ _ _ _ (HTl.out.alloc _) rfl (intC_one _) (by omega) (by simp) ?_; intro v39 w39 ho' hg'; have HO39 := hid_ ho'; have HG39 := hid_ hg'; clear ho' hg'); have hoT := own_eq HO39.out (Nat.zero_add _) (List.nil_append _); obtain ⟨AT, cT, rfl, _, _⟩ := own_shape hoT; have HRk := hid_ (own_rd hoT); clear hoT; have HB1 := hid_ (below_push ((Below.refl wq.heap.size wq).alloc (Nat.le_refl _) (.cells #[] 3)) (own_empty wq 3 1) HG39.out (by simp)); have hs1_ := HB1.out.size)
              | ((at_builtin; (with_reducible change wpList _ _ _ (⟨some 44, _, _, _, _, _⟩ :: _) _ _); refine wpList_append_rdg _ rfl _ _ 38 rfl w39.heap.size 3 (.int .i64 0) 1 8 Try.underlying38 int_info rfl (by decide) (by decide) _ _ _ (own_empty w39 3 1) rfl _ _ _ _ ((HTk.out.below HB1.out).alloc _) rfl (intC_one _) (by omega) (by simp) ?_; intro v44 w44 ho' hg'; have HO44 := hid_ ho'; have HG44 := hid_ hg'; clear ho' hg'); have HB2_ := hid_ (below_push ((Below.refl w39.heap.size w39).alloc (Nat.le_refl _) (.cells #[] 3)) (own_empty w39 3 1) HG44.out (by simp)); have hs2_ := HB2_.out.size)
              | ((at_builtin; (with_reducible change wpList _ _ _ (⟨some 47, _, _, _, _, _⟩ :: _) _ _); refine wpList_append_rdg _ rfl _ _ 38 rfl w39.heap.size 3 (.int .i64 0) 1 8 Try.underlying38 int_info rfl (by decide) (by decide) _ _ _ (HO44.out.alloc _) rfl _ _ _ _ (rd_int1 _ (k : Int) _ (by first | rfl | simp)) rfl (intC_one [(k : Int)]) (by omega) (by simp; omega) ?_; intro v47 w47 ho' hg'; have HO47 := hid_ ho'; have HG47 := hid_ hg'; clear ho' hg'); have HB3_ := hid_ (below_push (HB2_.out.alloc hs2_ (.cells #[.int .i64 (k : Int)] 3)) (HO44.out.alloc _) HG47.out (by simp; omega)); have hs3_ := HB3_.out.size)
              | ((at_builtin; (with_reducible change wpList _ _ _ (⟨some 49, _, _, _, _, _⟩ :: _) _ _); refine wpList_append_rdg _ rfl _ _ 38 rfl w39.heap.size 3 (.int .i64 0) 1 8 Try.underlying38 int_info rfl (by decide) (by decide) _ _ _ HO47.out rfl _ _ _ _ (HRk.out.below HB3_.out) rfl (intC_one _) (by omega) hs3_ ?_; intro v49 w49 ho' hg'; have HO49 := hid_ ho'; have HG49 := hid_ hg'; clear ho' hg'); have HB4_ := hid_ (below_push HB3_.out HO47.out HG49.out hs3_)))
            have HBz := hid_ (HB1.out.trans (HB4_.out.mono hs1_))
            have HOz := HO49
            have hs5_ := HBz.out.size
            go_roundw
            case rel =>
              refine ⟨k + 1, k + 1, l.take m ++ [(k : Int)] ++ l.drop m, by omega, by go_num, ?_, rfl, ?_, ins_mem HM.out, HRb.out.below HBz.out, gb_trans Gb.out (gb_of_below HBz.out)⟩
              · have := HL.out; have := HKM.out; simp only [List.length_append, List.length_take, List.length_drop, List.length_singleton]; omega
              · exact own_eq (own_base HOz.out (by omega)) (by have := HL.out; have := HKM.out; omega) (by simp [intC])
            case measure => simp only [intOf]; omega
          · have hTl := HRo.out.drop (m := p) (by omega) hc2
            rw [if_neg hcp, intC_drop_, Nat.mul_one] at hTl
            simp only [Option.map_some, add_mid, Nat.zero_add, Nat.sub_self] at hTl
            have HTl := hid_ hTl; clear hTl
            have hTk := HRo.out.take (m := p) (by omega)
            rw [intC_take] at hTk
            have HTk := hid_ hTk; clear hTk
            go_wp2_with (first
              | ((at_builtin; (with_reducible change wpList _ _ _ (⟨some 39, _, _, _, _, _⟩ :: _) _ _); refine wpList_append_rdg _ rfl _ _ 38 rfl wq.heap.size 3 (.int .i64 0) 1 8 Try.underlying38 int_info rfl (by decide) (by decide) _ _ _ (own_empty wq 3 1) rfl _ _ _ _ (HTl.out.alloc _) rfl (intC_one _) (by omega) (by simp) ?_; intro v39 w39 ho' hg'; have HO39 := hid_ ho'; have HG39 := hid_ hg'; clear ho' hg'); have hoT := own_eq HO39.out (Nat.zero_add _) (List.nil_append _); obtain ⟨AT, cT, rfl, _, _⟩ := own_shape hoT; have HRk := hid_ (own_rd hoT); clear hoT; have HB1 := hid_ (below_push ((Below.refl wq.heap.size wq).alloc (Nat.le_refl _) (.cells #[] 3)) (own_empty wq 3 1) HG39.out (by simp)); have hs1_ := HB1.out.size)
              | ((at_builtin; (with_reducible change wpList _ _ _ (⟨some 44, _, _, _, _, _⟩ :: _) _ _); refine wpList_append_rdg _ rfl _ _ 38 rfl w39.heap.size 3 (.int .i64 0) 1 8 Try.underlying38 int_info rfl (by decide) (by decide) _ _ _ (own_empty w39 3 1) rfl _ _ _ _ ((HTk.out.below HB1.out).alloc _) rfl (intC_one _) (by omega) (by simp) ?_; intro v44 w44 ho' hg'; have HO44 := hid_ ho'; have HG44 := hid_ hg'; clear ho' hg'); have HB2_ := hid_ (below_push ((Below.refl w39.heap.size w39).alloc (Nat.le_refl _) (.cells #[] 3)) (own_empty w39 3 1) HG44.out (by simp)); have hs2_ := HB2_.out.size)
              | ((at_builtin; (with_reducible change wpList _ _ _ (⟨some 47, _, _, _, _, _⟩ :: _) _ _); refine wpList_append_rdg _ rfl _ _ 38 rfl w39.heap.size 3 (.int .i64 0) 1 8 Try.underlying38 int_info rfl (by decide) (by decide) _ _ _ (HO44.out.alloc _) rfl _ _ _ _ (rd_int1 _ (k : Int) _ (by first | rfl | simp)) rfl (intC_one [(k : Int)]) (by omega) (by simp; omega) ?_; intro v47 w47 ho' hg'; have HO47 := hid_ ho'; have HG47 := hid_ hg'; clear ho' hg'); have HB3_ := hid_ (below_push (HB2_.out.alloc hs2_ (.cells #[.int .i64 (k : Int)] 3)) (HO44.out.alloc _) HG47.out (by simp; omega)); have hs3_ := HB3_.out.size)
              | ((at_builtin; (with_reducible change wpList _ _ _ (⟨some 49, _, _, _, _, _⟩ :: _) _ _); refine wpList_append_rdg _ rfl _ _ 38 rfl w39.heap.size 3 (.int .i64 0) 1 8 Try.underlying38 int_info rfl (by decide) (by decide) _ _ _ HO47.out rfl _ _ _ _ (HRk.out.below HB3_.out) rfl (intC_one _) (by omega) hs3_ ?_; intro v49 w49 ho' hg'; have HO49 := hid_ ho'; have HG49 := hid_ hg'; clear ho' hg'); have HB4_ := hid_ (below_push HB3_.out HO47.out HG49.out hs3_)))
            have HBz := hid_ (HB1.out.trans (HB4_.out.mono hs1_))
            have HOz := HO49
            have hs5_ := HBz.out.size
            go_roundw
            case rel =>
              refine ⟨k + 1, k + 1, l.take p ++ [(k : Int)] ++ l.drop p, by omega, by go_num, ?_, rfl, ?_, ins_mem HM.out, HRb.out.below HBz.out, gb_trans Gb.out (gb_of_below HBz.out)⟩
              · have := HL.out; have := HKM.out; simp only [List.length_append, List.length_take, List.length_drop, List.length_singleton]; omega
              · exact own_eq (own_base HOz.out (by omega)) (by have := HL.out; have := HKM.out; omega) (by simp [intC])
            case measure => simp only [intOf]; omega
      · have hkm2 : m = many := by have := HKM.out; omega
        have hmm : m = k := HKM.out
        clear hk hlt2 HKM
        subst hkm2
        subst hmm
        rcases Nat.eq_zero_or_pos m with hz | hz
        · have HZ := hid_ hz
          have hzz : ¬ (0 : Int) < (m : Int) := by omega
          clear hz
          go_wp2
          go_returns
          exact DrawnO.mk_ l HL.out (fun x hx => by have := HM.out x hx; omega) (fun _ => HM.out) (own_eq HO.out HL.out.symm rfl) HR.out (by omega) G.out
        · have hzz : (0 : Int) < (m : Int) := by omega
          go_wp2_with fail
          refine (oddP_any g (p0 + 1 + 2 * (m : Int)) n _ (by omega) hn1 hn HR.out).mono ?_
          rintro e wq ⟨b, rfl, hnp, hr3, hg3⟩
          replace HO := hid_ (own_pick HO.out hg3 hlt)
          replace G := hid_ (gb_trans G.out hg3)
          replace HR := hid_ hr3
          clear hr3 hg3
          cases b
          · go_wp2
            go_returns
            exact DrawnO.mk_ l HL.out (fun x hx => by have := HM.out x hx; omega) (fun _ => HM.out) (own_eq HO.out HL.out.symm rfl) HR.out (by omega) G.out
          · obtain ⟨g2, rfl, hg2, hg2s, hcell, hfz⟩ := own_block HO.out hz
            obtain ⟨x0, hx0⟩ : ∃ x0 : Int, x0 = l[0]'(by have := HL.out; omega) := ⟨_, rfl⟩
            have hx0b : 0 ≤ x0 ∧ x0 < (m : Int) := by rw [hx0]; exact HM.out _ (List.getElem_mem _)
            have hc0 : wq.cell? ⟨g2, 0, none⟩ = some (.int .i64 x0) := hcell 0 _ (by rw [hx0]; simp [intC])
            have HX0 := hid_ hx0; clear hx0 hcell hfz
            have hg2g : g2 ≠ g := by omega
            go_wp2_with fail
            refine wp_region_semT (semG g (p0 + 1 + 2 * (m : Int) + 1) (envOrd g g2 m c2 x0)) [0, 1, 7] 74 15 (by kernel_rfl) (by kernel_rfl) rfl ?_ ?_ ?_ ?_
            · intro d hd
              have hd' : d = 0 ∨ d = 1 ∨ d = 7 := by simpa using hd
              rcases hd' with rfl | rfl | rfl <;> rfl
            · exact (HR.out.keep (fun _ _ => rfl)).mono (by omega)
            · simp only [List.take_succ_cons, List.take_zero, HAll]
              refine ⟨hop_move _ rfl (fun a w h => h 7 (by kernel_rfl)), hop_move _ rfl (fun a w h => h 0 (by kernel_rfl)), hop_move _ rfl (fun a w h => h 7 (by kernel_rfl)),
                hop_len _ _ _ Try.underlying38 (some ⟨g2, 0, none⟩) m c2 rfl rfl (fun a w h => h 60 (by kernel_rfl)),
                hop_pick _ _ _ (m : Int) (by omega) (by omega) (by omega) rfl (fun a w h => ⟨h 59 (by kernel_rfl), h 61 (by kernel_rfl)⟩) (fun i w i0 i1 => ⟨i, rfl, i0, by omega⟩),
                hop_move _ rfl (fun a w h => h 1 (by kernel_rfl)), hop_move _ rfl (fun a w h => h 7 (by kernel_rfl)),
                hop_val rfl rfl rfl (fun a w h hR => ⟨.pointer (some ⟨g2, 0, none⟩), run_idx_ a.eval _ _ (.const (.int .i64 0)) (show a.eval (.tmp 64) = .slice (some ⟨g2, 0, none⟩) m c2 from h 64 (by kernel_rfl)) rfl (by omega) (by omega), rfl⟩),
                hop_load _ g2 0 (.int .i64 x0) 3 hg2g hc0 rfl rfl (fun a w e hc => run_load_ a.eval _ _ _ _ _ w _ e hc) (fun a w h => h 65 (by kernel_rfl)),
                hop_table 3 _ (-1) (m : Int) (by omega) (by omega) rfl rfl rfl (fun a w h q hq => by
                  have e1 : a.eval (.tmp 63) = .int .i64 m := h 63 (by kernel_rfl)
                  have e2 : a.eval (.tmp 66) = .int .i64 x0 := h 66 (by kernel_rfl)
                  simp at hq
                  rcases hq with rfl | rfl | rfl
                  · exact ⟨-1, rfl, by omega, by omega⟩
                  · exact ⟨m, e1, by omega, by omega⟩
                  · exact ⟨x0, e2, by omega, by omega⟩),
                hop_move _ rfl (fun a w h => h 0 (by kernel_rfl)),
                hop_pick _ _ _ 3 (by omega) (by omega) (by omega) rfl (fun a w h => ⟨h 68 (by kernel_rfl), rfl⟩) (fun i w i0 i1 => ⟨i, rfl, i0, by omega⟩),
                hop_index_tab _ _ 3 (-1) (m : Int) rfl rfl (fun a w h => ⟨h 67 (by kernel_rfl), h 69 (by kernel_rfl)⟩),
                hop_load_ad _ (-1) (m : Int) rfl rfl (fun a w h => h 70 (by kernel_rfl)),
                hop_index _ _ g2 m c2 rfl rfl (fun a w h => ⟨h 58 (by kernel_rfl), h 62 (by kernel_rfl)⟩), trivial⟩
            · intro a' w' haf
              have hex := haf.ex rfl [58, 59, 60, 61, 62, 63, 64, 65, 66, 67, 68, 69, 70, 71, 72] (by kernel_rfl)
              have hgw : wq.grownBy w' (some g) := gb_trans (b := wq.drew) ⟨rfl, rfl, rfl, Nat.le_refl _, fun _ _ _ => rfl⟩ (show World.grownBy wq.drew w' (some g) from haf.r)
              have hR' : Rdr w' g (p0 + 1 + 2 * (m : Int) + 1 + 15) := haf.s
              clear haf
              simp only [SemEx] at hex
              obtain ⟨x58, _, x59, _, x60, _, x61, _, x62, _, x63, _, x64, _, x65, _, x66, _, x67, _, x68, _, x69, _, x70, _, x71, t71, x72, t72, rfl⟩ := hex
              obtain ⟨y, rfl, y0, y1⟩ : ∃ y : Int, x71 = .int .i64 y ∧ -1 ≤ y ∧ y ≤ (m : Int) := t71
              obtain ⟨j, hj, rfl⟩ : ∃ j : Nat, j < m ∧ x72 = .pointer (some ⟨g2, j * 1, none⟩) := t72
              rw [Nat.mul_one]
              simp only [List.drop_succ_cons, List.drop_zero]
              have HO' := hid_ (own_pick HO.out hgw hlt)
              have hst := World.ownsRow.stored HO'.out j (.int .i64 y)
              rw [intC_set_] at hst
              have HST := hid_ hst.1
              have G' := hid_ (gb_trans G.out hgw)
              have HR' := hid_ hR'
              have HLT := hid_ hlt
              clear hst hgw hR' HO HR G
              obtain ⟨vj, hvj, hfj⟩ := own_store HO'.out j (by omega)
              go_wp2
              go_returns
              refine DrawnO.mk_ (l.set j y) (by simpa using HL.out) (fun x hx => ?_) (fun h => absurd h (by have := hnp trivial; omega)) (own_eq HST.out (by simpa using HL.out.symm) rfl) (rdr_set HR'.out (by omega)) (by omega) (gb_set_new G'.out hg2)
              rcases List.mem_or_eq_of_mem_set hx with hx | rfl
              · have := HM.out x hx; omega
              · exact ⟨y0, y1⟩
end Go.Proofs.Ytfmkjhkopocokaa
