/-
  Caches: the views.
-/
import Derived.Test.YtejnieoneknbbaaCaD
import Derived.StillTailTactics
namespace Go.Proofs.Ytejnieoneknbbaa
open Go.ChangeShapes Go.WideShapes Go.ChangeAt Go.RowKit Go.BigFrame

theorem viewD_take (L : List Ln) (d : List Int) (k : Nat) (h : k < L.length) : viewD (L.take (k + 1)) d = setD (viewD (L.take k) d) L[k] := by
  rw [← List.take_append_getElem h]; unfold viewD; rw [List.foldl_append]; rfl
theorem setD_cells (d : List Int) (x : Ln) (a : Nat) (ha : x.at_ = (a : Int)) : (intC d).set a (.int .i64 x.value) = intC (setD d x) := by
  unfold setD; rw [ha]; simp [intC, List.map_set]
theorem viewC_ok {c : Ca} (h : c.ok = true) : viewC c = viewD c.L c.D := if_pos h
theorem viewC_no {c : Ca} (h : c.ok = false) : viewC c = [] := if_neg (by simp [h])
/-- the sector of a line of a valid cache -/
theorem ln_nat {L : List Ln} {m : Int} {d : List Int} (h : Ca.ok ⟨L, m, d⟩ = true) (k : Nat) (hk : k < L.length) : ∃ a : Nat, L[k].at_ = (a : Int) ∧ a < d.length := by
  have := (ok_iff.1 h).lns _ (List.getElem_mem hk)
  simp only at this
  exact ⟨L[k].at_.toNat, by omega, by omega⟩

set_option maxHeartbeats 1000000 in
theorem implView_any (L : List Ln) (A : Option Addr) (n c : Nat) (m : Int) (d : List Int) (A2 : Option Addr) (n2 c2 : Nat) (w : World) (hn : L.length = n) (hm : n ≤ 1048576) (hc : n ≤ c) (hcm : c ≤ maxLen) (hR : Rd w 3 A n (lnC L)) (hn2 : d.length = n2) (hm2 : n2 ≤ 1048576) (_ : n2 ≤ c2) (_ : c2 ≤ maxLen) (hR2 : Rd w 1 A2 n2 (intC d)) :
    Calls Try.prog 23 #[.agg #[.slice A n c, .int .i64 m], .slice A2 n2 c2] w (RSl w 3 1 (viewC ⟨L, m, d⟩).length (intC (viewC ⟨L, m, d⟩))) := by
  have HR := hid_ (hR.alloc (.cells #[.slice A n c, .int .i64 m] 29)); clear hR
  have HR2 := hid_ (hR2.alloc (.cells #[.slice A n c, .int .i64 m] 29)); clear hR2
  have HN := hid_ hn; clear hn
  have HN2 := hid_ hn2; clear hn2
  have HCM := hid_ hcm; clear hcm
  have HB0 := hid_ ((Below.refl w.heap.size w).alloc (Nat.le_refl _) (.cells #[.slice A n c, .int .i64 m] 29))
  have hq0 : (w.alloc (.cells #[.slice A n c, .int .i64 m] 29)).cell? ⟨w.heap.size, 0, none⟩ = some (.slice A n c) := by simp [go_sem]
  go_enter Try.func23, Try.ntmps23
  go_wp2_with fail
  refine (isCached_any L A n c m d A2 n2 c2 _ HN.out (by omega) hc HCM.out HR.out HN2.out (by omega) HR2.out).mono ?_
  cases q : Ca.ok ⟨L, m, d⟩
  · have HV := hid_ (viewC_no q); clear q
    rintro e w1 ⟨rfl, hb1⟩
    go_wp2
    go_returns
    refine RSl.of_own' (World.ownsRow_nil _ _ _ _) (HB0.out.trans (hb1.mono HB0.out.size)) (by rw [HV.out]; rfl) (by rw [HV.out]; rfl)
  · have HV := hid_ (viewC_ok q)
    have HL := hid_ (fun k hk => ln_nat q k hk); clear q
    rintro e w1 ⟨rfl, hb1⟩
    have hbs : w.heap.size < w1.heap.size := by have := hb1.size; simp at this; omega
    replace hq0 := (hb1.cell (cell_lt hq0)).trans hq0
    replace HR := hid_ (HR.out.below hb1)
    replace HR2 := hid_ (HR2.out.below hb1)
    replace HB0 := hid_ (HB0.out.trans (hb1.mono HB0.out.size))
    clear hb1
    go_wp2_with fail
    refine (cloneI_any d A2 n2 c2 _ HN2.out hm2 HR2.out).mono ?_
    rintro e w2 ⟨A3, c3, rfl, hc3, hcm3, ho3, hb3⟩
    replace hq0 := (hb3.cell (cell_lt hq0)).trans hq0
    have HO3 := hid_ ho3; clear ho3
    have HB3 := hid_ hb3; clear hb3
    clear HR2
    have HQ0 := hid_ hq0
    have hs3 := HB3.out.size
    have HC3 := hid_ hcm3; clear hcm3
    have HLT := hid_ HO3.out.lt
    go_wp2
    go_loopw [17] (fun v wr => ∃ k : Nat, k ≤ n ∧ v = .int .i64 k ∧ Below w1.heap.size w1 wr ∧ wr.ownsRow w1.heap.size 3 1 (.slice A3 n2 c3) n2 (intC (viewD (L.take k) d))) (fun v _ => n - (intOf v).toNat)
    case atStart => exact ⟨0, Nat.zero_le _, rfl, HB3.out, by simpa [viewD] using HO3.out⟩
    case round =>
      obtain ⟨k, hk, rfl, hb, ho⟩ := hrel
      have HO := hid_ ho; clear ho
      have HRk := hid_ (HR.out.below hb)
      have BBk := hid_ (HB0.out.trans (hb.mono HB0.out.size))
      by_cases hlt : k < n
      · have hlt' : k < L.length := by rw [HN.out]; exact hlt
        obtain ⟨b, o, rfl, h0, h1, h2⟩ := HRk.out.ln k hlt HN.out
        obtain ⟨a, ha, han⟩ := HL.out k hlt'
        rw [HN2.out] at han
        have hS := viewD_take L d k hlt'
        obtain ⟨x, hx⟩ : ∃ x, L[k] = x := ⟨_, rfl⟩
        rw [hx] at h0 h1 h2 ha hS
        clear hx
        obtain ⟨xa, xv, xd⟩ := x
        simp only at h0 h1 h2 ha
        subst ha
        have hSC := setD_cells (viewD (L.take k) d) ⟨(a : Int), xv, xd⟩ a rfl
        rw [← hS] at hSC
        have HSC := hid_ hSC; clear hSC hS
        have hanz : (a : Int) < (n2 : Int) := by omega
        obtain ⟨g, rfl, hgB, hgl, _, _⟩ := own_block HO.out (by omega)
        obtain ⟨v0, c0, f0⟩ := own_store (HO.out.alloc (.cells #[.int .i64 (a : Int), .int .i64 xv, .bool xd] 38)) a (by omega)
        have hst := (World.ownsRow.stored HO.out a (.int .i64 xv)).1
        rw [HSC.out] at hst
        have HST := hid_ (hst.alloc (.cells #[.int .i64 (a : Int), .int .i64 xv, .bool xd] 38)); clear hst HSC
        have HBK := hid_ ((hb.setCell (show w1.heap.size ≤ (⟨g, a, none⟩ : Addr).block from hgB) (.int .i64 xv)).alloc (by have := hb.size; simp; omega) (.cells #[.int .i64 (a : Int), .int .i64 xv, .bool xd] 38))
        go_wp2
        go_roundw
        case rel => exact ⟨k + 1, by omega, by go_num, HBK.out, HST.out⟩
        case measure => simp [intOf]; omega
      · obtain rfl : k = n := by omega
        have hall : L.take k = L := List.take_of_length_le (by rw [HN.out]; exact Nat.le_refl _)
        rw [hall] at HO
        have HO' := hid_ HO.out; clear HO hall
        go_wp2
        go_returns
        refine RSl.of_own' (own_base HO'.out HB0.out.size) BBk.out ?_ ?_
        · rw [HV.out, viewD_length, HN2.out]
        · rw [HV.out]

/-- the head of the reference's functions: is the cache valid for the disk? -/
theorem specView_no {L : List Ln} {m : Int} {d : List Int} (h : Ca.ok ⟨L, m, d⟩ = false) : diskB d = false ∨ (diskB d = true ∧ cvB L m d.length = false) := by
  rw [ok_eq] at h
  cases q : diskB d
  · exact .inl rfl
  · rw [q] at h; exact .inr ⟨rfl, by simpa using h⟩
theorem specView_yes {L : List Ln} {m : Int} {d : List Int} (h : Ca.ok ⟨L, m, d⟩ = true) : diskB d = true ∧ cvB L m d.length = true := by
  rw [ok_eq] at h; simpa using h

set_option maxHeartbeats 1000000 in
theorem specView_any (L : List Ln) (A : Option Addr) (n c : Nat) (m : Int) (d : List Int) (A2 : Option Addr) (n2 c2 : Nat) (w : World) (hn : L.length = n) (hm : n ≤ 1048576) (hR : Rd w 3 A n (lnC L)) (hn2 : d.length = n2) (hm2 : n2 ≤ 1048576) (hR2 : Rd w 1 A2 n2 (intC d)) :
    Calls Try.prog 25 #[.agg #[.slice A n c, .int .i64 m], .slice A2 n2 c2] w (RSl w 3 1 (viewC ⟨L, m, d⟩).length (intC (viewC ⟨L, m, d⟩))) := by
  have HR := hid_ (hR.alloc (.cells #[.slice A n c, .int .i64 m] 29)); clear hR
  have HR2 := hid_ (hR2.alloc (.cells #[.slice A n c, .int .i64 m] 29)); clear hR2
  have HN := hid_ hn; clear hn
  have HN2 := hid_ hn2; clear hn2
  have HB0 := hid_ ((Below.refl w.heap.size w).alloc (Nat.le_refl _) (.cells #[.slice A n c, .int .i64 m] 29))
  have hq0 : (w.alloc (.cells #[.slice A n c, .int .i64 m] 29)).cell? ⟨w.heap.size, 0, none⟩ = some (.slice A n c) := by simp [go_sem]
  cases q : Ca.ok ⟨L, m, d⟩
  · have HV := hid_ (viewC_no q)
    rcases specView_no q with q1 | ⟨q1, q2⟩
    · go_enter Try.func25, Try.ntmps25
      go_wp2_with (go_at_call 56; refine (specDV_any d A2 n2 c2 _ HN2.out (by omega) HR2.out).mono ?_; rw [q1]; rintro e w1 ⟨rfl, rfl⟩)
      go_returns
      refine RSl.of_own' (own_base (own_empty_at (w.alloc (.cells #[.slice A n c, .int .i64 m] 29)) 3 1 (w.heap.size + 1) (by simp)) (by omega)) (HB0.out.alloc (by simp) _) (by rw [HV.out]; rfl) (by rw [HV.out]; rfl)
    · rw [HN2.out] at q2
      go_enter Try.func25, Try.ntmps25
      go_wp2_with (first | (go_at_call 56; refine (specDV_any d A2 n2 c2 _ HN2.out (by omega) HR2.out).mono ?_; rw [q1]; rintro e w1 ⟨rfl, rfl⟩) | (go_at_call 16; refine (specCV_any L A n c m n2 _ HN.out (by omega) HR.out).mono ?_; rw [q2]; rintro e w2 ⟨rfl, hb2⟩))
      go_returns
      have HB2 := HB0.out.trans (hb2.mono HB0.out.size)
      refine RSl.of_own' (own_base (own_empty _ 3 1) HB2.size) (HB2.alloc HB2.size _) (by rw [HV.out]; rfl) (by rw [HV.out]; rfl)
  · have HV := hid_ (viewC_ok q)
    have HL := hid_ (fun k hk => ln_nat q k hk)
    obtain ⟨q1, q2⟩ := specView_yes q
    clear q
    rw [HN2.out] at q2
    go_enter Try.func25, Try.ntmps25
    go_wp2_with (go_at_call 56; refine (specDV_any d A2 n2 c2 _ HN2.out (by omega) HR2.out).mono ?_; rw [q1]; rintro e w1 ⟨rfl, rfl⟩)
    refine (specCV_any L A n c m n2 _ HN.out (by omega) HR.out).mono ?_
    rw [q2]
    rintro e w1 ⟨rfl, hb1⟩
    have hbs : w.heap.size < w1.heap.size := by have := hb1.size; simp at this; omega
    replace hq0 := (hb1.cell (cell_lt hq0)).trans hq0
    replace HR := hid_ (HR.out.below hb1)
    replace HR2 := hid_ (HR2.out.below hb1)
    replace HB0 := hid_ (HB0.out.trans (hb1.mono HB0.out.size))
    clear hb1 q1 q2
    have HQ1 := hid_ hq0
    go_wp2_with (at_builtin; refine wpList_append_rd _ rfl _ _ 40 rfl w1.heap.size 3 (.int .i64 0) 1 8 Try.underlying40 int_info rfl (by decide) (by decide) _ _ _ (own_empty w1 3 1) rfl _ _ _ _ (HR2.out.alloc _) rfl (intC_one d) (by omega) (by simp) ?_; intro v' w' ho' hg')
    have hown := own_eq ho' (show 0 + n2 = n2 by omega) (List.nil_append _)
    have hb3 := below_push ((Below.refl w1.heap.size w1).alloc (Nat.le_refl _) (.cells #[] 3)) (own_empty w1 3 1) hg' (by simp)
    obtain ⟨A3, c3, rfl, hc3, hcm3⟩ := own_shape hown
    replace hq0 := (hb3.cell (cell_lt hq0)).trans hq0
    have HO3 := hid_ hown; clear hown
    have HB3 := hid_ hb3; clear hb3
    clear HR2 ho' hg'
    have hs3 := HB3.out.size
    have HC3 := hid_ hcm3; clear hcm3
    go_loopw [6] (fun v wr => ∃ k : Nat, k ≤ n ∧ v = .int .i64 k ∧ Below w1.heap.size w1 wr ∧ wr.ownsRow w1.heap.size 3 1 (.slice A3 n2 c3) n2 (intC (viewD (L.take k) d))) (fun v _ => n - (intOf v).toNat)
    case atStart => exact ⟨0, Nat.zero_le _, rfl, HB3.out, by simpa [viewD] using HO3.out⟩
    case round =>
      obtain ⟨k, hk, rfl, hb, ho⟩ := hrel
      have HO := hid_ ho; clear ho
      have HRk := hid_ (HR.out.below hb)
      have BBk := hid_ (HB0.out.trans (hb.mono HB0.out.size))
      have hq1 := (hb.cell (cell_lt HQ1.out)).trans HQ1.out
      by_cases hlt : k < n
      · have hlt' : k < L.length := by rw [HN.out]; exact hlt
        obtain ⟨b, o, rfl, h0, h1, h2⟩ := HRk.out.ln k hlt HN.out
        obtain ⟨a, ha, han⟩ := HL.out k hlt'
        rw [HN2.out] at han
        have hS := viewD_take L d k hlt'
        obtain ⟨x, hx⟩ : ∃ x, L[k] = x := ⟨_, rfl⟩
        rw [hx] at h0 h1 h2 ha hS
        clear hx
        obtain ⟨xa, xv, xd⟩ := x
        simp only at h0 h1 h2 ha
        subst ha
        have hSC := setD_cells (viewD (L.take k) d) ⟨(a : Int), xv, xd⟩ a rfl
        rw [← hS] at hSC
        have HSC := hid_ hSC; clear hSC hS
        have hanz : (a : Int) < (n2 : Int) := by omega
        have hknz : (k : Int) < (n : Int) := by omega
        obtain ⟨g, rfl, hgB, hgl, _, _⟩ := own_block HO.out (by omega)
        obtain ⟨v0, c0, f0⟩ := own_store HO.out a (by omega)
        have hst := (World.ownsRow.stored HO.out a (.int .i64 xv)).1
        rw [HSC.out] at hst
        have HST := hid_ hst.drew; clear hst HSC
        have HBK := hid_ (hb.drew.setCell (show w1.heap.size ≤ (⟨g, a, none⟩ : Addr).block from hgB) (.int .i64 xv))
        go_wp2
        go_still_tail 14, (by kernel_rfl)
        go_wp2
        go_roundw
        case rel => exact ⟨k + 1, by omega, by go_num, HBK.out, HST.out⟩
        case measure => simp [intOf]; omega
      · obtain rfl : k = n := by omega
        have hall : L.take k = L := List.take_of_length_le (by rw [HN.out]; exact Nat.le_refl _)
        rw [hall] at HO
        have HO' := hid_ HO.out; clear HO hall
        go_wp2
        go_returns
        refine RSl.of_own' (own_base HO'.out HB0.out.size) BBk.out ?_ ?_
        · rw [HV.out, viewD_length, HN2.out]
        · rw [HV.out]
end Go.Proofs.Ytejnieoneknbbaa
