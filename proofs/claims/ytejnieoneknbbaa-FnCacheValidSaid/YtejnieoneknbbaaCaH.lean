/-
  Caches: a line is put first (the program's way).
-/
import Derived.Test.YtejnieoneknbbaaCaG
namespace Go.Proofs.Ytejnieoneknbbaa
open Go.ChangeShapes Go.WideShapes Go.ChangeAt Go.RowKit Go.BigFrame

/-- the three boxes of the function: the cache, the line, the result -/
structure Three (w W : World) (x0 x1 : Value) (x : Ln) : Prop where
  q0 : W.cell? ⟨w.heap.size, 0, none⟩ = some x0
  q1 : W.cell? ⟨w.heap.size, 1, none⟩ = some x1
  l0 : W.cell? ⟨w.heap.size + 1, 0, none⟩ = some (.int .i64 x.at_)
  l1 : W.cell? ⟨w.heap.size + 1, 1, none⟩ = some (.int .i64 x.value)
  l2 : W.cell? ⟨w.heap.size + 1, 2, none⟩ = some (.bool x.dirty)
  r0 : W.cell? ⟨w.heap.size + 1 + 1, 0, none⟩ = some (.slice none 0 0)
  r1 : W.cell? ⟨w.heap.size + 1 + 1, 1, none⟩ = some (.int .i64 0)
  f0 : W.frozen? ⟨w.heap.size + 1 + 1, 0, none⟩ = false
  f1 : W.frozen? ⟨w.heap.size + 1 + 1, 1, none⟩ = false
theorem three_mk (w : World) (x0 x1 : Value) (x : Ln) (T T' T'' : TypeId) : Three w (((w.alloc (.cells #[x0, x1] T)).alloc (.cells #[.int .i64 x.at_, .int .i64 x.value, .bool x.dirty] T')).alloc (.cells #[.slice none 0 0, .int .i64 0] T'')) x0 x1 x := by
  refine ⟨?_, ?_, ?_, ?_, ?_, ?_, ?_, ?_, ?_⟩ <;> simp [go_sem]
theorem Three.later {w W wr : World} {x0 x1 : Value} {x : Ln} (h : Three w W x0 x1 x) (hs : W.heap.size = w.heap.size + 1 + 1 + 1) (hb : Below W.heap.size W wr) : Three w wr x0 x1 x :=
  ⟨(hb.cell (cell_lt h.q0)).trans h.q0, (hb.cell (cell_lt h.q1)).trans h.q1, (hb.cell (cell_lt h.l0)).trans h.l0, (hb.cell (cell_lt h.l1)).trans h.l1, (hb.cell (cell_lt h.l2)).trans h.l2, (hb.cell (cell_lt h.r0)).trans h.r0, (hb.cell (cell_lt h.r1)).trans h.r1, (hb.frozen (show w.heap.size + 1 + 1 < _ by omega)).trans h.f0, (hb.frozen (show w.heap.size + 1 + 1 < _ by omega)).trans h.f1⟩

/-- the lines when k of the old ones have been looked at -/
def useK (L : List Ln) (x : Ln) (k : Nat) : List Ln := x :: (L.take k).filter (fun y => y.at_ != x.at_)
theorem useK_zero (L : List Ln) (x : Ln) : useK L x 0 = [x] := by simp [useK]
theorem useK_all (L : List Ln) (x : Ln) : useK L x L.length = useAll L x := by simp [useK, useAll]
theorem useK_yes {L : List Ln} {x : Ln} {k : Nat} (h : k < L.length) (hne : L[k].at_ ≠ x.at_) : useK L x (k + 1) = useK L x k ++ [L[k]] := by
  unfold useK
  rw [List.take_succ_eq_append_getElem h, List.filter_append]
  have : ([L[k]] : List Ln).filter (fun y => y.at_ != x.at_) = [L[k]] := by simp [hne]
  rw [this]; rfl
theorem useK_no {L : List Ln} {x : Ln} {k : Nat} (h : k < L.length) (he : L[k].at_ = x.at_) : useK L x (k + 1) = useK L x k := by
  unfold useK
  rw [List.take_succ_eq_append_getElem h, List.filter_append]
  have : ([L[k]] : List Ln).filter (fun y => y.at_ != x.at_) = [] := by simp [he]
  rw [this]; simp
theorem useK_len (L : List Ln) (x : Ln) (k : Nat) : 1 ≤ (useK L x k).length ∧ (useK L x k).length ≤ k + 1 := by
  unfold useK
  have := List.length_filter_le (fun y : Ln => y.at_ != x.at_) (L.take k)
  rw [List.length_take] at this
  simp only [List.length_cons]
  omega
/-- what the end of the function does -/
theorem use_short {L : List Ln} {m : Nat} {d : List Int} {x : Ln} (h : (useAll L x).length ≤ m) : (Ca.mk L (m : Int) d).use x = ⟨useAll L x, m, d⟩ := by
  unfold Ca.use useD
  simp only [Int.toNat_natCast]
  rw [List.take_of_length_le h, List.getElem?_eq_none h]
theorem use_long {L : List Ln} {m : Nat} {d : List Int} {x : Ln} (h : m < (useAll L x).length) : (Ca.mk L (m : Int) d).use x = ⟨(useAll L x).take m, m, dropD d (useAll L x)[m]⟩ := by
  unfold Ca.use useD
  simp only [Int.toNat_natCast]
  rw [List.getElem?_eq_getElem h]
theorem use_nat {L : List Ln} {m : Int} {d : List Int} {x : Ln} (h : Ca.ok ⟨L, m, d⟩ = true) (hx : 0 ≤ x.at_ ∧ x.at_ < d.length) (k : Nat) (hk : k < (useAll L x).length) : ∃ a : Nat, (useAll L x)[k].at_ = (a : Int) ∧ a < d.length := by
  rcases mem_useAll (List.getElem_mem hk) with e | ⟨e, _⟩
  · rw [e]; exact ⟨x.at_.toNat, by omega, by omega⟩
  · have := (ok_iff.1 h).lns _ e
    simp only at this
    exact ⟨(useAll L x)[k].at_.toNat, by omega, by omega⟩
theorem own_cut {w : World} {B E k n m c : Nat} {A : Option Addr} {xs : List Value} (h : w.ownsRow B E k (.slice A n c) n xs) (hm : m ≤ n) : w.ownsRow B E k (.slice A m c) m (xs.take (m * k)) := by
  rcases h.2 with ⟨h', h''⟩ | ⟨g', cap', cur, h', hb, hg, hnc, hcm, hcs, htake⟩
  · injection h' with e1 e2 e3
    subst e1; subst e2; subst e3
    obtain rfl : m = 0 := by omega
    exact ⟨by simp, .inl ⟨rfl, by simp⟩⟩
  · injection h' with e1 e2 e3
    subst e1; subst e3
    refine ⟨?_, .inr ⟨g', c, cur, rfl, hb, hg, by omega, hcm, hcs, ?_⟩⟩
    · rw [List.length_take, h.1]; exact Nat.min_eq_left (Nat.mul_le_mul_right _ hm)
    · rw [← htake, List.take_take, Nat.min_eq_left (Nat.mul_le_mul_right _ hm)]

theorem RCaD.later {w w1 w2 : World} {C : Ca} {e : Ending} (h : RCaD w C e w1) (hb : Below w1.heap.size w1 w2) : RCaD w C e w2 := by
  obtain ⟨A, c, A2, c2, he, h1, h2, h3, h4, h5, h6, h7⟩ := h
  exact ⟨A, c, A2, c2, he, h1, h2, h3, h4, own_below h5 hb, own_below h6 hb, h7.trans (hb.mono h7.size)⟩
set_option maxHeartbeats 2000000 in
theorem used_any (L : List Ln) (A : Option Addr) (n c : Nat) (m : Nat) (d : List Int) (A2 : Option Addr) (n2 c2 : Nat) (x : Ln) (w : World) (hn : L.length = n) (hm : n ≤ 1048576) (hR : Rd w 3 A n (lnC L)) (hn2 : d.length = n2) (hm2 : n2 ≤ 1048576) (hR2 : Rd w 1 A2 n2 (intC d)) (hok : Ca.ok ⟨L, m, d⟩ = true) (hx : 0 ≤ x.at_ ∧ x.at_ < d.length) :
    Calls Try.prog 58 #[.agg #[.slice A n c, .int .i64 m], .slice A2 n2 c2, .agg #[.int .i64 x.at_, .int .i64 x.value, .bool x.dirty]] w (RCaD w ((Ca.mk L (m : Int) d).use x)) := by
  have HN := hid_ hn; clear hn
  have HN2 := hid_ hn2; clear hn2
  have HU := hid_ (fun k hk => use_nat hok hx k hk)
  have hm8 : m ≤ 8 ∧ 1 ≤ m := by have := ok_iff.1 hok; have h1 := this.m1; have h2 := this.m0; simp only at h1 h2; omega
  have hn8 : n ≤ m := by have := (ok_iff.1 hok).most; simp only at this; have := HN.out; omega
  clear hok hx
  have HB0 := hid_ ((((Below.refl w.heap.size w).alloc (Nat.le_refl _) (.cells #[.slice A n c, .int .i64 m] 29)).alloc (by simp) (.cells #[.int .i64 x.at_, .int .i64 x.value, .bool x.dirty] 38)).alloc (by simp; omega) (.cells #[.slice none 0 0, .int .i64 0] 29))
  have HR := hid_ (((hR.alloc (.cells #[.slice A n c, .int .i64 m] 29)).alloc (.cells #[.int .i64 x.at_, .int .i64 x.value, .bool x.dirty] 38)).alloc (.cells #[.slice none 0 0, .int .i64 0] 29)); clear hR
  have HR2 := hid_ (((hR2.alloc (.cells #[.slice A n c, .int .i64 m] 29)).alloc (.cells #[.int .i64 x.at_, .int .i64 x.value, .bool x.dirty] 38)).alloc (.cells #[.slice none 0 0, .int .i64 0] 29)); clear hR2
  have HQ := hid_ (three_mk w (.slice A n c) (.int .i64 m) x 29 38 29)
  obtain ⟨wb, hwb⟩ : ∃ wb, ((w.alloc (.cells #[.slice A n c, .int .i64 m] 29)).alloc (.cells #[.int .i64 x.at_, .int .i64 x.value, .bool x.dirty] 38)).alloc (.cells #[.slice none 0 0, .int .i64 0] 29) = wb := ⟨_, rfl⟩
  have hbs : wb.heap.size = w.heap.size + 1 + 1 + 1 := by rw [← hwb]; simp
  have HBS := hid_ hbs; clear hbs
  rw [hwb] at HR HR2 HB0 HQ
  go_enter Try.func58, Try.ntmps58
  go_wp2_with fail
  clear hwb
  refine (cloneI_any d A2 n2 c2 _ HN2.out hm2 HR2.out).mono ?_
  rintro e w1 ⟨A3, c3, rfl, _, _, ho3, hb3⟩
  clear HR2
  obtain ⟨q0, q1, l0, l1, l2, -, -, -, -⟩ := HQ.out.later HBS.out hb3
  have hs3 := hb3.size
  have HOd := hid_ (ho3.alloc (.cells #[.int .i64 x.at_, .int .i64 x.value, .bool x.dirty] 38)); clear ho3
  have HOl := hid_ (show (w1.alloc (.cells #[.int .i64 x.at_, .int .i64 x.value, .bool x.dirty] 38)).ownsRow wb.heap.size 38 3 (.slice (some ⟨w1.heap.size, 0, none⟩) 1 1) 1 (lnC (useK L x 0)) from by
    rw [useK_zero]
    exact World.ownsRow_lit (e := 38) (size := 3) w1 #[.int .i64 x.at_, .int .i64 x.value, .bool x.dirty] 1 hs3 (by simp [maxLen]) rfl)
  have HB3 := hid_ (hb3.alloc hs3 (.cells #[.int .i64 x.at_, .int .i64 x.value, .bool x.dirty] 38))
  clear hb3
  have hlt1 : w.heap.size + 1 < w1.heap.size := by have := HBS.out; omega
  have hlt0 : w.heap.size < w1.heap.size := by omega
  have hlt2 : w.heap.size + 1 + 1 < w1.heap.size := by have := HBS.out; omega
  go_wp2
  clear q0 q1 l0 l1 l2
  go_loopw [9, 20] (fun vl v wr => ∃ (k N : Nat), k ≤ n ∧ v = .int .i64 k ∧ (useK L x k).length = N ∧ N ≤ k + 1 ∧ Below wb.heap.size wb wr ∧ wr.ownsRow wb.heap.size 38 3 vl N (lnC (useK L x k)) ∧ wr.ownsRow wb.heap.size 3 1 (.slice A3 n2 c3) n2 (intC d)) (fun _ v _ => n - (intOf v).toNat)
  case atStart => exact ⟨0, 1, Nat.zero_le _, rfl, by rw [useK_zero]; rfl, by omega, HB3.out, HOl.out, HOd.out⟩
  case round =>
    obtain ⟨k, N, hk, rfl, hNk, hN1, hb, ho1, ho2⟩ := hrel
    clear HOl HOd HB3 hlt0 hlt1 hlt2 hs3
    have HNK := hid_ hNk; clear hNk
    have HO1 := hid_ ho1; clear ho1
    have HO2 := hid_ ho2; clear ho2
    have hws := hb.size
    obtain ⟨q0, q1, l0, l1, l2, r0, r1, f0, f1⟩ := HQ.out.later HBS.out hb
    have hlt1 : w.heap.size + 1 < wr.heap.size := by have := HBS.out; omega
    have hlt0 : w.heap.size < wr.heap.size := by omega
    have hlt2 : w.heap.size + 1 + 1 < wr.heap.size := by have := HBS.out; omega
    by_cases hlt : k < n
    · have hlt' : k < L.length := by rw [HN.out]; exact hlt
      obtain ⟨b, o, rfl, h0, h1, h2⟩ := (HR.out.below hb).ln k hlt HN.out
      by_cases hat : L[k].at_ = x.at_
      · have HU1 := hid_ (useK_no hlt' hat)
        have hd : decide (L[k].at_ = x.at_) = true := decide_eq_true hat
        have hd2 : (L[k].at_ == x.at_) = true := by simpa using hat
        clear hat
        go_wp2
        go_roundw
        case rel => exact ⟨k + 1, N, by omega, by go_num, by rw [HU1.out]; exact HNK.out, by omega, hb.alloc hws _, by rw [HU1.out]; exact HO1.out.alloc _, HO2.out.alloc _⟩
        case measure => simp [intOf]; omega
      · have HU1 := hid_ (useK_yes hlt' hat)
        have hd : decide (L[k].at_ = x.at_) = false := decide_eq_false hat
        have hd2 : (L[k].at_ == x.at_) = false := by simpa using hat
        clear hat
        go_wp2_with ((at_builtin; refine wpList_push _ rfl _ _ 27 rfl wb.heap.size 38 (.agg #[.int .i64 0, .int .i64 0, .bool false]) 3 24 Try.underlying27 ln_info rfl (by decide) (by decide) _ _ rfl rfl _ _ _ (HO1.out.alloc _) rfl _ rfl (by simp) (by omega) (by simp; omega) ?_; intro v' w' ho' hg'))
        go_roundw
        case rel =>
          refine ⟨k + 1, N + 1, by omega, by go_num, by rw [HU1.out]; simp [HNK.out], by omega, (hb.alloc hws _).grown hg' (by simp; omega) (fun g e => (HO1.out.lt g e).1), own_eq ho' rfl (by rw [HU1.out, lnC_append]; rfl), own_other (HO2.out.alloc _) (HO1.out.alloc _) (by decide) hg'⟩
        case measure => simp [intOf]; omega
    · obtain rfl : k = n := by omega
      have hall : useK L x k = useAll L x := by rw [← HN.out]; exact useK_all L x
      rw [hall] at HO1 HNK
      clear hall
      obtain ⟨U, hU⟩ : ∃ U, useAll L x = U := ⟨_, rfl⟩
      have HSH := hid_ (fun h => use_short (L := L) (m := m) (d := d) (x := x) h)
      have HLG := hid_ (fun h => use_long (L := L) (m := m) (d := d) (x := x) h)
      rw [hU] at HO1 HNK HU HSH HLG
      clear hU
      have HBF := hid_ (HB0.out.trans (hb.mono HB0.out.size))
      obtain ⟨Al, cl, rfl, hcl, _⟩ := own_shape HO1.out
      by_cases hlong : m < N
      · have hmz : (m : Int) < (N : Int) := by omega
        have hmU : m < U.length := by have := HNK.out; omega
        have hLG := HLG.out hmU
        obtain ⟨a, ha, han⟩ := HU.out m hmU
        rw [HN2.out] at han
        obtain ⟨b4, o4, rfl, h0, h1, h2⟩ := (own_rd HO1.out).ln m hlong HNK.out
        obtain ⟨y, hy⟩ : ∃ y, U[m] = y := ⟨_, rfl⟩
        rw [hy] at h0 h1 h2 ha hLG
        clear hy
        obtain ⟨ya, yv, yd⟩ := y
        simp only at h0 h1 h2 ha
        subst ha
        have hanz : (a : Int) < (n2 : Int) := by omega
        have hmc : (m : Int) ≤ (cl : Int) := by omega
        have hm0 : (0 : Int) ≤ (m : Int) := by omega
        have hTL := hid_ (show (U.take m).length = m by rw [List.length_take]; omega)
        cases yd
        · have HS := hid_ (show (Ca.mk L (m : Int) d).use x = ⟨U.take m, m, d⟩ from hLG)
          clear hLG
          have hcut := own_cut HO1.out (show m ≤ N by omega)
          rw [lnC_take] at hcut
          have HCUT := hid_ hcut; clear hcut
          obtain ⟨k0, k1⟩ := bx_set (w := wr) (.slice (some ⟨b4, o4, none⟩) m cl) (.int .i64 m) r0 r1
          go_wp2
          refine bodyPost_ret (v := .tuple #[.agg #[.slice (some ⟨b4, o4, none⟩) m cl, .int .i64 m], .slice A3 n2 c3]) (by simp [results, Try.results58, go_sem, k0, k1, hlt2]) rfl ?_
          rw [HS.out]
          exact (RCaD.fin (C := ⟨U.take m, m, d⟩) (b := w.heap.size + 1 + 1) (by omega) (show w.heap.size + 1 + 1 < wb.heap.size by have := HBS.out; omega) (own_eq HCUT.out hTL.out.symm rfl) (own_eq HO2.out HN2.out.symm rfl) HBF.out _ _).later ((Below.refl _ _).alloc (Nat.le_refl _) _)
        · have HS := hid_ (show (Ca.mk L (m : Int) d).use x = ⟨U.take m, m, setD d ⟨(a : Int), yv, true⟩⟩ from hLG)
          clear hLG
          have hSC := setD_cells d ⟨(a : Int), yv, true⟩ a rfl
          simp only at hSC
          have HSC := hid_ hSC; clear hSC
          obtain ⟨g3, rfl, hg3B, hg3l, _, _⟩ := own_block HO2.out (by omega)
          obtain ⟨v0, c0, f0d⟩ := own_store HO2.out a (by omega)
          have hst0 := World.ownsRow.stored HO2.out a (.int .i64 yv)
          rw [HSC.out] at hst0
          have HST0 := hid_ hst0; clear hst0 HSC
          have hcut := own_cut (own_other HO1.out HO2.out (by decide) HST0.out.2) (show m ≤ N by omega)
          rw [lnC_take] at hcut
          have HCUT := hid_ hcut; clear hcut
          have HSL := hid_ (show (setD d ⟨(a : Int), yv, true⟩).length = n2 by rw [setD_length]; exact HN2.out)
          have hg3r : ¬ g3 = w.heap.size + 1 + 1 := by have := HBS.out; omega
          have hg3q : ¬ g3 = w.heap.size := by have := HBS.out; omega
          have hr0 : (wr.setCell ⟨g3, a, none⟩ (.int .i64 yv)).cell? ⟨w.heap.size + 1 + 1, 0, none⟩ = some (.slice none 0 0) := by rw [World.cell?_setCell_other _ _ _ _ (by first | (simp; done) | simp [hg3r])]; exact r0
          have hr1 : (wr.setCell ⟨g3, a, none⟩ (.int .i64 yv)).cell? ⟨w.heap.size + 1 + 1, 1, none⟩ = some (.int .i64 0) := by rw [World.cell?_setCell_other _ _ _ _ (by first | (simp; done) | simp [hg3r])]; exact r1
          obtain ⟨k0, k1⟩ := bx_set (w := wr.setCell ⟨g3, a, none⟩ (.int .i64 yv)) (.slice (some ⟨b4, o4, none⟩) m cl) (.int .i64 m) hr0 hr1
          go_wp2
          refine bodyPost_ret (v := .tuple #[.agg #[.slice (some ⟨b4, o4, none⟩) m cl, .int .i64 m], .slice (some ⟨g3, 0, none⟩) n2 c3]) (by simp [results, Try.results58, go_sem, k0, k1, hlt2]) rfl ?_
          rw [HS.out]
          exact (RCaD.fin (wr := wr.setCell ⟨g3, a, none⟩ (.int .i64 yv)) (C := ⟨U.take m, m, setD d ⟨(a : Int), yv, true⟩⟩) (b := w.heap.size + 1 + 1) (by omega) (show w.heap.size + 1 + 1 < wb.heap.size by have := HBS.out; omega) (own_eq HCUT.out hTL.out.symm rfl) (own_eq HST0.out.1 HSL.out.symm rfl) (HBF.out.setCell (show w.heap.size ≤ g3 by have := HBS.out; omega) _) _ _).later ((Below.refl _ _).alloc (Nat.le_refl _) _)
      · have HS := hid_ (HSH.out (by have := HNK.out; omega))
        have hmz : ¬ (m : Int) < (N : Int) := by omega
        obtain ⟨k0, k1⟩ := bx_set (w := wr) (.slice Al N cl) (.int .i64 m) r0 r1
        go_wp2
        refine bodyPost_ret (v := .tuple #[.agg #[.slice Al N cl, .int .i64 m], .slice A3 n2 c3]) (by simp [results, Try.results58, go_sem, k0, k1]) rfl ?_
        rw [HS.out]
        exact RCaD.fin (C := ⟨U, m, d⟩) (by omega) (show w.heap.size + 1 + 1 < wb.heap.size by have := HBS.out; omega) (own_eq HO1.out HNK.out.symm rfl) (own_eq HO2.out HN2.out.symm rfl) HBF.out _ _
end Go.Proofs.Ytejnieoneknbbaa
