/-
  Caches: flushing.
-/
import Derived.Test.YtejnieoneknbbaaCaE
namespace Go.Proofs.Ytejnieoneknbbaa
open Go.ChangeShapes Go.WideShapes Go.ChangeAt Go.RowKit Go.BigFrame

/-- the result is a cache and a disk of the call's own -/
def RCaD (w : World) (C : Ca) (e : Ending) (w' : World) : Prop :=
  ∃ A c A2 c2, e = .returned (.tuple #[.agg #[.slice A C.L.length c, .int .i64 C.M], .slice A2 C.D.length c2]) ∧ C.L.length ≤ c ∧ c ≤ maxLen ∧ C.D.length ≤ c2 ∧ c2 ≤ maxLen ∧
    w'.ownsRow w.heap.size 38 3 (.slice A C.L.length c) C.L.length (lnC C.L) ∧ w'.ownsRow w.heap.size 3 1 (.slice A2 C.D.length c2) C.D.length (intC C.D) ∧ Below w.heap.size w w'
theorem RCaD.mk_ {w w' : World} {C : Ca} {vL vD : Value} (hL : w'.ownsRow w.heap.size 38 3 vL C.L.length (lnC C.L)) (hD : w'.ownsRow w.heap.size 3 1 vD C.D.length (intC C.D)) (hb : Below w.heap.size w w') :
    RCaD w C (.returned (.tuple #[.agg #[vL, .int .i64 C.M], vD])) w' := by
  obtain ⟨A, c, rfl, h1, h2⟩ := own_shape hL
  obtain ⟨A2, c2, rfl, h3, h4⟩ := own_shape hD
  exact ⟨A, c, A2, c2, rfl, h1, h2, h3, h4, hL, hD, hb⟩
/-- behind the store into the result's box -/
theorem RCaD.fin {w wr : World} {C : Ca} {vL vD : Value} {b B : Nat} (hb1 : w.heap.size ≤ b) (hb2 : b < B) (hL : wr.ownsRow B 38 3 vL C.L.length (lnC C.L)) (hD : wr.ownsRow B 3 1 vD C.D.length (intC C.D)) (hb : Below w.heap.size w wr) (v0 v1 : Value) :
    RCaD w C (.returned (.tuple #[.agg #[vL, .int .i64 C.M], vD])) ((wr.setCell ⟨b, 0, none⟩ v0).setCell ⟨b, 1, none⟩ v1) := by
  have hl : ∀ {x : World} {E k n : Nat} {v : Value} {xs : List Value} (o : Nat) (u : Value), x.ownsRow B E k v n xs → (x.setCell ⟨b, o, none⟩ u).ownsRow B E k v n xs := fun o u h => own_set h (fun e => by have := (h.lt b e).1; omega)
  exact RCaD.mk_ (own_base (hl _ _ (hl _ _ hL)) (by omega)) (own_base (hl _ _ (hl _ _ hD)) (by omega)) ((hb.setCell (show w.heap.size ≤ (⟨b, 0, none⟩ : Addr).block from hb1) _).setCell (show w.heap.size ≤ (⟨b, 1, none⟩ : Addr).block from hb1) _)
/-- the cells of a box of two, behind the two stores -/
theorem bx_set {w : World} {b : Nat} {x y : Value} (v0 v1 : Value) (h0 : w.cell? ⟨b, 0, none⟩ = some x) (h1 : w.cell? ⟨b, 1, none⟩ = some y) :
    (w.setCell ⟨b, 0, none⟩ v0).cell? ⟨b, 0, none⟩ = some v0 ∧ ((w.setCell ⟨b, 0, none⟩ v0).setCell ⟨b, 1, none⟩ v1).cell? ⟨b, 1, none⟩ = some v1 :=
  ⟨World.cell?_setCell_same _ _ _ h0, World.cell?_setCell_same _ _ _ (by rw [World.cell?_setCell_other _ _ _ _ (by simp)]; exact h1)⟩

/-- the box of the argument and that of the result -/
theorem two_boxes (w : World) (x0 x1 : Value) (T T' : TypeId) :
    ((w.alloc (.cells #[x0, x1] T)).alloc (.cells #[.slice none 0 0, .int .i64 0] T')).cell? ⟨w.heap.size, 0, none⟩ = some x0 ∧ ((w.alloc (.cells #[x0, x1] T)).alloc (.cells #[.slice none 0 0, .int .i64 0] T')).cell? ⟨w.heap.size, 1, none⟩ = some x1 ∧
    ((w.alloc (.cells #[x0, x1] T)).alloc (.cells #[.slice none 0 0, .int .i64 0] T')).cell? ⟨w.heap.size + 1, 0, none⟩ = some (.slice none 0 0) ∧ ((w.alloc (.cells #[x0, x1] T)).alloc (.cells #[.slice none 0 0, .int .i64 0] T')).cell? ⟨w.heap.size + 1, 1, none⟩ = some (.int .i64 0) ∧
    ((w.alloc (.cells #[x0, x1] T)).alloc (.cells #[.slice none 0 0, .int .i64 0] T')).frozen? ⟨w.heap.size + 1, 0, none⟩ = false ∧ ((w.alloc (.cells #[x0, x1] T)).alloc (.cells #[.slice none 0 0, .int .i64 0] T')).frozen? ⟨w.heap.size + 1, 1, none⟩ = false := by
  refine ⟨?_, ?_, ?_, ?_, ?_, ?_⟩ <;> simp [go_sem]
theorem two_later {w W wr : World} {x0 x1 : Value} (h : W.cell? ⟨w.heap.size, 0, none⟩ = some x0 ∧ W.cell? ⟨w.heap.size, 1, none⟩ = some x1 ∧ W.cell? ⟨w.heap.size + 1, 0, none⟩ = some (.slice none 0 0) ∧ W.cell? ⟨w.heap.size + 1, 1, none⟩ = some (.int .i64 0) ∧ W.frozen? ⟨w.heap.size + 1, 0, none⟩ = false ∧ W.frozen? ⟨w.heap.size + 1, 1, none⟩ = false) (hs : W.heap.size = w.heap.size + 1 + 1) (hb : Below W.heap.size W wr) :
    wr.cell? ⟨w.heap.size, 0, none⟩ = some x0 ∧ wr.cell? ⟨w.heap.size, 1, none⟩ = some x1 ∧ wr.cell? ⟨w.heap.size + 1, 0, none⟩ = some (.slice none 0 0) ∧ wr.cell? ⟨w.heap.size + 1, 1, none⟩ = some (.int .i64 0) ∧ wr.frozen? ⟨w.heap.size + 1, 0, none⟩ = false ∧ wr.frozen? ⟨w.heap.size + 1, 1, none⟩ = false := by
  obtain ⟨h0, h1, h2, h3, h4, h5⟩ := h
  exact ⟨(hb.cell (cell_lt h0)).trans h0, (hb.cell (cell_lt h1)).trans h1, (hb.cell (cell_lt h2)).trans h2, (hb.cell (cell_lt h3)).trans h3, (hb.frozen (show w.heap.size + 1 < _ by omega)).trans h4, (hb.frozen (show w.heap.size + 1 < _ by omega)).trans h5⟩

theorem lnC_set2 (l : List Ln) (k : Nat) (c : Bool) (hk : k < l.length) : (lnC l).set (k * 3 + 2) (.bool c) = lnC (l.set k ⟨l[k].at_, l[k].value, c⟩) := by
  induction l generalizing k with
  | nil => simp at hk
  | cons x r ih =>
    have e : ∀ (y : Ln) (s : List Ln), lnC (y :: s) = Value.int .i64 y.at_ :: .int .i64 y.value :: .bool y.dirty :: lnC s := fun y s => rfl
    cases k with
    | zero => simp [e]
    | succ k =>
      have hk' : k < r.length := by simpa using hk
      have e2 : (k + 1) * 3 + 2 = (k * 3 + 2) + 1 + 1 + 1 := by omega
      rw [e, e2]
      simp only [List.set_cons_succ, List.getElem_cons_succ]
      rw [ih k hk', e]
/-- k lines cleared -/
def clrK (L : List Ln) (k : Nat) : List Ln := (L.take k).map clr ++ L.drop k
theorem clrK_length (L : List Ln) (k : Nat) : (clrK L k).length = L.length := by simp [clrK]; omega
theorem clrK_get (L : List Ln) (k : Nat) (h : k < L.length) : (clrK L k)[k]'(by rw [clrK_length]; exact h) = L[k] := by
  unfold clrK
  rw [List.getElem_append_right (by simp; omega)]
  simp [Nat.min_eq_left (Nat.le_of_lt h)]
theorem clrK_set (L : List Ln) (k : Nat) (h : k < L.length) : (clrK L k).set k (clr L[k]) = clrK L (k + 1) := by
  unfold clrK
  have hl : ((L.take k).map clr).length = k := by simp; omega
  rw [List.set_append_right _ _ (by omega), hl, Nat.sub_self, List.drop_eq_getElem_cons h, List.set_cons_zero, List.take_succ_eq_append_getElem h, List.map_append]
  simp
theorem clrK_all (L : List Ln) : clrK L L.length = L.map clr := by simp [clrK]
theorem flushD_take (L : List Ln) (d : List Int) (k : Nat) (h : k < L.length) : flushD (L.take (k + 1)) d = dropD (flushD (L.take k) d) L[k] := by
  rw [← List.take_append_getElem h]; unfold flushD; rw [List.foldl_append]; rfl

set_option maxHeartbeats 1600000 in
theorem flushed_any (L : List Ln) (A : Option Addr) (n c : Nat) (m : Int) (d : List Int) (A2 : Option Addr) (n2 c2 : Nat) (w : World) (hn : L.length = n) (hm : n ≤ 1048576) (hR : Rd w 3 A n (lnC L)) (hn2 : d.length = n2) (hm2 : n2 ≤ 1048576) (hR2 : Rd w 1 A2 n2 (intC d)) (hok : Ca.ok ⟨L, m, d⟩ = true) :
    Calls Try.prog 60 #[.agg #[.slice A n c, .int .i64 m], .slice A2 n2 c2] w (RCaD w ⟨L.map clr, m, flushD L d⟩) := by
  have HN := hid_ hn; clear hn
  have HN2 := hid_ hn2; clear hn2
  have HL := hid_ (fun k hk => ln_nat hok k hk); clear hok
  have HB0 := hid_ (((Below.refl w.heap.size w).alloc (Nat.le_refl _) (.cells #[.slice A n c, .int .i64 m] 29)).alloc (by simp) (.cells #[.slice none 0 0, .int .i64 0] 29))
  have HR := hid_ ((hR.alloc (.cells #[.slice A n c, .int .i64 m] 29)).alloc (.cells #[.slice none 0 0, .int .i64 0] 29)); clear hR
  have HR2 := hid_ ((hR2.alloc (.cells #[.slice A n c, .int .i64 m] 29)).alloc (.cells #[.slice none 0 0, .int .i64 0] 29)); clear hR2
  have HQ := hid_ (two_boxes w (.slice A n c) (.int .i64 m) 29 29)
  go_enter Try.func60, Try.ntmps60
  obtain ⟨wb, hwb⟩ : ∃ wb, (w.alloc (.cells #[.slice A n c, .int .i64 m] 29)).alloc (.cells #[.slice none 0 0, .int .i64 0] 29) = wb := ⟨_, rfl⟩
  have hbs : wb.heap.size = w.heap.size + 1 + 1 := by rw [← hwb]; simp
  have HBS := hid_ hbs; clear hbs
  go_wp2_with fail
  rw [hwb] at HR HR2 HB0 HQ
  clear hwb
  refine (cloneI_any d A2 n2 c2 _ HN2.out hm2 HR2.out).mono ?_
  rintro e w1 ⟨A3, c3, rfl, hc3, hcm3, ho3, hb3⟩
  have HO3 := hid_ ho3; clear ho3 hc3 hcm3
  replace HR := hid_ (HR.out.below hb3)
  have HB1 := hid_ hb3
  clear HR2
  have q0 := (hb3.cell (cell_lt HQ.out.1)).trans HQ.out.1
  clear hb3
  go_wp2_with fail
  refine (cloneLn_any L A n c _ HN.out hm HR.out).mono ?_
  rintro e w2 ⟨A4, c4, rfl, hc4, hcm4, ho4, hb4⟩
  have HC4 := hid_ hcm4
  have HO4 := hid_ (own_base ho4 HB1.out.size); clear ho4 hc4 hcm4
  have HO5 := hid_ (own_below HO3.out hb4)
  have HB2 := hid_ (HB1.out.trans (hb4.mono HB1.out.size))
  clear HR HO3 hb4 HB1 q0
  go_wp2
  go_loopw [17] (fun v wr => ∃ k : Nat, k ≤ n ∧ v = .int .i64 k ∧ Below wb.heap.size wb wr ∧ wr.ownsRow wb.heap.size 38 3 (.slice A4 n c4) n (lnC (clrK L k)) ∧ wr.ownsRow wb.heap.size 3 1 (.slice A3 n2 c3) n2 (intC (flushD (L.take k) d))) (fun v _ => n - (intOf v).toNat)
  case atStart => exact ⟨0, Nat.zero_le _, rfl, HB2.out, by simpa [clrK] using HO4.out, by simpa [flushD] using HO5.out⟩
  case round =>
    obtain ⟨k, hk, rfl, hb, ho1, ho2⟩ := hrel
    clear HO4 HO5 HB2
    have HO1 := hid_ ho1; clear ho1
    have HO2 := hid_ ho2; clear ho2
    have hws := hb.size
    by_cases hlt : k < n
    · have hlt' : k < L.length := by rw [HN.out]; exact hlt
      obtain ⟨g4, rfl, hg4B, hg4l, _, _⟩ := own_block HO1.out (by omega)
      obtain ⟨b', o', he', h0, h1, h2⟩ := (own_rd HO1.out).ln k hlt (by rw [clrK_length]; exact HN.out)
      injection he' with he'
      injection he' with hx hy
      subst hx; subst hy
      rw [clrK_get L k hlt'] at h0 h1 h2
      simp only [Nat.zero_add] at h0 h1 h2
      obtain ⟨a, ha, han⟩ := HL.out k hlt'
      rw [HN2.out] at han
      have hS := flushD_take L d k hlt'
      have hT := lnC_set2 (clrK L k) k false (by rw [clrK_length]; exact hlt')
      rw [clrK_get L k hlt'] at hT
      have hT2 := clrK_set L k hlt'
      unfold clr at hT2
      rw [hT2] at hT
      clear hT2
      obtain ⟨x, hx⟩ : ∃ x, L[k] = x := ⟨_, rfl⟩
      rw [hx] at h0 h1 h2 ha hS
      clear hx
      obtain ⟨xa, xv, xd⟩ := x
      simp only at h0 h1 h2 ha
      subst ha
      have HT := hid_ hT; clear hT
      have fb : wr.frozen? ⟨g4, k * 3 + 2, none⟩ = false := World.ownsRow.frozenAt HO1.out _
      have hknz : (k : Int) < (n : Int) := by omega
      cases xd
      · have HS := hid_ (show flushD (L.take (k + 1)) d = flushD (L.take k) d from hS)
        clear hS
        have hst := World.ownsRow.stored HO1.out (k * 3 + 2) (.bool false)
        rw [HT.out] at hst
        have HST := hid_ hst; clear hst
        have HOD := hid_ (own_other HO2.out HO1.out (by decide) HST.out.2)
        have HBK := hid_ (hb.setCell (show wb.heap.size ≤ (⟨g4, k * 3 + 2, none⟩ : Addr).block from hg4B) (.bool false))
        have hws2 := HBK.out.size
        go_wp2
        go_roundw
        case rel => exact ⟨k + 1, by omega, by go_num, HBK.out.alloc hws2 _, HST.out.1.alloc _, by rw [HS.out]; exact HOD.out.alloc _⟩
        case measure => simp [intOf]; omega
      · have hSC := setD_cells (flushD (L.take k) d) ⟨(a : Int), xv, true⟩ a rfl
        have HS := hid_ (show flushD (L.take (k + 1)) d = setD (flushD (L.take k) d) ⟨(a : Int), xv, true⟩ from hS)
        rw [← HS.out] at hSC
        have HSC := hid_ hSC; clear hSC hS
        have hanz : (a : Int) < (n2 : Int) := by omega
        obtain ⟨g3, rfl, hg3B, hg3l, _, _⟩ := own_block HO2.out (by omega)
        obtain ⟨v0, c0, f0⟩ := own_store HO2.out a (by omega)
        have hst0 := World.ownsRow.stored HO2.out a (.int .i64 xv)
        simp only at HSC
        rw [HSC.out] at hst0
        have HST0 := hid_ hst0; clear hst0
        have HO1' := hid_ (own_other HO1.out HO2.out (by decide) HST0.out.2)
        have hst := World.ownsRow.stored HO1'.out (k * 3 + 2) (.bool false)
        rw [HT.out] at hst
        have HST := hid_ hst; clear hst
        have HOD := hid_ (own_other HST0.out.1 HO1'.out (by decide) HST.out.2)
        have HBK := hid_ ((hb.setCell (show wb.heap.size ≤ (⟨g3, a, none⟩ : Addr).block from hg3B) (.int .i64 xv)).setCell (show wb.heap.size ≤ (⟨g4, k * 3 + 2, none⟩ : Addr).block from hg4B) (.bool false))
        have hws2 := HBK.out.size
        have hne : g3 ≠ g4 := fun e => by
          subst e
          obtain ⟨vz, cz, _⟩ := own_store HO2.out a (by omega)
          rcases HO1.out.2 with ⟨h', _⟩ | ⟨g', cap', cur', h', _, hh', _⟩
          · cases h'
          · rcases HO2.out.2 with ⟨h2', _⟩ | ⟨g'', cap'', cur'', h2', _, hh'', _⟩
            · cases h2'
            · injection h' with h'; injection h' with h'; injection h' with h'
              injection h2' with h2'; injection h2' with h2'; injection h2' with h2'
              rw [← h'] at hh'
              rw [← h2'] at hh''
              rw [hh'] at hh''
              injection hh'' with hh''
              injection hh'' with hh1 hh2
              exact absurd hh2 (by decide)
        have cb' : (wr.setCell ⟨g3, a, none⟩ (.int .i64 xv)).cell? ⟨g4, k * 3 + 2, none⟩ = some (.bool true) := by
          rw [World.cell?_setCell_other _ _ _ _ (by first | (simp; done) | simp [hne])]; exact h2
        go_wp2
        go_roundw
        case rel => exact ⟨k + 1, by omega, by go_num, HBK.out.alloc hws2 _, HST.out.1.alloc _, HOD.out.alloc _⟩
        case measure => simp [intOf]; omega
    · obtain rfl : k = n := by omega
      have hk2 : k = L.length := HN.out.symm
      have hall : L.take k = L := List.take_of_length_le (by rw [HN.out]; exact Nat.le_refl _)
      rw [hall] at HO2
      have e1 : clrK L k = L.map clr := by rw [hk2]; exact clrK_all L
      rw [e1] at HO1
      have HE := hid_ (And.intro hall e1)
      clear hall e1 hk2
      obtain ⟨q0, q1, r0, r1, f0, f1⟩ := two_later HQ.out HBS.out hb
      obtain ⟨k0, k1⟩ := bx_set (.slice A4 k c4) (.int .i64 m) r0 r1
      go_wp2
      refine bodyPost_ret (v := .tuple #[.agg #[.slice A4 k c4, .int .i64 m], .slice A3 n2 c3]) (by simp [results, Try.results60, go_sem, k0, k1]) rfl ?_
      exact RCaD.fin (C := ⟨L.map clr, m, flushD L d⟩) (by omega) (show w.heap.size + 1 < wb.heap.size by have := HBS.out; omega) (own_eq HO1.out (by simp; exact HN.out.symm) rfl) (own_eq HO2.out (by simp only [flushD_length]; exact HN2.out.symm) rfl) (HB0.out.trans (hb.mono HB0.out.size)) _ _
end Go.Proofs.Ytejnieoneknbbaa
