/-
  Caches: a line is put first (the reference's way).
-/
import Derived.Test.YtejnieoneknbbaaCaH
import Derived.Test.YtejnieoneknbbaaSemW
namespace Go.Proofs.Ytejnieoneknbbaa
open Go.ChangeShapes Go.WideShapes Go.ChangeAt Go.RowKit Go.BigFrame

/-- a block that holds a cache -/
def OutBox (w : World) (b : Nat) (v : Value) (m : Int) : Prop := w.heap[b]? = some (.cells #[v, .int .i64 m] 29)
theorem OutBox.c0 {w : World} {b : Nat} {v : Value} {m : Int} (h : OutBox w b v m) : w.cell? ⟨b, 0, none⟩ = some v := by
  unfold OutBox at h; simp [World.cell?, h]
theorem OutBox.c1 {w : World} {b : Nat} {v : Value} {m : Int} (h : OutBox w b v m) : w.cell? ⟨b, 1, none⟩ = some (.int .i64 m) := by
  unfold OutBox at h; simp [World.cell?, h]
theorem OutBox.f {w : World} {b o : Nat} {v : Value} {m : Int} (h : OutBox w b v m) : w.frozen? ⟨b, o, none⟩ = false := by
  unfold OutBox at h; simp [World.frozen?, h]
theorem OutBox.lt {w : World} {b : Nat} {v : Value} {m : Int} (h : OutBox w b v m) : b < w.heap.size := (Array.getElem?_eq_some_iff.1 h).1
theorem OutBox.set {w : World} {b : Nat} {v : Value} {m : Int} (h : OutBox w b v m) (v' : Value) : OutBox (w.setCell ⟨b, 0, none⟩ v') b v' m := by
  unfold OutBox at *
  simp [World.setCell, Array.getElem?_modify, h]
theorem OutBox.block {w w' : World} {b : Nat} {v : Value} {m : Int} (h : OutBox w b v m) (e : w'.heap[b]? = w.heap[b]?) : OutBox w' b v m := by
  unfold OutBox at *; rw [e]; exact h
theorem OutBox.alloc {w : World} {b : Nat} {v : Value} {m : Int} (h : OutBox w b v m) (o : Obj) : OutBox (w.alloc o) b v m := h.block (Below.heap_alloc _ _ _ h.lt)
theorem OutBox.ne {w : World} {b B k n : Nat} {v u : Value} {m : Int} {xs : List Value} {E : TypeId} (h : OutBox w b v m) (ho : w.ownsRow B E k u n xs) (hE : E ≠ 29) : u.ownBlock ≠ some b := by
  rcases ho.2 with ⟨rfl, _⟩ | ⟨g, cap, cur, rfl, _, hh, _⟩
  · simp [Value.ownBlock]
  · intro e
    have e' : g = b := by simpa [Value.ownBlock] using e
    subst e'
    unfold OutBox at h
    rw [h] at hh
    injection hh with hh
    injection hh with h1 h2
    exact hE h2.symm
theorem OutBox.grown {w w' : World} {b B k n : Nat} {v u : Value} {m : Int} {xs : List Value} {E : TypeId} (h : OutBox w b v m) (ho : w.ownsRow B E k u n xs) (hE : E ≠ 29) (hg : w.grownBy w' u.ownBlock) : OutBox w' b v m :=
  h.block (hg.block b h.lt (fun e => h.ne ho hE e.symm))

section
variable (ρ : Operand → Value) (dst : Option Tmp) (ty : TypeId) (pos : String) (after : Array Edge) (guard : Option (Nat × Bool)) (w : World)
theorem run_fa0 (x : Operand) {b : Nat} (e : ρ x = .pointer (some ⟨b, 0, none⟩)) :
    (execOp ρ { dst := dst, op := .fieldAddr 29 x 0, type := ty, pos := pos, after := after, guard := guard }).run Try.prog w = .ok (.value (.pointer (some ⟨b, 0, none⟩))) w := by
  simp [execOp, e, go_sem]
theorem run_ldl (x : Operand) {b o : Nat} {A : Option Addr} {n c : Nat} (e : ρ x = .pointer (some ⟨b, o, none⟩)) (hc : w.cell? ⟨b, o, none⟩ = some (.slice A n c)) :
    (execOp ρ { dst := dst, op := .load 27 x, type := ty, pos := pos, after := after, guard := guard }).run Try.prog w = .ok (.value (.slice A n c)) w := by
  simp [execOp, e, go_sem, hc]
theorem run_ixl (x y : Operand) {b o n c k : Nat} (ex : ρ x = .slice (some ⟨b, o, none⟩) n c) (ey : ρ y = .int .i64 k) (h : k < n) :
    (execOp ρ { dst := dst, op := .indexAddr 27 x y, type := ty, pos := pos, after := after, guard := guard }).run Try.prog w = .ok (.value (.pointer (some ⟨b, o + k * 3, none⟩))) w := by
  have h' : (k : Int) < (n : Int) := by omega
  simp [execOp, ex, ey, go_sem, h']
theorem run_ld3 (x : Operand) {b o : Nat} {u v t : Value} (e : ρ x = .pointer (some ⟨b, o, none⟩)) (hc : w.cell? ⟨b, o, none⟩ = some u) (hc1 : w.cell? ⟨b, o + 1, none⟩ = some v) (hc2 : w.cell? ⟨b, o + 2, none⟩ = some t) :
    (execOp ρ { dst := dst, op := .load 38 x, type := ty, pos := pos, after := after, guard := guard }).run Try.prog w = .ok (.value (.agg #[u, v, t])) w := by
  simp [execOp, e, go_sem, hc, hc1, hc2]
theorem run_bsl (x : Operand) {u v : Int} {t : Bool} (e : ρ x = .agg #[.int .i64 u, .int .i64 v, .bool t]) :
    (execOp ρ { dst := dst, op := .buildSlice 27 1 #[(0, x)], type := ty, pos := pos, after := after, guard := guard }).run Try.prog w = .ok (.value (.slice (some ⟨w.heap.size, 0, none⟩) 1 1)) (w.alloc (.cells #[.int .i64 u, .int .i64 v, .bool t] 38)) := by
  simp [execOp, e, go_sem]
end
/-- what the slots of the appending region hold -/
def envU (β q k b o n c : Nat) (vl : Value) (x : Ln) : Nat → WV
  | 8 => .val (.pointer (some ⟨β, 0, none⟩))
  | 3 => .val (.pointer (some ⟨q, 0, none⟩))
  | 10 => .val (.int .i64 k)
  | 36 => .val (.pointer (some ⟨β, 0, none⟩))
  | 37 => .val vl
  | 38 => .val (.pointer (some ⟨q, 0, none⟩))
  | 39 => .val (.slice (some ⟨b, o, none⟩) n c)
  | 40 => .val (.int .i64 k)
  | 41 => .val (.pointer (some ⟨b, o + k * 3, none⟩))
  | 42 => .val (.agg #[.int .i64 x.at_, .int .i64 x.value, .bool x.dirty])
  | 43 => .row 3 1 (lnC [x])
  | _ => .val undef
theorem rd_ln1 (w : World) (r : Ln) : Rd (w.alloc (.cells #[.int .i64 r.at_, .int .i64 r.value, .bool r.dirty] 38)) 3 (some ⟨w.heap.size, 0, none⟩) 1 (lnC [r]) :=
  ⟨rfl, fun _ => ⟨_, _, rfl, fun j u hu => by
    have := news_alloc w [.int .i64 r.at_, .int .i64 r.value, .bool r.dirty] 38 j u hu
    rwa [add_mid] at this⟩⟩

set_option maxHeartbeats 1000000 in
theorem l12Use_any (L : List Ln) (A : Option Addr) (n c : Nat) (m : Nat) (d : List Int) (A2 : Option Addr) (n2 c2 : Nat) (x : Ln) (w : World) (hn : L.length = n) (hm : n ≤ 1048576) (hR : Rd w 3 A n (lnC L)) (hn2 : d.length = n2) (hm2 : n2 ≤ 1048576) (hR2 : Rd w 1 A2 n2 (intC d)) (hok : Ca.ok ⟨L, m, d⟩ = true) (hx : 0 ≤ x.at_ ∧ x.at_ < d.length) :
    Calls Try.prog 62 #[.agg #[.slice A n c, .int .i64 m], .slice A2 n2 c2, .agg #[.int .i64 x.at_, .int .i64 x.value, .bool x.dirty]] w (RCaD w ((Ca.mk L (m : Int) d).use x)) := by
  have HN := hid_ hn; clear hn
  have HN2 := hid_ hn2; clear hn2
  have HU := hid_ (fun k hk => use_nat hok hx k hk)
  have hm8 : m ≤ 8 ∧ 1 ≤ m := by have := ok_iff.1 hok; have h1 := this.m1; have h2 := this.m0; simp only at h1 h2; omega
  have hn8 : n ≤ m := by have := (ok_iff.1 hok).most; simp only at this; have := HN.out; omega
  clear hok hx
  have HB0 := hid_ ((((Below.refl w.heap.size w).alloc (Nat.le_refl _) (.cells #[.slice A n c, .int .i64 m] 29)).alloc (by simp) (.cells #[.int .i64 x.at_, .int .i64 x.value, .bool x.dirty] 38)).alloc (by simp; omega) (.cells #[.slice none 0 0, .int .i64 0] 29))
  have HR := hid_ (((hR.alloc (.cells #[.slice A n c, .int .i64 m] 29)).alloc (.cells #[.int .i64 x.at_, .int .i64 x.value, .bool x.dirty] 38)).alloc (.cells #[.slice none 0 0, .int .i64 0] 29)); clear hR
  have HR2 := hid_ (((hR2.alloc (.cells #[.slice A n c, .int .i64 m] 29)).alloc (.cells #[.int .i64 x.at_, .int .i64 x.value, .bool x.dirty] 38)).alloc (.cells #[.slice none 0 0, .int .i64 0] 29)); clear hR2
  have HQ := hid_ (three_mk w (.slice A n c) (.int .i64 m) x 29 38 29)
  obtain ⟨wb, hwb⟩ : ∃ wb, ((w.alloc (.cells #[.slice A n c, .int .i64 m] 29)).alloc (.cells #[.int .i64 x.at_, .int .i64 x.value, .bool x.dirty] 38)).alloc (.cells #[.slice none 0 0, .int .i64 0] 29) = wb := ⟨_, rfl⟩
  have hbs : wb.heap.size = w.heap.size + 1 + 1 + 1 := by rw [← hwb]; simp
  have HBS := hid_ hbs
  rw [hwb] at HR HR2 HB0 HQ
  have HWB := hid_ hwb; clear hwb
  -- the row of the one line, the box, the empty row
  have HO0 := hid_ (show (wb.alloc (.cells #[.int .i64 x.at_, .int .i64 x.value, .bool x.dirty] 38)).ownsRow wb.heap.size 38 3 (.slice (some ⟨wb.heap.size, 0, none⟩) 1 1) 1 (lnC (useK L x 0)) from by
    rw [useK_zero]
    exact World.ownsRow_lit (e := 38) (size := 3) wb #[.int .i64 x.at_, .int .i64 x.value, .bool x.dirty] 1 (Nat.le_refl _) (by simp [maxLen]) rfl)
  obtain ⟨wc, hwc⟩ : ∃ wc, (wb.alloc (.cells #[.int .i64 x.at_, .int .i64 x.value, .bool x.dirty] 38)).alloc (.cells #[.slice (some ⟨wb.heap.size, 0, none⟩) 1 1, .int .i64 m] 29) = wc := ⟨_, rfl⟩
  have HX0 := hid_ (show OutBox wc (wb.heap.size + 1) (.slice (some ⟨wb.heap.size, 0, none⟩) 1 1) m from by
    rw [← hwc]
    have := heap_alloc_new (wb.alloc (.cells #[.int .i64 x.at_, .int .i64 x.value, .bool x.dirty] 38)) (.cells #[.slice (some ⟨wb.heap.size, 0, none⟩) 1 1, .int .i64 m] 29)
    simpa [OutBox] using this)
  have HOc := hid_ (show wc.ownsRow wb.heap.size 38 3 (.slice (some ⟨wb.heap.size, 0, none⟩) 1 1) 1 (lnC (useK L x 0)) from by rw [← hwc]; exact HO0.out.alloc _)
  have HBc := hid_ (show Below wb.heap.size wb wc from by rw [← hwc]; exact ((Below.refl _ _).alloc (Nat.le_refl _) _).alloc (by simp) _)
  have hsc : wc.heap.size = wb.heap.size + 1 + 1 := by rw [← hwc]; simp
  have HWC := hid_ hwc; clear hwc HO0
  replace HR2 := hid_ (HR2.out.below HBc.out)
  have hwb := HWB.out
  have hwc := HWC.out
  obtain ⟨q0, q1, l0, l1, l2, -, -, -, -⟩ := HQ.out
  have hlt1 : w.heap.size + 1 < wb.heap.size := by omega
  have hlt0 : w.heap.size < wb.heap.size := by omega
  have HSC := hid_ hsc; clear hsc hbs
  go_enter Try.func62, Try.ntmps62
  go_wp2_with (at_builtin; refine wpList_append_rd _ rfl _ _ 40 rfl wc.heap.size 3 (.int .i64 0) 1 8 Try.underlying40 int_info rfl (by decide) (by decide) _ _ _ (own_empty wc 3 1) rfl _ _ _ _ (HR2.out.alloc _) rfl (intC_one d) (by omega) (by simp) ?_; intro v' w' ho' hg')
  clear hwb hwc q0 q1 l0 l1 l2 hlt0 hlt1
  have hown := own_eq ho' (show 0 + n2 = n2 by omega) (List.nil_append _)
  have hb3' := below_push ((Below.refl wc.heap.size wc).alloc (Nat.le_refl _) (.cells #[] 3)) (own_empty wc 3 1) hg' (by simp)
  obtain ⟨A3, c3, rfl, _, _⟩ := own_shape hown
  have HO3 := hid_ (own_base hown (show wb.heap.size ≤ wc.heap.size by rw [HSC.out]; omega)); clear hown
  have HX3 := hid_ (HX0.out.block (hb3'.block _ HX0.out.lt))
  have HO1 := hid_ (own_below HOc.out hb3')
  have HB3 := hid_ (HBc.out.trans (hb3'.mono (by rw [HSC.out]; omega)))
  clear hb3' ho' hg' HX0 HOc HBc HR2 HWC HWB
  obtain ⟨β, hβ⟩ : ∃ β, wb.heap.size + 1 = β := ⟨_, rfl⟩
  simp only [hβ] at HX3 ⊢
  have HBE := hid_ hβ; clear hβ
  have hββ : wb.heap.size ≤ β := by have := HBE.out; omega
  go_loopw [10] (fun v wr => ∃ (k N : Nat) (vl : Value), k ≤ n ∧ v = .int .i64 k ∧ (useK L x k).length = N ∧ N ≤ k + 1 ∧ Below wb.heap.size wb wr ∧ OutBox wr β vl m ∧ wr.ownsRow wb.heap.size 38 3 vl N (lnC (useK L x k)) ∧ wr.ownsRow wb.heap.size 3 1 (.slice A3 n2 c3) n2 (intC d)) (fun v _ => n - (intOf v).toNat)
  case atStart => exact ⟨0, 1, _, Nat.zero_le _, rfl, by rw [useK_zero]; rfl, by omega, HB3.out, HX3.out, HO1.out, HO3.out⟩
  case round =>
    obtain ⟨k, N, vl, hk, rfl, hNk, hN1, hb, hbx, ho1, ho2⟩ := hrel
    clear HO1 HO3 HB3 HX3
    have HNK := hid_ hNk; clear hNk
    have HO1 := hid_ ho1; clear ho1
    have HO2 := hid_ ho2; clear ho2
    have HX := hid_ hbx; clear hbx
    have hws := hb.size
    obtain ⟨q0, q1, l0, l1, l2, r0, r1, f0, f1⟩ := HQ.out.later HBS.out hb
    have y0 := HX.out.c0
    have y1 := HX.out.c1
    have y2 := HX.out.f (o := 0)
    have hlt1 : w.heap.size + 1 < wr.heap.size := by have := HBS.out; omega
    have hlt0 : w.heap.size < wr.heap.size := by omega
    have hlt2 : w.heap.size + 1 + 1 < wr.heap.size := by have := HBS.out; omega
    have hβw := HX.out.lt
    by_cases hlt : k < n
    · have hlt' : k < L.length := by rw [HN.out]; exact hlt
      obtain ⟨b, o, rfl, h0, h1, h2⟩ := (HR.out.below hb).ln k hlt HN.out
      have hknz : (k : Int) < (n : Int) := by omega
      by_cases hat : L[k].at_ = x.at_
      · have HU1 := hid_ (useK_no hlt' hat)
        have hd : decide (L[k].at_ = x.at_) = true := decide_eq_true hat
        have hd2 : (L[k].at_ == x.at_) = true := by simpa using hat
        clear hat
        go_wp2
        go_quiet (fail)
        go_wp2
        go_roundw
        case rel => exact ⟨k + 1, N, vl, by omega, by go_num, by rw [HU1.out]; exact HNK.out, by omega, bdN hb _, HX.out, by rw [HU1.out]; exact HO1.out, HO2.out⟩
        case measure => simp [intOf]; omega
      · have HU1 := hid_ (useK_yes hlt' hat)
        have hd : decide (L[k].at_ = x.at_) = false := decide_eq_false hat
        have hd2 : (L[k].at_ == x.at_) = false := by simpa using hat
        clear hat
        go_wp2
        go_quiet (fail)
        go_wp2
        obtain ⟨Al, cl, rfl, _, _⟩ := own_shape HO1.out
        have hbd : Below wr.heap.size wr (wr.drewN nq).drew := (bdN (Below.refl wr.heap.size wr) nq).drew
        have hqw : w.heap.size < wr.heap.size := hlt0
        obtain ⟨y, hy⟩ : ∃ y, L[k] = y := ⟨_, rfl⟩
        rw [hy] at h0 h1 h2 HU1
        clear hy hd hd2
        have HH := hid_ (And.intro q0 (And.intro y0 (And.intro h0 (And.intro h1 h2))))
        clear q0 q1 l0 l1 l2 r0 r1 f0 f1 y0 y1 y2 h0 h1 h2
        refine wp_region_semT (semW (envU β w.heap.size k b o n c (.slice Al N cl) y)) [3, 8, 10] 76 8 (by kernel_rfl) (by kernel_rfl) rfl ?_ trivial ?_ ?_
        · intro d hd
          have hd' : d = 3 ∨ d = 8 ∨ d = 10 := by simpa using hd
          rcases hd' with rfl | rfl | rfl <;> rfl
        · simp only [List.take_succ_cons, List.take_zero, HAll]
          have hc : ∀ {w2 : World} {a : Addr} {v : Value}, Below (wr.drewN nq).drew.heap.size (wr.drewN nq).drew w2 → wr.cell? a = some v → w2.cell? a = some v := fun hb h => (hb.cell (cell_lt h)).trans h
          refine ⟨hopw_val _ rfl rfl rfl rfl (fun a w h hb => run_fa0 a.eval _ _ _ _ _ w _ (h 8 (by kernel_rfl))),
            hopw_val _ rfl rfl rfl rfl (fun a w h hb => run_ldl a.eval _ _ _ _ _ w _ (h 36 (by kernel_rfl)) (hc hb HH.out.2.1)),
            hopw_val _ rfl rfl rfl rfl (fun a w h hb => run_fa0 a.eval _ _ _ _ _ w _ (h 3 (by kernel_rfl))),
            hopw_val _ rfl rfl rfl rfl (fun a w h hb => run_ldl a.eval _ _ _ _ _ w _ (h 38 (by kernel_rfl)) (hc hb HH.out.1)),
            hopw_move _ rfl (fun a w h => h 10 (by kernel_rfl)),
            hopw_val _ rfl rfl rfl rfl (fun a w h hb => run_ixl a.eval _ _ _ _ _ w _ _ (h 39 (by kernel_rfl)) (h 40 (by kernel_rfl)) hlt),
            hopw_val _ rfl rfl rfl rfl (fun a w h hb => run_ld3 a.eval _ _ _ _ _ w _ (h 41 (by kernel_rfl)) (hc hb HH.out.2.2.1) (hc hb HH.out.2.2.2.1) (hc hb HH.out.2.2.2.2)),
            hopw_run rfl rfl rfl (fun a w h hb => ⟨_, _, run_bsl a.eval _ _ _ _ _ w _ (h 42 (by kernel_rfl)), ⟨_, 1, rfl, Nat.le_refl _, by simp [maxLen], rd_ln1 w y⟩, (Below.refl _ _).alloc (Nat.le_refl _) _⟩), trivial⟩
        · intro a' w' haf
          have hex := haf.ex rfl [36, 37, 38, 39, 40, 41, 42, 43] (by kernel_rfl)
          have hbw : Below wr.heap.size wr w' := hbd.trans (show Below (wr.drewN nq).drew.heap.size (wr.drewN nq).drew w' from haf.r)
          clear haf
          simp only [SemEx, Act.put, List.setIfInBounds_toArray, List.set_cons_succ, List.set_cons_zero] at hex
          obtain ⟨x36, -, x37, t37, x38, -, x39, -, x40, -, x41, -, x42, -, x43, t43, rfl⟩ := hex
          obtain rfl : x37 = .slice Al N cl := t37
          obtain ⟨A43, c43, rfl, hc43, hcm43, hr43⟩ : ∃ A c, x43 = .slice A 1 c ∧ 1 ≤ c ∧ c ≤ maxLen ∧ Rd w' 3 A 1 (lnC [y]) := t43
          have HR43 := hid_ hr43; clear hr43
          have HO1' := hid_ (own_below HO1.out hbw)
          have HO2' := hid_ (own_below HO2.out hbw)
          have HX' := hid_ (HX.out.block (hbw.block _ HX.out.lt))
          have HB' := hid_ (hb.trans (hbw.mono hws))
          have hws' := HB'.out.size
          have HC43 := hid_ hcm43; clear hcm43
          simp only [List.drop_succ_cons, List.drop_zero]
          clear hbw hbd
          have hn50 : N ≤ 1048577 := by omega
          go_wp2_with ((at_builtin; refine wpList_append_rd _ rfl _ _ 27 rfl wb.heap.size 38 (.agg #[.int .i64 0, .int .i64 0, .bool false]) 3 24 Try.underlying27 ln_info rfl (by decide) (by decide) _ _ _ HO1'.out rfl _ _ _ _ HR43.out rfl (lnC_one [y]) (by omega) hws' ?_; intro v' w' ho' hg'); have HPO := hid_ ho'; have HPG := hid_ hg'; have HPX := hid_ (HX'.out.grown HO1'.out (by decide) hg'); obtain ⟨AN, cN, rfl, _, _⟩ := own_shape ho'; clear ho' hg'; have y0 := HPX.out.c0; have y1 := HPX.out.c1; have y2 := HPX.out.f (o := 0))
          go_roundw
          case rel =>
            have h2 := own_other HO2'.out HO1'.out (by decide) HPG.out
            exact ⟨k + 1, N + 1, _, by omega, by go_num, by rw [HU1.out]; simp [HNK.out], by omega, (HB'.out.grown HPG.out hws' (fun g e => (HO1'.out.lt g e).1)).setCell (show wb.heap.size ≤ β from hββ) _, HPX.out.set _, own_set (own_eq HPO.out rfl (by rw [HU1.out, lnC_append])) (HPX.out.ne HPO.out (by decide)), own_set h2 (HPX.out.ne h2 (by decide))⟩
          case measure => simp [intOf]; omega
    · obtain rfl : k = n := by omega
      have hknz : ¬ (k : Int) < (k : Int) := by omega
      have hall : useK L x k = useAll L x := by rw [← HN.out]; exact useK_all L x
      rw [hall] at HO1 HNK
      clear hall
      obtain ⟨U, hU⟩ : ∃ U, useAll L x = U := ⟨_, rfl⟩
      have HSH := hid_ (fun h => use_short (L := L) (m := m) (d := d) (x := x) h)
      have HLG := hid_ (fun h => use_long (L := L) (m := m) (d := d) (x := x) h)
      rw [hU] at HO1 HNK HU HSH HLG
      clear hU
      have HBF := hid_ (HB0.out.trans (hb.mono HB0.out.size))
      obtain ⟨Al, cl, rfl, hcl, _⟩ := own_shape HO1.out
      have hres : w.heap.size + 1 + 1 < wb.heap.size := by have := HBS.out; omega
      by_cases hlong : m < N
      · have hmz : (m : Int) < (N : Int) := by omega
        have hmU : m < U.length := by have := HNK.out; omega
        have hLG := HLG.out hmU
        obtain ⟨a, ha, han⟩ := HU.out m hmU
        rw [HN2.out] at han
        obtain ⟨b4, o4, rfl, h0, h1, h2⟩ := (own_rd HO1.out).ln m hlong HNK.out
        obtain ⟨y, hy⟩ : ∃ y, U[m] = y := ⟨_, rfl⟩
        rw [hy] at h0 h1 h2 ha hLG
        clear hy
        obtain ⟨ya, yv, yd⟩ := y
        simp only at h0 h1 h2 ha
        subst ha
        have hanz : (a : Int) < (n2 : Int) := by omega
        have hmc : (m : Int) ≤ (cl : Int) := by omega
        have hm0 : (0 : Int) ≤ (m : Int) := by omega
        have hTL := hid_ (show (U.take m).length = m by rw [List.length_take]; omega)
        cases yd
        · have HS := hid_ (show (Ca.mk L (m : Int) d).use x = ⟨U.take m, m, d⟩ from hLG)
          clear hLG
          have HOD := HO2
          have HOL := HO1
          have HXX := HX
          have HBX := HBF
          have hxs := HX.out.lt
          have hdl := HN2
          have hcut := own_rd (own_cut HOL.out (show m ≤ N by omega))
          rw [lnC_take] at hcut
          have HCUT := hid_ hcut; clear hcut
          have hXlt : w.heap.size + 1 + 1 < wr.heap.size := by first | exact hlt2 | exact hlt2'
          have hXY : Below wr.heap.size wr (wr.alloc (.cells #[.int .i64 (a : Int), .int .i64 yv, .bool false] 38)) := (Below.refl _ _).alloc (Nat.le_refl _) _
          have HXY := hid_ hXY
          have HCY := hid_ (HCUT.out.below hXY)
          have HXB := hid_ (HXX.out.block (hXY.block _ HXX.out.lt))
          have g0 := (hXY.cell (cell_lt r0)).trans r0
          have g1 := (hXY.cell (cell_lt r1)).trans r1
          have g2 := (hXY.frozen (show w.heap.size + 1 + 1 < _ from hXlt)).trans f0
          have g3' := (hXY.frozen (show w.heap.size + 1 + 1 < _ from hXlt)).trans f1
          have HG := hid_ (And.intro g0 (And.intro g1 (And.intro g2 g3')))
          have x0 := HXB.out.c0
          have x1 := HXB.out.c1
          have qy0 : (wr.alloc (.cells #[.int .i64 (a : Int), .int .i64 yv, .bool false] 38)).cell? ⟨w.heap.size, 1, none⟩ = some (.int .i64 m) := by
            refine (hXY.cell (show w.heap.size < _ by omega)).trans ?_
            first | exact q1 | (rw [World.cell?_setCell_other _ _ _ _ (by first | (simp; done) | simp [hg3q])]; exact q1)
          have hYs : wr.heap.size < (wr.alloc (.cells #[.int .i64 (a : Int), .int .i64 yv, .bool false] 38)).heap.size := by simp
          have hYl0 : w.heap.size < (wr.alloc (.cells #[.int .i64 (a : Int), .int .i64 yv, .bool false] 38)).heap.size := by omega
          have hYlb : β < (wr.alloc (.cells #[.int .i64 (a : Int), .int .i64 yv, .bool false] 38)).heap.size := HXB.out.lt
          clear hXY g0 g1 g2 g3'
          go_wp2_with ((at_builtin; refine wpList_append_rd _ rfl _ _ 27 rfl (wr.heap.size + 1) 38 (.agg #[.int .i64 0, .int .i64 0, .bool false]) 3 24 Try.underlying27 ln_info rfl (by decide) (by decide) _ _ _ (own_empty_at (wr.alloc (.cells #[.int .i64 (a : Int), .int .i64 yv, .bool false] 38)) 38 3 (wr.heap.size + 1) (by simp)) rfl _ _ _ _ (HCY.out.alloc _) rfl (lnC_one (U.take m)) (by omega) (by simp) ?_; intro v' w' ho' hg'); have HPO := hid_ (own_eq ho' (Nat.zero_add _) (List.nil_append _)); have HPB := hid_ ((below_push ((Below.refl (wr.heap.size + 1) (wr.alloc (.cells #[.int .i64 (a : Int), .int .i64 yv, .bool false] 38))).alloc (by simp) (.cells #[] 38)) (own_empty_at (wr.alloc (.cells #[.int .i64 (a : Int), .int .i64 yv, .bool false] 38)) 38 3 (wr.heap.size + 1) (by simp)) hg' (by simp)).mono (show (wr.alloc (.cells #[.int .i64 (a : Int), .int .i64 yv, .bool false] 38)).heap.size ≤ wr.heap.size + 1 by simp)); clear ho' hg'; obtain ⟨AN, cN, rfl, _, _⟩ := own_shape HPO.out; have HPX := hid_ (HXB.out.block (HPB.out.block _ HXB.out.lt)); have y0' := HPX.out.c0; have y1' := HPX.out.c1; have y2' := HPX.out.f (o := 0); have e0 := (HPB.out.cell (cell_lt HG.out.1)).trans HG.out.1; have e1 := (HPB.out.cell (cell_lt HG.out.2.1)).trans HG.out.2.1; have e2 := (HPB.out.frozen (show w.heap.size + 1 + 1 < _ by omega)).trans HG.out.2.2.1; have e3 := (HPB.out.frozen (show w.heap.size + 1 + 1 < _ by omega)).trans HG.out.2.2.2)
          have hnr : ¬ β = w.heap.size + 1 + 1 := by omega
          obtain ⟨k0, k1⟩ := bx_set (b := w.heap.size + 1 + 1) (w := w'.setCell ⟨β, 0, none⟩ (.slice AN m cN)) (.slice AN m cN) (.int .i64 m) (by rw [World.cell?_setCell_other _ _ _ _ (by first | (simp; done) | simp [hnr])]; exact e0) (by rw [World.cell?_setCell_other _ _ _ _ (by first | (simp; done) | simp [hnr])]; exact e1)
          refine bodyPost_ret (v := .tuple #[.agg #[.slice AN m cN, .int .i64 m], .slice A3 n2 c3]) (by simp [results, Try.results62, go_sem, k0, k1]) rfl ?_
          rw [HS.out]
          have hbY : Below wr.heap.size wr w' := HXY.out.trans (HPB.out.mono (by omega))
          have hwr : wb.heap.size ≤ wr.heap.size + 1 := by omega
          have hd2 := own_below HOD.out hbY
          refine RCaD.fin (wr := w'.setCell ⟨β, 0, none⟩ (.slice AN m cN)) (C := ⟨U.take m, m, d⟩) (b := w.heap.size + 1 + 1) (by omega) hres (own_eq (own_set (own_base HPO.out hwr) (HPX.out.ne HPO.out (by decide))) hTL.out.symm rfl) (own_eq (own_set hd2 (HPX.out.ne hd2 (by decide))) hdl.out.symm rfl) ((HBX.out.trans (hbY.mono HBX.out.size)).setCell (show w.heap.size ≤ β by omega) _) _ _
        · have HS := hid_ (show (Ca.mk L (m : Int) d).use x = ⟨U.take m, m, setD d ⟨(a : Int), yv, true⟩⟩ from hLG)
          clear hLG
          have hSC := setD_cells d ⟨(a : Int), yv, true⟩ a rfl
          simp only at hSC
          have HSC2 := hid_ hSC; clear hSC
          obtain ⟨g3, rfl, hg3B, hg3l, _, _⟩ := own_block HO2.out (by omega)
          obtain ⟨v0, c0, f0d⟩ := own_store HO2.out a (by omega)
          have hst0 := World.ownsRow.stored HO2.out a (.int .i64 yv)
          rw [HSC2.out] at hst0
          have HST0 := hid_ hst0; clear hst0 HSC2
          have HOL := hid_ (own_other HO1.out HO2.out (by decide) HST0.out.2)
          have HOD := hid_ HST0.out.1
          have HXX := hid_ (HX.out.grown HO2.out (by decide) (gb_setCell wr g3 a (.int .i64 yv)))
          have HBX := hid_ (HBF.out.setCell (show w.heap.size ≤ (⟨g3, a, none⟩ : Addr).block by show w.heap.size ≤ g3; have := HBS.out; omega) (.int .i64 yv))
          have hdl := hid_ (show (setD d ⟨(a : Int), yv, true⟩).length = n2 by rw [setD_length]; exact HN2.out)
          have hg3r : ¬ g3 = w.heap.size + 1 + 1 := by have := HBS.out; omega
          have hg3q : ¬ g3 = w.heap.size := by have := HBS.out; omega
          have hg3β : ¬ g3 = β := fun e => by
            subst e
            exact HX.out.ne HO2.out (by decide) rfl
          have hr0 : (wr.setCell ⟨g3, a, none⟩ (.int .i64 yv)).cell? ⟨w.heap.size + 1 + 1, 0, none⟩ = some (.slice none 0 0) := by rw [World.cell?_setCell_other _ _ _ _ (by first | (simp; done) | simp [hg3r])]; exact r0
          have hr1 : (wr.setCell ⟨g3, a, none⟩ (.int .i64 yv)).cell? ⟨w.heap.size + 1 + 1, 1, none⟩ = some (.int .i64 0) := by rw [World.cell?_setCell_other _ _ _ _ (by first | (simp; done) | simp [hg3r])]; exact r1
          have hf0 : (wr.setCell ⟨g3, a, none⟩ (.int .i64 yv)).frozen? ⟨w.heap.size + 1 + 1, 0, none⟩ = false := by simpa using f0
          have hf1 : (wr.setCell ⟨g3, a, none⟩ (.int .i64 yv)).frozen? ⟨w.heap.size + 1 + 1, 1, none⟩ = false := by simpa using f1
          have hxs := HXX.out.lt
          have hlt2' : w.heap.size + 1 + 1 < (wr.setCell ⟨g3, a, none⟩ (.int .i64 yv)).heap.size := by simpa using hlt2
          have hcut := own_rd (own_cut HOL.out (show m ≤ N by omega))
          rw [lnC_take] at hcut
          have HCUT := hid_ hcut; clear hcut
          have hXlt : w.heap.size + 1 + 1 < (wr.setCell ⟨g3, a, none⟩ (.int .i64 yv)).heap.size := by first | exact hlt2 | exact hlt2'
          have hXY : Below (wr.setCell ⟨g3, a, none⟩ (.int .i64 yv)).heap.size (wr.setCell ⟨g3, a, none⟩ (.int .i64 yv)) ((wr.setCell ⟨g3, a, none⟩ (.int .i64 yv)).alloc (.cells #[.int .i64 (a : Int), .int .i64 yv, .bool true] 38)) := (Below.refl _ _).alloc (Nat.le_refl _) _
          have HXY := hid_ hXY
          have HCY := hid_ (HCUT.out.below hXY)
          have HXB := hid_ (HXX.out.block (hXY.block _ HXX.out.lt))
          have g0 := (hXY.cell (cell_lt hr0)).trans hr0
          have g1 := (hXY.cell (cell_lt hr1)).trans hr1
          have g2 := (hXY.frozen (show w.heap.size + 1 + 1 < _ from hXlt)).trans hf0
          have g3' := (hXY.frozen (show w.heap.size + 1 + 1 < _ from hXlt)).trans hf1
          have HG := hid_ (And.intro g0 (And.intro g1 (And.intro g2 g3')))
          have x0 := HXB.out.c0
          have x1 := HXB.out.c1
          have qy0 : ((wr.setCell ⟨g3, a, none⟩ (.int .i64 yv)).alloc (.cells #[.int .i64 (a : Int), .int .i64 yv, .bool true] 38)).cell? ⟨w.heap.size, 1, none⟩ = some (.int .i64 m) := by
            refine (hXY.cell (show w.heap.size < _ by omega)).trans ?_
            first | exact q1 | (rw [World.cell?_setCell_other _ _ _ _ (by first | (simp; done) | simp [hg3q])]; exact q1)
          have hYs : (wr.setCell ⟨g3, a, none⟩ (.int .i64 yv)).heap.size < ((wr.setCell ⟨g3, a, none⟩ (.int .i64 yv)).alloc (.cells #[.int .i64 (a : Int), .int .i64 yv, .bool true] 38)).heap.size := by simp
          have hYl0 : w.heap.size < ((wr.setCell ⟨g3, a, none⟩ (.int .i64 yv)).alloc (.cells #[.int .i64 (a : Int), .int .i64 yv, .bool true] 38)).heap.size := by omega
          have hYlb : β < ((wr.setCell ⟨g3, a, none⟩ (.int .i64 yv)).alloc (.cells #[.int .i64 (a : Int), .int .i64 yv, .bool true] 38)).heap.size := HXB.out.lt
          clear hXY g0 g1 g2 g3'
          go_wp2_with ((at_builtin; refine wpList_append_rd _ rfl _ _ 27 rfl (wr.heap.size + 1) 38 (.agg #[.int .i64 0, .int .i64 0, .bool false]) 3 24 Try.underlying27 ln_info rfl (by decide) (by decide) _ _ _ (own_empty_at ((wr.setCell ⟨g3, a, none⟩ (.int .i64 yv)).alloc (.cells #[.int .i64 (a : Int), .int .i64 yv, .bool true] 38)) 38 3 (wr.heap.size + 1) (by simp)) rfl _ _ _ _ (HCY.out.alloc _) rfl (lnC_one (U.take m)) (by omega) (by simp) ?_; intro v' w' ho' hg'); have HPO := hid_ (own_eq ho' (Nat.zero_add _) (List.nil_append _)); have HPB := hid_ ((below_push ((Below.refl (wr.heap.size + 1) ((wr.setCell ⟨g3, a, none⟩ (.int .i64 yv)).alloc (.cells #[.int .i64 (a : Int), .int .i64 yv, .bool true] 38))).alloc (by simp) (.cells #[] 38)) (own_empty_at ((wr.setCell ⟨g3, a, none⟩ (.int .i64 yv)).alloc (.cells #[.int .i64 (a : Int), .int .i64 yv, .bool true] 38)) 38 3 (wr.heap.size + 1) (by simp)) hg' (by simp)).mono (show ((wr.setCell ⟨g3, a, none⟩ (.int .i64 yv)).alloc (.cells #[.int .i64 (a : Int), .int .i64 yv, .bool true] 38)).heap.size ≤ wr.heap.size + 1 by simp)); clear ho' hg'; obtain ⟨AN, cN, rfl, _, _⟩ := own_shape HPO.out; have HPX := hid_ (HXB.out.block (HPB.out.block _ HXB.out.lt)); have y0' := HPX.out.c0; have y1' := HPX.out.c1; have y2' := HPX.out.f (o := 0); have e0 := (HPB.out.cell (cell_lt HG.out.1)).trans HG.out.1; have e1 := (HPB.out.cell (cell_lt HG.out.2.1)).trans HG.out.2.1; have e2 := (HPB.out.frozen (show w.heap.size + 1 + 1 < _ by omega)).trans HG.out.2.2.1; have e3 := (HPB.out.frozen (show w.heap.size + 1 + 1 < _ by omega)).trans HG.out.2.2.2)
          have hnr : ¬ β = w.heap.size + 1 + 1 := by omega
          obtain ⟨k0, k1⟩ := bx_set (b := w.heap.size + 1 + 1) (w := w'.setCell ⟨β, 0, none⟩ (.slice AN m cN)) (.slice AN m cN) (.int .i64 m) (by rw [World.cell?_setCell_other _ _ _ _ (by first | (simp; done) | simp [hnr])]; exact e0) (by rw [World.cell?_setCell_other _ _ _ _ (by first | (simp; done) | simp [hnr])]; exact e1)
          refine bodyPost_ret (v := .tuple #[.agg #[.slice AN m cN, .int .i64 m], .slice (some ⟨g3, 0, none⟩) n2 c3]) (by simp [results, Try.results62, go_sem, k0, k1]) rfl ?_
          rw [HS.out]
          have hbY : Below (wr.setCell ⟨g3, a, none⟩ (.int .i64 yv)).heap.size (wr.setCell ⟨g3, a, none⟩ (.int .i64 yv)) w' := HXY.out.trans (HPB.out.mono (by omega))
          have hwr : wb.heap.size ≤ wr.heap.size + 1 := by omega
          have hd2 := own_below HOD.out hbY
          refine RCaD.fin (wr := w'.setCell ⟨β, 0, none⟩ (.slice AN m cN)) (C := ⟨U.take m, m, (setD d ⟨(a : Int), yv, true⟩)⟩) (b := w.heap.size + 1 + 1) (by omega) hres (own_eq (own_set (own_base HPO.out hwr) (HPX.out.ne HPO.out (by decide))) hTL.out.symm rfl) (own_eq (own_set hd2 (HPX.out.ne hd2 (by decide))) hdl.out.symm rfl) ((HBX.out.trans (hbY.mono HBX.out.size)).setCell (show w.heap.size ≤ β by omega) _) _ _
      · have HS := hid_ (HSH.out (by have := HNK.out; omega))
        have hmz : ¬ (m : Int) < (N : Int) := by omega
        obtain ⟨k0, k1⟩ := bx_set (w := wr) (.slice Al N cl) (.int .i64 m) r0 r1
        go_wp2
        refine bodyPost_ret (v := .tuple #[.agg #[.slice Al N cl, .int .i64 m], .slice A3 n2 c3]) (by simp [results, Try.results62, go_sem, k0, k1]) rfl ?_
        rw [HS.out]
        exact RCaD.fin (C := ⟨U, m, d⟩) (by omega) hres (own_eq HO1.out HNK.out.symm rfl) (own_eq HO2.out HN2.out.symm rfl) HBF.out _ _
end Go.Proofs.Ytejnieoneknbbaa
