/-
  Caches: the draws of reading and writing.
-/
import Derived.Test.YtejnieoneknbbaaCkE
import Derived.Test.YtejnieoneknbbaaSemS
namespace Go.Proofs.Ytejnieoneknbbaa
open Go.ChangeShapes Go.WideShapes Go.ChangeAt Go.RowKit Go.BigFrame Go.Deep

theorem rd_bx {W w' : World} {B E k n c g β : Nat} {A : Option Addr} {xs : List Value} {v : Value} {m : Int} (ho : W.ownsRow B E k (.slice A n c) n xs) (hR : RBx g β v m W w') (hg : g < B) (hβ : β < B) : Rd w' k A n xs := by
  refine ⟨(own_rd ho).1, fun hn => ?_⟩
  obtain ⟨b, rfl, hB, hlt, hc, _⟩ := own_block ho hn
  refine ⟨b, 0, rfl, fun j u hu => ?_⟩
  rw [Nat.zero_add]
  exact (World.cell?_of_block (w := W) (hR.2.2.2.2.1 b hlt (by omega) (by omega))).trans (hc j u hu)
theorem bx_below {W w' : World} {B g β : Nat} {v : Value} {m : Int} (hR : RBx g β v m W w') (hB : B ≤ W.heap.size) (hg : B ≤ g) (hβ : B ≤ β) : Below B W w' :=
  ⟨hR.1, hR.2.1, hR.2.2.1, hR.2.2.2.1, fun b hb => hR.2.2.2.2.1 b (by omega) (by omega) (by omega)⟩

section
variable (ρ : Operand → Value) (dst : Option Tmp) (ty : TypeId) (pos : String) (after : Array Edge) (guard : Option (Nat × Bool)) (w : World)
theorem run_ldc (x : Operand) {b : Nat} {v : Value} {m : Int} (e : ρ x = .pointer (some ⟨b, 0, none⟩)) (hX : OutBox w b v m) :
    (execOp ρ { dst := dst, op := .load 29 x, type := ty, pos := pos, after := after, guard := guard }).run Try.prog w = .ok (.value (.agg #[v, .int .i64 m])) w := by
  have c0 := hX.c0
  have c1 := hX.c1
  simp [execOp, e, go_sem, c0, c1]
theorem run_lend (x : Operand) {A : Option Addr} {n c : Nat} (e : ρ x = .slice A n c) :
    (execOp ρ { dst := dst, op := .call { callee := .builtin .len, args := #[x], argTypes := #[40] }, type := ty, pos := pos, after := after, guard := guard }).run Try.prog w = .ok (.value (.int .i64 n)) w := by
  simp [e, go_sem]
theorem run_add1 (x : Operand) {n : Int} (e : ρ x = .int .i64 n) (e1 : ρ (.const (.int .i64 1)) = .int .i64 1) (h0 : 0 ≤ n) (h1 : n ≤ 1000) :
    (execOp ρ { dst := dst, op := .binOp .add 3 x (.const (.int .i64 1)) 3, type := ty, pos := pos, after := after, guard := guard }).run Try.prog w = .ok (.value (.int .i64 (n + 1))) w := by
  have hw : IntKind.i64.wrap (n + 1) = n + 1 := IntWalk.i64_in _ (by omega)
  simp [execOp, e, e1, go_sem, hw]
theorem run_sub_ (x y : Operand) {a b : Int} (e : ρ x = .int .i64 a) (e1 : ρ y = .int .i64 b) (h0 : -1000 ≤ a - b) (h1 : a - b ≤ 1000) :
    (execOp ρ { dst := dst, op := .binOp .sub 3 x y 3, type := ty, pos := pos, after := after, guard := guard }).run Try.prog w = .ok (.value (.int .i64 (a - b))) w := by
  have hw : IntKind.i64.wrap (a - b) = a - b := IntWalk.i64_in _ (by omega)
  simp [execOp, e, e1, go_sem, hw]
theorem run_quo_ (x : Operand) {a : Int} (e : ρ x = .int .i64 a) (e1 : ρ (.const (.int .i64 11)) = .int .i64 11) (h0 : 0 ≤ a) (h1 : a ≤ 11) :
    ∃ r : Int, (execOp ρ { dst := dst, op := .binOp .quo 3 x (.const (.int .i64 11)) 3, type := ty, pos := pos, after := after, guard := guard }).run Try.prog w = .ok (.value (.int .i64 r)) w ∧ 0 ≤ r ∧ r ≤ 1 := by
  have ht : a.tdiv 11 = a / 11 := Int.tdiv_eq_ediv_of_nonneg h0
  have hw : IntKind.i64.wrap (a / 11) = a / 11 := IntWalk.i64_in _ (by omega)
  exact ⟨a / 11, by simp [execOp, e, e1, go_sem, ht, hw], by omega, by omega⟩
end

def envCR (β g bx n2 : Nat) (vd vc : Value) : Nat → SZ
  | 2 => .val (.pointer (some ⟨β, 0, none⟩))
  | 5 => .val (.pointer (some ⟨g, 0, none⟩))
  | 6 => .val vd
  | 7 => .val (.pointer (some ⟨bx, 0, none⟩))
  | 17 => .val vc
  | 18 => .val vd
  | 19 => .val (.pointer (some ⟨g, 0, none⟩))
  | 20 => .val vd
  | 21 => .val (.int .i64 n2)
  | 22 => .val (.int .i64 ((n2 : Int) + 1))
  | 23 => .int 0 ((n2 : Int) + 1 - 1)
  | 24 => .val (.pointer (some ⟨g, 0, none⟩))
  | 25 => .int 0 (12 - 1)
  | 26 => .int 0 1
  | 27 => .int (-1) n2
  | 3 => .val vd
  | 4 => .int (-1) n2
  | _ => .val undef

/-- a drawn cache, a drawn disk and a sector -/
def DrawnCR (w : World) (e : Ending) (w' : World) : Prop :=
  ∃ (L : List Ln) (m : Int) (d : List Int) (A : Option Addr) (n c : Nat) (A2 : Option Addr) (n2 c2 : Nat) (a : Int), e = .returned (.tuple #[.agg #[.slice A n c, .int .i64 m], .slice A2 n2 c2, .int .i64 a]) ∧ L.length = n ∧ d.length = n2 ∧ n ≤ 10 ∧ n2 ≤ 65 ∧ n ≤ c ∧ c ≤ maxLen ∧ n2 ≤ c2 ∧ c2 ≤ maxLen ∧ Rd w' 3 A n (lnC L) ∧ Rd w' 1 A2 n2 (intC d) ∧ Below w.heap.size w w'

set_option maxHeartbeats 2000000 in
set_option maxRecDepth 20000 in
theorem drawCR_any (A : Option Addr) (n c : Nat) (w : World) (hn : n ≤ 1048576) (hc : n ≤ c) (hcm : c ≤ maxLen) (hB : Bys w w.heap.size A n) :
    Calls Try.prog 42 #[.slice A n c] w (DrawnCR w) := by
  have HB := hid_ hB; clear hB
  have HC := hid_ hcm; clear hcm
  go_enter Try.func42, Try.ntmps42
  go_wp2_with fail
  refine (open_any A n c _ hn hc HC.out (bys_box HB.out _)).mono ?_
  rintro e w1 ⟨rfl, hr1, hb1⟩
  have HX := hid_ (BoxC.under (BoxC.new w (.slice none 0 0) 0) hb1 (by simp))
  have HBB := hid_ (((Below.refl w.heap.size w).alloc (Nat.le_refl _) (.cells #[.slice none 0 0, .int .i64 0] 29)).trans (hb1.mono (by simp)))
  obtain ⟨g, hg⟩ : ∃ g, g = w.heap.size + 1 := ⟨_, rfl⟩
  have HR := hid_ (show Rdr w1 g 0 by rw [hg]; simpa using hr1)
  have hlt := HR.out.lt
  clear hr1 hb1
  simp only [World.size_alloc, ← hg]
  have hgw : w.heap.size < g := by omega
  clear hg
  go_wp2_with fail
  refine (l20Disk_any g 16 _ (by omega) (by omega) HR.out).mono ?_
  rintro e w2 ⟨d, A2, c2, rfl, hd, hc2, hcm2, ho2, hr2, hg2⟩
  replace HX := hid_ (HX.out.grown hg2 (by simp; omega))
  have G := hid_ hg2
  have HD := hid_ ho2; clear ho2
  have HC2 := hid_ hcm2; clear hcm2
  have HR2 := hid_ hr2; clear hr2
  have hs2 := hg2.size
  clear hg2
  have hgw2 : w.heap.size < w2.heap.size := by omega
  have hgd : g < w1.heap.size := hlt
  obtain ⟨n2, hn2⟩ : ∃ n2, d.length = n2 := ⟨_, rfl⟩
  rw [hn2] at hd hc2 HD ⊢
  have HN2 := hid_ hn2; clear hn2
  rcases (by omega : ((n2 : Int) ≤ 20) ∨ ((20 : Int) < (n2 : Int))) with q1 | q1
  all_goals
    have HDd := hid_ (show n2 ≤ 65 by omega); clear hd
    go_wp2_with fail
    refine (l20Cache_int g 60 _ 14 _ (by omega) (by omega) (by omega) (by omega) (by omega) (by omega) HR2.out).mono ?_
    rintro e w3 ⟨L, A3, c3, m, rfl, hL, hc3, hcm3, ho3, hr3, hg3⟩
    obtain ⟨n3, hn3⟩ : ∃ n3, L.length = n3 := ⟨_, rfl⟩
    rw [hn3] at hL hc3 ho3 ⊢
    have HN3 := hid_ hn3; clear hn3
    replace HX := hid_ (HX.out.grown hg3 (by simp; omega))
    replace HD := hid_ (own_pick HD.out hg3 hgd)
    have hs3 := hg3.size
    have HBF := hid_ (HBB.out.trans (below_of_gbs (gb_trans G.out hg3) (by omega) (by omega)))
    have HXA := hid_ (show OutBox (w3.alloc (.cells #[.slice A3 n3 c3, .int .i64 m] 29)) w.heap.size (.slice none 0 0) 0 from OutBox.alloc HX.out _)
    have HBX := hid_ (BoxC.new w3 (.slice A3 n3 c3) m)
    have HO := hid_ (ho3.alloc (.cells #[.slice A3 n3 c3, .int .i64 m] 29)); clear ho3
    replace HD := hid_ (HD.out.alloc (.cells #[.slice A3 n3 c3, .int .i64 m] 29))
    have HC3 := hid_ hcm3; clear hcm3
    replace HBF := hid_ (HBF.out.alloc HBF.out.size (.cells #[.slice A3 n3 c3, .int .i64 m] 29))
    have HR3 := hid_ (hr3.alloc (.cells #[.slice A3 n3 c3, .int .i64 m] 29))
    clear hr3 hg3
    have hbx1 : w3.heap.size ≠ g := by omega
    have hbx2 : w3.heap.size ≠ w.heap.size := by omega
    have hbx3 : g ≠ w.heap.size := by omega
    go_wp2
    refine wp_region_semS (semS g (60 + 100) w.heap.size (.slice A3 n3 c3) m (envCR w.heap.size g w3.heap.size n2 (.slice A2 n2 c2) (.agg #[.slice A3 n3 c3, .int .i64 m]))) [2, 5, 6, 7] 28 (by kernel_rfl) (by kernel_rfl) rfl ?_ ⟨(HR3.out.mono (by omega)), _, _, _, _, HXA.out⟩ ?_ ?_
    · intro d hd
      have hd' : d = 2 ∨ d = 5 ∨ d = 6 ∨ d = 7 := by simpa using hd
      rcases hd' with rfl | rfl | rfl | rfl <;> rfl
    · refine ⟨hops_run rfl rfl rfl (fun a w' h hR => ⟨_, run_ldc a.eval _ _ _ _ _ w' _ (h 7 (by kernel_rfl)) (OutBox.block HBX.out ((hR.2.2.2.2.1 _ (by show w3.heap.size < (w3.alloc _).heap.size; simp) hbx1 hbx2).trans rfl)), rfl⟩),
        hops_move _ rfl (fun a h => h 6 (by kernel_rfl)),
        hops_move _ rfl (fun a h => h 5 (by kernel_rfl)),
        hops_move _ rfl (fun a h => h 6 (by kernel_rfl)),
        hops_run rfl rfl rfl (fun a w' h hR => ⟨_, run_lend a.eval _ _ _ _ _ w' _ (h 20 (by kernel_rfl)), rfl⟩),
        hops_run rfl rfl rfl (fun a w' h hR => ⟨_, run_add1 a.eval _ _ _ _ _ w' _ (h 21 (by kernel_rfl)) rfl (by omega) (by have := HDd.out; omega), rfl⟩),
        hops_pick _ _ _ ((n2 : Int) + 1) (by omega) (by simp) (by omega) (by have := HDd.out; omega) hbx3 rfl (fun a h => ⟨h 19 (by kernel_rfl), h 22 (by kernel_rfl)⟩) rfl,
        hops_move _ rfl (fun a h => h 5 (by kernel_rfl)),
        hops_pick _ _ _ 12 (by omega) (by simp) (by omega) (by omega) hbx3 rfl (fun a h => ⟨h 24 (by kernel_rfl), rfl⟩) rfl,
        hops_run rfl rfl rfl (fun a w' h hR => by
          obtain ⟨q, e, q0, q1⟩ : SZ.P (.int 0 (12 - 1)) (a.eval (.tmp 25)) := h 25 (by kernel_rfl)
          obtain ⟨r, hr, r0, r1⟩ := run_quo_ a.eval _ _ _ _ _ w' _ e rfl q0 (by omega)
          exact ⟨_, hr, r, rfl, r0, r1⟩),
        hops_run rfl rfl rfl (fun a w' h hR => by
          obtain ⟨q, e, q0, q1⟩ : SZ.P (.int 0 ((n2 : Int) + 1 - 1)) (a.eval (.tmp 23)) := h 23 (by kernel_rfl)
          obtain ⟨r, e2, r0, r1⟩ : SZ.P (.int 0 1) (a.eval (.tmp 26)) := h 26 (by kernel_rfl)
          exact ⟨_, run_sub_ a.eval _ _ _ _ _ w' _ _ e e2 (by omega) (by have := HDd.out; omega), q - r, rfl, by omega, by omega⟩),
        hops_store _ _ hbx3 rfl rfl (fun a h => ⟨h 2 (by kernel_rfl), h 17 (by kernel_rfl)⟩),
        hops_assign _ rfl (fun a h => h 18 (by kernel_rfl)),
        hops_assign _ rfl (fun a h => h 27 (by kernel_rfl)), trivial⟩
    · intro a' w' haf
      have hex := haf.ex rfl [17, 18, 19, 20, 21, 22, 23, 24, 25, 26, 27, 3, 4] (by kernel_rfl)
      have hR : RBx g w.heap.size (.slice A3 n3 c3) m (w3.alloc (.cells #[.slice A3 n3 c3, .int .i64 m] 29)).drew w' := haf.r
      have hU : OutBox w' w.heap.size (.slice A3 n3 c3) m := haf.un 11 _ rfl rfl
      clear haf
      simp only [SemEx, Act.put, List.setIfInBounds_toArray, List.set_cons_succ, List.set_cons_zero] at hex
      obtain ⟨x17, -, x18, -, x19, -, x20, -, x21, -, x22, -, x23, -, x24, -, x25, -, x26, -, x27, -, x3, t3, x4, ⟨a, ha, -, -⟩, rfl⟩ := hex
      obtain rfl : x3 = .slice A2 n2 c2 := t3
      subst ha
      have k0 := hU.c0
      have k1 := hU.c1
      have HRR := hid_ hR; clear hR hU
      go_wp2
      refine bodyPost_ret (v := .tuple #[.agg #[.slice A3 n3 c3, .int .i64 m], .slice A2 n2 c2, .int .i64 a]) (by simp [results, Try.results42, go_sem, k0, k1]) rfl ?_
      exact ⟨L, m, d, A3, n3, c3, A2, n2, c2, a, rfl, HN3.out, HN2.out, hL, HDd.out, hc3, HC3.out, hc2, HC2.out, rd_bx (W := (w3.alloc (.cells #[.slice A3 n3 c3, .int .i64 m] 29)).drew) HO.out HRR.out (by omega) (by omega), rd_bx (W := (w3.alloc (.cells #[.slice A3 n3 c3, .int .i64 m] 29)).drew) HD.out HRR.out (by omega) (by omega), HBF.out.drew.trans (bx_below HRR.out (by show w.heap.size ≤ (w3.alloc _).heap.size; simp; omega) (by omega) (Nat.le_refl _))⟩
def envCX (β g bx n2 : Nat) (vd vc : Value) : Nat → SZ
  | 2 => .val (.pointer (some ⟨β, 0, none⟩))
  | 6 => .val (.pointer (some ⟨g, 0, none⟩))
  | 7 => .val vd
  | 8 => .val (.pointer (some ⟨bx, 0, none⟩))
  | 18 => .val vc
  | 19 => .val vd
  | 20 => .val (.pointer (some ⟨g, 0, none⟩))
  | 21 => .val vd
  | 22 => .val (.int .i64 n2)
  | 23 => .val (.int .i64 ((n2 : Int) + 1))
  | 24 => .int 0 ((n2 : Int) + 1 - 1)
  | 25 => .val (.pointer (some ⟨g, 0, none⟩))
  | 26 => .int 0 (12 - 1)
  | 27 => .int 0 1
  | 28 => .int (-1) n2
  | 29 => .val (.pointer (some ⟨g, 0, none⟩))
  | 30 => .int 0 (258 - 1)
  | 31 => .int (-1) 256
  | 3 => .val vd
  | 4 => .int (-1) n2
  | 5 => .int (-1) 256
  | _ => .val undef

/-- a drawn cache, a drawn disk, a sector and a value -/
def DrawnCX (w : World) (e : Ending) (w' : World) : Prop :=
  ∃ (L : List Ln) (m : Int) (d : List Int) (A : Option Addr) (n c : Nat) (A2 : Option Addr) (n2 c2 : Nat) (a x : Int), e = .returned (.tuple #[.agg #[.slice A n c, .int .i64 m], .slice A2 n2 c2, .int .i64 a, .int .i64 x]) ∧ L.length = n ∧ d.length = n2 ∧ n ≤ 10 ∧ n2 ≤ 65 ∧ n ≤ c ∧ c ≤ maxLen ∧ n2 ≤ c2 ∧ c2 ≤ maxLen ∧ Rd w' 3 A n (lnC L) ∧ Rd w' 1 A2 n2 (intC d) ∧ Below w.heap.size w w'

set_option maxHeartbeats 2000000 in
set_option maxRecDepth 20000 in
theorem drawCX_any (A : Option Addr) (n c : Nat) (w : World) (hn : n ≤ 1048576) (hc : n ≤ c) (hcm : c ≤ maxLen) (hB : Bys w w.heap.size A n) :
    Calls Try.prog 37 #[.slice A n c] w (DrawnCX w) := by
  have HB := hid_ hB; clear hB
  have HC := hid_ hcm; clear hcm
  go_enter Try.func37, Try.ntmps37
  go_wp2_with fail
  refine (open_any A n c _ hn hc HC.out (bys_box HB.out _)).mono ?_
  rintro e w1 ⟨rfl, hr1, hb1⟩
  have HX := hid_ (BoxC.under (BoxC.new w (.slice none 0 0) 0) hb1 (by simp))
  have HBB := hid_ (((Below.refl w.heap.size w).alloc (Nat.le_refl _) (.cells #[.slice none 0 0, .int .i64 0] 29)).trans (hb1.mono (by simp)))
  obtain ⟨g, hg⟩ : ∃ g, g = w.heap.size + 1 := ⟨_, rfl⟩
  have HR := hid_ (show Rdr w1 g 0 by rw [hg]; simpa using hr1)
  have hlt := HR.out.lt
  clear hr1 hb1
  simp only [World.size_alloc, ← hg]
  have hgw : w.heap.size < g := by omega
  clear hg
  go_wp2_with fail
  refine (l20Disk_any g 16 _ (by omega) (by omega) HR.out).mono ?_
  rintro e w2 ⟨d, A2, c2, rfl, hd, hc2, hcm2, ho2, hr2, hg2⟩
  replace HX := hid_ (HX.out.grown hg2 (by simp; omega))
  have G := hid_ hg2
  have HD := hid_ ho2; clear ho2
  have HC2 := hid_ hcm2; clear hcm2
  have HR2 := hid_ hr2; clear hr2
  have hs2 := hg2.size
  clear hg2
  have hgw2 : w.heap.size < w2.heap.size := by omega
  have hgd : g < w1.heap.size := hlt
  obtain ⟨n2, hn2⟩ : ∃ n2, d.length = n2 := ⟨_, rfl⟩
  rw [hn2] at hd hc2 HD ⊢
  have HN2 := hid_ hn2; clear hn2
  rcases (by omega : ((n2 : Int) ≤ 20) ∨ ((20 : Int) < (n2 : Int))) with q1 | q1
  all_goals
    have HDd := hid_ (show n2 ≤ 65 by omega); clear hd
    go_wp2_with fail
    refine (l20Cache_int g 60 _ 14 _ (by omega) (by omega) (by omega) (by omega) (by omega) (by omega) HR2.out).mono ?_
    rintro e w3 ⟨L, A3, c3, m, rfl, hL, hc3, hcm3, ho3, hr3, hg3⟩
    obtain ⟨n3, hn3⟩ : ∃ n3, L.length = n3 := ⟨_, rfl⟩
    rw [hn3] at hL hc3 ho3 ⊢
    have HN3 := hid_ hn3; clear hn3
    replace HX := hid_ (HX.out.grown hg3 (by simp; omega))
    replace HD := hid_ (own_pick HD.out hg3 hgd)
    have hs3 := hg3.size
    have HBF := hid_ (HBB.out.trans (below_of_gbs (gb_trans G.out hg3) (by omega) (by omega)))
    have HXA := hid_ (show OutBox (w3.alloc (.cells #[.slice A3 n3 c3, .int .i64 m] 29)) w.heap.size (.slice none 0 0) 0 from OutBox.alloc HX.out _)
    have HBX := hid_ (BoxC.new w3 (.slice A3 n3 c3) m)
    have HO := hid_ (ho3.alloc (.cells #[.slice A3 n3 c3, .int .i64 m] 29)); clear ho3
    replace HD := hid_ (HD.out.alloc (.cells #[.slice A3 n3 c3, .int .i64 m] 29))
    have HC3 := hid_ hcm3; clear hcm3
    replace HBF := hid_ (HBF.out.alloc HBF.out.size (.cells #[.slice A3 n3 c3, .int .i64 m] 29))
    have HR3 := hid_ (hr3.alloc (.cells #[.slice A3 n3 c3, .int .i64 m] 29))
    clear hr3 hg3
    have hbx1 : w3.heap.size ≠ g := by omega
    have hbx2 : w3.heap.size ≠ w.heap.size := by omega
    have hbx3 : g ≠ w.heap.size := by omega
    go_wp2
    refine wp_region_semS (semS g (60 + 100) w.heap.size (.slice A3 n3 c3) m (envCX w.heap.size g w3.heap.size n2 (.slice A2 n2 c2) (.agg #[.slice A3 n3 c3, .int .i64 m]))) [2, 6, 7, 8] 32 (by kernel_rfl) (by kernel_rfl) rfl ?_ ⟨(HR3.out.mono (by omega)), _, _, _, _, HXA.out⟩ ?_ ?_
    · intro d hd
      have hd' : d = 2 ∨ d = 6 ∨ d = 7 ∨ d = 8 := by simpa using hd
      rcases hd' with rfl | rfl | rfl | rfl <;> rfl
    · refine ⟨hops_run rfl rfl rfl (fun a w' h hR => ⟨_, run_ldc a.eval _ _ _ _ _ w' _ (h 8 (by kernel_rfl)) (OutBox.block HBX.out ((hR.2.2.2.2.1 _ (by show w3.heap.size < (w3.alloc _).heap.size; simp) hbx1 hbx2).trans rfl)), rfl⟩),
        hops_move _ rfl (fun a h => h 7 (by kernel_rfl)),
        hops_move _ rfl (fun a h => h 6 (by kernel_rfl)),
        hops_move _ rfl (fun a h => h 7 (by kernel_rfl)),
        hops_run rfl rfl rfl (fun a w' h hR => ⟨_, run_lend a.eval _ _ _ _ _ w' _ (h 21 (by kernel_rfl)), rfl⟩),
        hops_run rfl rfl rfl (fun a w' h hR => ⟨_, run_add1 a.eval _ _ _ _ _ w' _ (h 22 (by kernel_rfl)) rfl (by omega) (by have := HDd.out; omega), rfl⟩),
        hops_pick _ _ _ ((n2 : Int) + 1) (by omega) (by simp) (by omega) (by have := HDd.out; omega) hbx3 rfl (fun a h => ⟨h 20 (by kernel_rfl), h 23 (by kernel_rfl)⟩) rfl,
        hops_move _ rfl (fun a h => h 6 (by kernel_rfl)),
        hops_pick _ _ _ 12 (by omega) (by simp) (by omega) (by omega) hbx3 rfl (fun a h => ⟨h 25 (by kernel_rfl), rfl⟩) rfl,
        hops_run rfl rfl rfl (fun a w' h hR => by
          obtain ⟨q, e, q0, q1⟩ : SZ.P (.int 0 (12 - 1)) (a.eval (.tmp 26)) := h 26 (by kernel_rfl)
          obtain ⟨r, hr, r0, r1⟩ := run_quo_ a.eval _ _ _ _ _ w' _ e rfl q0 (by omega)
          exact ⟨_, hr, r, rfl, r0, r1⟩),
        hops_run rfl rfl rfl (fun a w' h hR => by
          obtain ⟨q, e, q0, q1⟩ : SZ.P (.int 0 ((n2 : Int) + 1 - 1)) (a.eval (.tmp 24)) := h 24 (by kernel_rfl)
          obtain ⟨r, e2, r0, r1⟩ : SZ.P (.int 0 1) (a.eval (.tmp 27)) := h 27 (by kernel_rfl)
          exact ⟨_, run_sub_ a.eval _ _ _ _ _ w' _ _ e e2 (by omega) (by have := HDd.out; omega), q - r, rfl, by omega, by omega⟩),
        hops_move _ rfl (fun a h => h 6 (by kernel_rfl)),
        hops_pick _ _ _ 258 (by omega) (by simp) (by omega) (by omega) hbx3 rfl (fun a h => ⟨h 29 (by kernel_rfl), rfl⟩) rfl,
        hops_run rfl rfl rfl (fun a w' h hR => by
          obtain ⟨q, e, q0, q1⟩ : SZ.P (.int 0 (258 - 1)) (a.eval (.tmp 30)) := h 30 (by kernel_rfl)
          exact ⟨_, run_sub_ a.eval _ _ _ _ _ w' _ _ e rfl (by omega) (by omega), q - 1, rfl, by omega, by omega⟩),
        hops_store _ _ hbx3 rfl rfl (fun a h => ⟨h 2 (by kernel_rfl), h 18 (by kernel_rfl)⟩),
        hops_assign _ rfl (fun a h => h 19 (by kernel_rfl)),
        hops_assign _ rfl (fun a h => h 28 (by kernel_rfl)), hops_assign _ rfl (fun a h => h 31 (by kernel_rfl)), trivial⟩
    · intro a' w' haf
      have hex := haf.ex rfl [18, 19, 20, 21, 22, 23, 24, 25, 26, 27, 28, 29, 30, 31, 3, 4, 5] (by kernel_rfl)
      have hR : RBx g w.heap.size (.slice A3 n3 c3) m (w3.alloc (.cells #[.slice A3 n3 c3, .int .i64 m] 29)).drew w' := haf.r
      have hU : OutBox w' w.heap.size (.slice A3 n3 c3) m := haf.un 14 _ rfl rfl
      clear haf
      simp only [SemEx, Act.put, List.setIfInBounds_toArray, List.set_cons_succ, List.set_cons_zero] at hex
      obtain ⟨x18, -, x19, -, x20, -, x21, -, x22, -, x23, -, x24, -, x25, -, x26, -, x27, -, x28, -, x29, -, x30, -, x31, -, x3, t3, x4, ⟨a, ha, -, -⟩, x5, ⟨x, hx, -, -⟩, rfl⟩ := hex
      obtain rfl : x3 = .slice A2 n2 c2 := t3
      subst ha
      subst hx
      have k0 := hU.c0
      have k1 := hU.c1
      have HRR := hid_ hR; clear hR hU
      go_wp2
      refine bodyPost_ret (v := .tuple #[.agg #[.slice A3 n3 c3, .int .i64 m], .slice A2 n2 c2, .int .i64 a, .int .i64 x]) (by simp [results, Try.results37, go_sem, k0, k1]) rfl ?_
      exact ⟨L, m, d, A3, n3, c3, A2, n2, c2, a, x, rfl, HN3.out, HN2.out, hL, HDd.out, hc3, HC3.out, hc2, HC2.out, rd_bx (W := (w3.alloc (.cells #[.slice A3 n3 c3, .int .i64 m] 29)).drew) HO.out HRR.out (by omega) (by omega), rd_bx (W := (w3.alloc (.cells #[.slice A3 n3 c3, .int .i64 m] 29)).drew) HD.out HRR.out (by omega) (by omega), HBF.out.drew.trans (bx_below HRR.out (by show w.heap.size ≤ (w3.alloc _).heap.size; simp; omega) (by omega) (Nat.le_refl _))⟩
end Go.Proofs.Ytejnieoneknbbaa
