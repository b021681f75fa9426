/-
  Caches: the law on small caches. In a cache with one line, a value that was written is on the disk after another sector was read.
-/
import Derived.Test.YtejnieoneknbbaaCaU
import Derived.Test.YtejnieoneknbbaaSemY
namespace Go.Proofs.Ytejnieoneknbbaa
open Go.ChangeShapes Go.WideShapes Go.ChangeAt Go.RowKit Go.BigFrame Go.Deep

/-- what the law says of writing through a cache with one line -/
theorem small_facts (d : List Int) (a v : Int) {Y : Ca} (hY : writeC ⟨[], 1, d⟩ a v = Y) : (Y.M = 0 ∧ Y.D.length = 0 ∧ Y.L.length = 0) ∨ (Y.M = 1 ∧ Y.L.length = 1 ∧ Y.D = d ∧ 0 ≤ a ∧ a < d.length ∧ (0 ≤ v ∧ v ≤ 255) ∧ diskB d = true ∧ ∀ b : Nat, b < d.length → (b : Int) ≠ a → (readC Y b).D = d.set a.toNat v) := by
  subst hY
  cases q : (caAt ⟨[], 1, d⟩ a && inB v 0 255)
  · left
    have : writeC ⟨[], 1, d⟩ a v = Ca.zero := if_neg (by simp only [q]; decide)
    rw [this]; exact ⟨rfl, rfl, rfl⟩
  · rw [Bool.and_eq_true] at q
    obtain ⟨q1, q2⟩ := q
    have hv := inB_iff.1 q2
    obtain ⟨hk, a0, a1⟩ := caAt_parts q1
    obtain ⟨h1, h2⟩ := small_law q1 hv
    simp only at a1
    rw [h1]
    refine .inr ⟨rfl, rfl, rfl, a0, a1, hv, ?_, fun b hb hba => ?_⟩
    · have := ok_iff.2 hk
      unfold Ca.ok at this
      rw [Bool.and_eq_true] at this
      exact this.1
    · rw [(h2 (by omega) (b : Int) (by omega) (by omega) hba).1]

section
variable (ρ : Operand → Value) (dst : Option Tmp) (ty : TypeId) (pos : String) (after : Array Edge) (guard : Option (Nat × Bool)) (w : World)
theorem run_rem_ (x y : Operand) {a b r : Nat} (e : ρ x = .int .i64 ((a : Int) + 1)) (e1 : ρ y = .int .i64 (b : Int)) (hb : 0 < b) (hr : (a + 1) % b = r) :
    (execOp ρ { dst := dst, op := .binOp .rem 3 x y 3, type := ty, pos := pos, after := after, guard := guard }).run Try.prog w = .ok (.value (.int .i64 (r : Int))) w := by
  have ht : ((a : Int) + 1).tmod (b : Int) = (r : Int) := by
    rw [Int.tmod_eq_emod_of_nonneg (by omega)]
    rw [← hr]; rfl
  simp [execOp, e, e1, go_sem, ht]
  omega
theorem run_ext0 (x : Operand) {u v t : Value} (e : ρ x = .tuple #[u, v, t]) :
    (execOp ρ { dst := dst, op := .extract x 0, type := ty, pos := pos, after := after, guard := guard }).run Try.prog w = .ok (.value u) w := by
  simp [execOp, e, go_sem]
theorem run_ext1 (x : Operand) {u v t : Value} (e : ρ x = .tuple #[u, v, t]) :
    (execOp ρ { dst := dst, op := .extract x 1, type := ty, pos := pos, after := after, guard := guard }).run Try.prog w = .ok (.value v) w := by
  simp [execOp, e, go_sem]
theorem run_ext2 (x : Operand) {u v t : Value} (e : ρ x = .tuple #[u, v, t]) :
    (execOp ρ { dst := dst, op := .extract x 2, type := ty, pos := pos, after := after, guard := guard }).run Try.prog w = .ok (.value t) w := by
  simp [execOp, e, go_sem]
theorem run_rdc (x y z : Operand) (ats : Array TypeId) {a b c : Value} (hf : ρ (.func 32) = .func (.func 32) #[] #[]) (ex : ρ x = a) (ey : ρ y = b) (ez : ρ z = c) :
    (execOp ρ { dst := dst, op := .call { callee := .value (.func 32), args := #[x, y, z], argTypes := ats }, type := ty, pos := pos, after := after, guard := guard }).run Try.prog w = .ok (.enter 32 #[a, b, c]) w := by
  simp [execOp, resolve, hf, ex, ey, ez, go_sem]
end
def envSm (bx an n2 b : Nat) (vd vy vc : Value) (X : List Int) : Nat → WY
  | 4 => .val vd
  | 5 => .val (.int .i64 an)
  | 8 => .val (.pointer (some ⟨bx, 0, none⟩))
  | 9 => .val vy
  | 62 => .val vc
  | 63 => .val vy
  | 64 => .val (.int .i64 an)
  | 65 => .val (.int .i64 ((an : Int) + 1))
  | 66 => .val vd
  | 67 => .val (.int .i64 n2)
  | 68 => .val (.int .i64 b)
  | 69 => .tup n2 (intC X)
  | 61 => .tup n2 (intC X)
  | 70 => .num
  | 71 => .cagg
  | 72 => .own n2 (intC X)
  | 13 => .box
  | 12 => .num
  | 14 => .own n2 (intC X)
  | _ => .val undef

set_option maxRecDepth 100000 in
set_option maxHeartbeats 1600000 in
theorem lawCaSmall_walk (z : List Int) (A : Option Addr) (n c : Nat) (w : World) (_hl : z.length = n) (hc : n ≤ c) (hcm : c ≤ maxLen) (_ : True) (hB : Bys w w.heap.size A n) :
    Calls Try.prog 9 #[.slice A n c] w fun e w' => e = .returned (.bool true) ∧ Below w.heap.size w w' := by
  clear _hl
  have HB := hid_ hB; clear hB
  have HC := hid_ hcm
  have hm : n ≤ 9223372036854775807 := by unfold maxLen at hcm; omega
  clear hcm
  by_cases hbig : (1048576 : Int) < (n : Int)
  · go_enter Try.func9, Try.ntmps9
    go_wp2
    go_returns
    exact ⟨rfl, Below.refl _ _⟩
  have hn20 : n ≤ 1048576 := by omega
  go_enter Try.func9, Try.ntmps9
  go_wp2_with fail
  refine (drawCX_any A n c _ hn20 hc HC.out HB.out).mono ?_
  clear HB HC
  rintro e w1 ⟨L, m, d, A, n1, c, A2, n2, c2, a, v, rfl, -, hn2, -, hd, -, -, hc2, hcm2, -, hrd, hb1⟩
  have BB := hid_ hb1; clear hb1
  have HRd := hid_ hrd; clear hrd
  have HCd := hid_ hcm2; clear hcm2
  obtain ⟨Y, hY⟩ : ∃ Y, writeC ⟨[], 1, d⟩ a v = Y := ⟨_, rfl⟩
  have hf := small_facts d a v hY
  rw [hn2] at hf
  have HY := hid_ hY; clear hY
  obtain ⟨m3, hm3⟩ : ∃ m3, Y.M = m3 := ⟨_, rfl⟩
  have HE := hid_ (show Ca.mk Y.L m3 Y.D = Y by rw [← hm3])
  rw [hm3] at hf
  have HF := hid_ hf; clear hf
  have HN2 := hid_ hn2; clear hn2
  have HM3 := hid_ hm3; clear hm3
  obtain ⟨V0, hW5⟩ : ∃ W, World.alloc w1 (.cells #[.slice A n1 c, .int .i64 m] 29) = W := ⟨_, rfl⟩
  have hbW5 : Below (World.heap w1).size w1 V0 := by rw [← hW5]; exact (Below.refl _ _).alloc (Nat.le_refl _) _
  have HX5 := hid_ (show OutBox V0 (World.heap w1).size (.slice A n1 c) (m) by rw [← hW5]; exact BoxC.new _ _ _)
  have c50 := HX5.out.c0
  have c51 := HX5.out.c1
  have hs_hbW5 := hbW5.size
  replace BB := hid_ (BB.out.trans (hbW5.mono BB.out.size))
  replace HRd := hid_ (HRd.out.below hbW5)
  clear hbW5
  obtain ⟨W0, hW0⟩ : ∃ W, World.alloc V0 (.cells #[.slice none 0 0, .int .i64 1] 29) = W := ⟨_, rfl⟩
  have hbW0 : Below (World.heap V0).size V0 W0 := by rw [← hW0]; exact (Below.refl _ _).alloc (Nat.le_refl _) _
  have HX0 := hid_ (show OutBox W0 (World.heap V0).size (.slice none 0 0) (1) by rw [← hW0]; exact BoxC.new _ _ _)
  have c00 := HX0.out.c0
  have c01 := HX0.out.c1
  have hs_hbW0 := hbW0.size
  replace BB := hid_ (BB.out.trans (hbW0.mono BB.out.size))
  replace HRd := hid_ (HRd.out.below hbW0)
  clear hbW0
  go_wp2_with fail
  clear hW0 hW5 HX5 c50 c51
  refine (implWrite_any [] none 0 0 1 d A2 n2 c2 a v _ rfl (by omega) (Nat.le_refl _) (by unfold maxLen; omega) (Rd.nil _ _ _) HN2.out (by omega) hc2 HCd.out HRd.out).mono ?_
  rw [HY.out]
  rintro e w2 hx
  obtain ⟨A3, n3, c3, A4, n4, c4, rfl, hn3, hn4, hc3, hcm3, hc4, hcm4, hr3, hr4, hb2⟩ := hx.plain
  clear hx
  have hsm : n3 ≤ 1 ∧ n4 ≤ 65 := by
    rcases HF.out with h | ⟨-, h1, h2, -⟩
    · omega
    · rw [h2] at hn4
      have := HN2.out
      omega
  have HN3 := hid_ hn3; clear hn3
  have HN4 := hid_ hn4; clear hn4
  have HR3 := hid_ hr3; clear hr3
  have HR4 := hid_ hr4; clear hr4
  have HC3 := hid_ hcm3; clear hcm3
  have HC4 := hid_ hcm4; clear hcm4
  rw [HM3.out]
  have hs_hb2 := hb2.size
  replace BB := hid_ (BB.out.trans (hb2.mono BB.out.size))
  replace HRd := hid_ (HRd.out.below hb2)
  replace HX0 := hid_ (HX0.out.block (hb2.block _ HX0.out.lt))
  replace c00 := HX0.out.c0
  replace c01 := HX0.out.c1
  clear hb2
  obtain ⟨W1, hW1⟩ : ∃ W, World.alloc w2 (.cells #[.slice A3 n3 c3, .int .i64 m3] 29) = W := ⟨_, rfl⟩
  have hbW1 : Below (World.heap w2).size w2 W1 := by rw [← hW1]; exact (Below.refl _ _).alloc (Nat.le_refl _) _
  have HX1 := hid_ (show OutBox W1 (World.heap w2).size (.slice A3 n3 c3) (m3) by rw [← hW1]; exact BoxC.new _ _ _)
  have c10 := HX1.out.c0
  have c11 := HX1.out.c1
  have hs_hbW1 := hbW1.size
  replace BB := hid_ (BB.out.trans (hbW1.mono BB.out.size))
  replace HRd := hid_ (HRd.out.below hbW1)
  replace HX0 := hid_ (HX0.out.block (hbW1.block _ HX0.out.lt))
  replace c00 := HX0.out.c0
  replace c01 := HX0.out.c1
  replace HR3 := hid_ (HR3.out.below hbW1)
  replace HR4 := hid_ (HR4.out.below hbW1)
  clear hbW1
  go_wp2_with fail
  clear hW1
  refine (specWrite_any [] none 0 0 1 d A2 n2 c2 a v _ rfl (by omega) (Rd.nil _ _ _) HN2.out (by omega) HRd.out).mono ?_
  rw [HY.out]
  rintro e w3 hx
  obtain ⟨A5, n5, c5, A6, n6, c6, rfl, hn5, hn6, -, -, -, -, hr5, hr6, hb3⟩ := hx.plain
  clear hx
  obtain rfl : n5 = n3 := hn5.symm.trans HN3.out
  obtain rfl : n6 = n4 := hn6.symm.trans HN4.out
  clear hn5 hn6
  have HR5 := hid_ hr5; clear hr5
  have HR6 := hid_ hr6; clear hr6
  rw [HM3.out]
  have hs_hb3 := hb3.size
  replace BB := hid_ (BB.out.trans (hb3.mono BB.out.size))
  replace HRd := hid_ (HRd.out.below hb3)
  replace HX1 := hid_ (HX1.out.block (hb3.block _ HX1.out.lt))
  replace c10 := HX1.out.c0
  replace c11 := HX1.out.c1
  replace HR3 := hid_ (HR3.out.below hb3)
  replace HR4 := hid_ (HR4.out.below hb3)
  clear hb3
  obtain ⟨W2, hW2⟩ : ∃ W, World.alloc w3 (.cells #[.slice A5 n5 c5, .int .i64 m3] 29) = W := ⟨_, rfl⟩
  have hbW2 : Below (World.heap w3).size w3 W2 := by rw [← hW2]; exact (Below.refl _ _).alloc (Nat.le_refl _) _
  have HX2 := hid_ (show OutBox W2 (World.heap w3).size (.slice A5 n5 c5) (m3) by rw [← hW2]; exact BoxC.new _ _ _)
  have c20 := HX2.out.c0
  have c21 := HX2.out.c1
  have hs_hbW2 := hbW2.size
  replace BB := hid_ (BB.out.trans (hbW2.mono BB.out.size))
  replace HRd := hid_ (HRd.out.below hbW2)
  replace HX1 := hid_ (HX1.out.block (hbW2.block _ HX1.out.lt))
  replace c10 := HX1.out.c0
  replace c11 := HX1.out.c1
  replace HR3 := hid_ (HR3.out.below hbW2)
  replace HR4 := hid_ (HR4.out.below hbW2)
  replace HR5 := hid_ (HR5.out.below hbW2)
  replace HR6 := hid_ (HR6.out.below hbW2)
  clear hbW2
  go_wp2_with fail
  clear hW2 HX0 c00 c01
  refine (sameCache_self Y.L A3 A5 n5 c3 c5 m3 _ HN3.out (by omega) HR3.out HR5.out).mono ?_
  rintro e w4 ⟨rfl, hb4⟩
  have hs_hb4 := hb4.size
  replace BB := hid_ (BB.out.trans (hb4.mono BB.out.size))
  replace HRd := hid_ (HRd.out.below hb4)
  replace HX1 := hid_ (HX1.out.block (hb4.block _ HX1.out.lt))
  replace c10 := HX1.out.c0
  replace c11 := HX1.out.c1
  replace HR3 := hid_ (HR3.out.below hb4)
  replace HR4 := hid_ (HR4.out.below hb4)
  replace HR6 := hid_ (HR6.out.below hb4)
  clear hb4
  go_wp2_with fail
  refine (sameInts_self Y.D A4 A6 _ _ _ _ _ HN4.out HN4.out (by unfold maxLen; omega) HR4.out HR6.out).mono ?_
  rintro e w5 ⟨rfl, hb_w5⟩
  have hs_hb_w5 := hb_w5.size
  replace BB := hid_ (BB.out.trans (hb_w5.mono BB.out.size))
  replace HRd := hid_ (HRd.out.below hb_w5)
  replace HX1 := hid_ (HX1.out.block (hb_w5.block _ HX1.out.lt))
  replace c10 := HX1.out.c0
  replace c11 := HX1.out.c1
  replace HR3 := hid_ (HR3.out.below hb_w5)
  replace HR4 := hid_ (HR4.out.below hb_w5)
  clear hb_w5
  clear HR5 HR6 HX2 c20 c21
  by_cases h0 : m3 = 0
  · subst h0
    clear hsm
    go_wp2_with fail
    go_wp2_with fail
    refine (alive_any _).mono ?_
    rintro e w6 ⟨rfl, hbal⟩
    replace BB := hid_ (BB.out.trans (hbal.mono BB.out.size))
    go_wp2
    go_returns
    exact ⟨rfl, BB.out⟩
  obtain ⟨hm1, f1, f2, a0, a1, v01, f3, f4⟩ := HF.out.resolve_left (fun h => h0 h.1)
  obtain ⟨an, rfl⟩ := Int.eq_ofNat_of_zero_le a0
  have han : an < n2 := by omega
  subst hm1
  obtain rfl : n6 = n2 := by rw [← HN4.out, f2]; exact HN2.out
  rw [f2] at HR4
  have HF2 := hid_ f2; clear f2
  have HF3 := hid_ f3; clear f3
  have HF4 := hid_ f4; clear f4
  clear HF f1 a0 a1 h0 HY
  by_cases h2 : n6 < 2
  · have h2z : (n6 : Int) < 2 := by omega
    clear hsm
    go_wp2_with fail
    go_wp2_with fail
    refine (alive_any _).mono ?_
    rintro e w6 ⟨rfl, hbal⟩
    replace BB := hid_ (BB.out.trans (hbal.mono BB.out.size))
    go_wp2
    go_returns
    exact ⟨rfl, BB.out⟩
  have h2z : ¬ (n6 : Int) < 2 := by omega
  obtain ⟨b, hb⟩ : ∃ b, (an + 1) % n6 = b := ⟨_, rfl⟩
  have hblt : b < n6 := by rw [← hb]; exact Nat.mod_lt _ (by omega)
  have hbne : (b : Int) ≠ (an : Int) := by
    by_cases q : an + 1 < n6
    · rw [Nat.mod_eq_of_lt q] at hb; omega
    · have : an + 1 = n6 := by omega
      rw [this, Nat.mod_self] at hb
      omega
  have HRD := hid_ (HF4.out b hblt hbne)
  rw [Int.toNat_natCast] at HRD
  have HBm := hid_ hb; clear hb hbne
  obtain ⟨X, hX⟩ : ∃ X, d.set an v = X := ⟨_, rfl⟩
  have hXl : X.length = n6 := by rw [← hX, List.length_set]; exact HN2.out
  rw [hX] at HRD
  have HX := hid_ hX; clear hX
  have HXl := hid_ hXl; clear hXl
  have HYD := hid_ (show Y.D.length = n6 from HN4.out)
  have HR4' := hid_ (show Rd w5 1 A4 n6 (intC Y.D) by rw [HF2.out]; exact HR4.out)
  have hn51 : n5 ≤ 1 := hsm.1
  clear HF4 hsm
  go_wp2
  refine wp_region_semS (semY w5.heap.size (envSm w2.heap.size an n6 b (.slice A2 n6 c2) (.slice A4 n6 c4) (.agg #[.slice A3 n5 c3, .int .i64 1]) X)) [4, 5, 8, 9] 85 (by kernel_rfl) (by kernel_rfl) rfl ?_ (Nat.le_refl _) ?_ ?_
  · intro d hd
    have hd' : d = 4 ∨ d = 5 ∨ d = 8 ∨ d = 9 := by simpa using hd
    rcases hd' with rfl | rfl | rfl | rfl <;> rfl
  · have hd5 : ∀ {w' : World}, RY w5.heap.size w5.drew w' → Below w5.heap.size w5 w' := fun h => ((Below.refl _ w5).drew).trans h.1
    refine ⟨hopy_val rfl rfl rfl (fun a w' h hR => ⟨_, run_ldc a.eval _ _ _ _ _ w' _ (h 8 (by kernel_rfl)) (HX1.out.block ((hd5 hR).block _ HX1.out.lt)), rfl⟩),
      hopy_move _ rfl (fun a w h => h 9 (by kernel_rfl)),
      hopy_move _ rfl (fun a w h => h 5 (by kernel_rfl)),
      hopy_val rfl rfl rfl (fun a w' h hR => ⟨_, run_add1 a.eval _ _ _ _ _ w' _ (h 64 (by kernel_rfl)) rfl (by omega) (by omega), rfl⟩),
      hopy_move _ rfl (fun a w h => h 4 (by kernel_rfl)),
      hopy_val rfl rfl rfl (fun a w' h hR => ⟨_, run_lend a.eval _ _ _ _ _ w' _ (h 66 (by kernel_rfl)), rfl⟩),
      hopy_val rfl rfl rfl (fun a w' h hR => ⟨_, run_rem_ a.eval _ _ _ _ _ w' _ _ (h 65 (by kernel_rfl)) (h 67 (by kernel_rfl)) (by omega) HBm.out, rfl⟩),
      hopy_call rfl rfl rfl (fun a w' h hS hR => by
        refine ⟨_, _, run_rdc a.eval _ _ _ _ _ w' _ _ _ _ rfl (h 62 (by kernel_rfl)) (h 63 (by kernel_rfl)) (h 68 (by kernel_rfl)), ?_⟩
        refine (implRead_any Y.L A3 n5 c3 1 Y.D A4 n6 c4 (b : Int) w' HN3.out (by omega) hc3 HC3.out (HR3.out.below (hd5 hR)) HYD.out (by omega) hc4 HC4.out (HR4'.out.below (hd5 hR))).mono ?_
        rintro e w'' ⟨A7, c7, A8, c8, rfl, -, -, -, -, -, ho8, hb8⟩
        rw [HE.out] at ho8 ⊢
        refine ⟨_, rfl, ⟨_, _, _, _, _, _, rfl, ?_⟩, RY.of_below hb8 hS⟩
        exact own_base (own_eq ho8 (by rw [HRD.out, HXl.out]) (by rw [HRD.out])) hS),
      hopy_move _ rfl (fun a w h => h 69 (by kernel_rfl)),
      hopy_val rfl rfl rfl (fun a w' h hR => by
        obtain ⟨i, A, m, c, k, v2, e, ho⟩ : WY.P w5.heap.size (.tup n6 (intC X)) (a.eval (.tmp 61)) w' := h 61 (by kernel_rfl)
        exact ⟨_, run_ext0 a.eval _ _ _ _ _ w' _ e, i, rfl⟩),
      hopy_val rfl rfl rfl (fun a w' h hR => by
        obtain ⟨i, A, m, c, k, v2, e, ho⟩ : WY.P w5.heap.size (.tup n6 (intC X)) (a.eval (.tmp 61)) w' := h 61 (by kernel_rfl)
        exact ⟨_, run_ext1 a.eval _ _ _ _ _ w' _ e, A, m, c, k, rfl⟩),
      hopy_val rfl rfl rfl (fun a w' h hR => by
        obtain ⟨i, A, m, c, k, v2, e, ho⟩ : WY.P w5.heap.size (.tup n6 (intC X)) (a.eval (.tmp 61)) w' := h 61 (by kernel_rfl)
        exact ⟨_, run_ext2 a.eval _ _ _ _ _ w' _ e, ho⟩),
      hopy_alloc rfl rfl,
      hopy_assign _ rfl (fun a w h => h 70 (by kernel_rfl)),
      hopy_store _ _ rfl (fun a w h => ⟨h 13 (by kernel_rfl), h 71 (by kernel_rfl)⟩),
      hopy_assign _ rfl (fun a w h => h 72 (by kernel_rfl)), trivial⟩
  · intro a' w' haf
    have hex := haf.ex rfl [62, 63, 64, 65, 66, 67, 68, 69, 61, 70, 71, 72, 13, 12, 14] (by kernel_rfl)
    have hR : RY w5.heap.size w5.drew w' := haf.r
    have hb6 : Below w5.heap.size w5 w' := ((Below.refl _ w5).drew).trans hR.1
    clear haf hR
    simp only [SemEx, Act.put, List.setIfInBounds_toArray, List.set_cons_succ, List.set_cons_zero] at hex
    obtain ⟨x62, -, x63, -, x64, -, x65, -, x66, -, x67, -, x68, -, x69, -, x61, -, x70, -, x71, -, x72, -, x13, -, x12, -, x14, t14, rfl⟩ := hex
    have ho14 : w'.ownsRow w5.heap.size 3 1 x14 n6 (intC X) := t14
    clear t14
    obtain ⟨A9, c9, rfl, -, -⟩ := own_shape ho14
    have HR9 := hid_ (own_rd ho14); clear ho14
    have hs_hb6 := hb6.size
    replace BB := hid_ (BB.out.trans (hb6.mono BB.out.size))
    replace HRd := hid_ (HRd.out.below hb6)
    replace HR4 := hid_ (HR4.out.below hb6)
    clear hb6
    clear HR3 HR4' HX1 c10 c11
    go_wp2_with fail
    refine (sameInts_self d A4 A2 _ _ _ _ _ HN2.out HN2.out (by unfold maxLen; omega) HR4.out HRd.out).mono ?_
    rintro e w7 ⟨rfl, hb7⟩
    have hs_hb7 := hb7.size
    replace BB := hid_ (BB.out.trans (hb7.mono BB.out.size))
    replace HRd := hid_ (HRd.out.below hb7)
    replace HR9 := hid_ (HR9.out.below hb7)
    clear hb7
    obtain ⟨W8, hW8⟩ : ∃ W, w7.alloc (.cells #[.int .i64 v] 3) = W := ⟨_, rfl⟩
    have hbW8 : Below w7.heap.size w7 W8 := by rw [← hW8]; exact (Below.refl _ _).alloc (Nat.le_refl _) _
    have HR1 := hid_ (show Rd W8 1 (some ⟨w7.heap.size, 0, none⟩) 1 (intC [v]) by rw [← hW8]; exact rd_one w7 v)
    have hs_hbW8 := hbW8.size
    replace BB := hid_ (BB.out.trans (hbW8.mono BB.out.size))
    replace HRd := hid_ (HRd.out.below hbW8)
    replace HR9 := hid_ (HR9.out.below hbW8)
    clear hbW8
    go_wp2_with fail
    clear hW8
    refine (implWS_any d A2 n6 c2 an v (some ⟨w7.heap.size, 0, none⟩) 1 _ HN2.out (by omega) HRd.out HR1.out HF3.out v01 han).mono ?_
    rw [HX.out]
    rintro e w9 ⟨At, ct, rfl, hrt, hb9⟩
    have HRt := hid_ hrt; clear hrt
    have hs_hb9 := hb9.size
    replace BB := hid_ (BB.out.trans (hb9.mono BB.out.size))
    replace HR9 := hid_ (HR9.out.below hb9)
    clear hb9
    go_wp2_with fail
    refine (sameInts_self X A9 At _ _ _ _ _ HXl.out HXl.out (by unfold maxLen; omega) HR9.out HRt.out).mono ?_
    rintro e w10 ⟨rfl, hb10⟩
    go_wp2
    go_returns
    exact ⟨rfl, BB.out.trans (hb10.mono BB.out.size)⟩

set_option maxRecDepth 100000 in
theorem fnCacheSmall_lifted (os : Os) (started : os.Started) (H : Type) (enc : TypeId × Value → H) :
    ReturnsInHanded {} Try.checked os 9 .any (Rows.fnCacheSmallSpec.pre6 enc Try.prog Try.f9 Rows.fnCacheSmallRow.domain false) (Rows.fnCacheSmallSpec.post enc Try.prog Try.f9 false true false false) := by
  refine returnsInHanded_of_change (C := Try.checked) own_ started (by kernel_rfl) Try.func9
    (ChangeSpec.witness6 (enc := enc) (C := Try.checked) false ⟨#[], #[.slice none 0 0], []⟩ 8 (by kernel_rfl) (by kernel_rfl) (by kernel_rfl) (by kernel_rfl)) ?_
  intro W base args ds gs before hval0 hW hcnd _
  have hval : ∀ (j : Nat) t v, Try.f9.params[j]? = some t → args[j]? = some v → Value.okWide Try.prog W .any base t v := hval0
  have hW' := hW
  obtain ⟨p, q, hA0, hV, rfl, hfz, hnd⟩ := hW
  have hA : DataW.TrodAll enc Try.prog W 0 (fun _ => true) true Try.f9.params.toList args.toList ds p := hA0
  rw [Try.params9] at hA hval
  obtain ⟨v0, vs0, d0, ds0, p0, q0, hargs, rfl, rfl, h0, r0⟩ := trodAll_cons hA
  obtain ⟨rfl, rfl, rfl⟩ := trodAll_nil r0
  obtain rfl : args = #[v0] := by cases args; simp_all
  obtain ⟨rfl, rfl⟩ := trodVars_none hV
  obtain ⟨a0, len0, cap0, rfl⟩ := okWide_slice Try.underlying33 (hval 0 33 v0 rfl rfl)
  have k0 := h0
  have lt0 : ∀ x ∈ p0, x.block < W.heap.size := by obtain ⟨m, hm⟩ := k0; exact DataW.trod_lt m _ _ _ hm
  obtain ⟨z0, e0, lc0, cm0, w0, rd0⟩ := open_bytes h0
  clear hA0 hval0
  refine (lawCaSmall_walk z0 a0 len0 cap0 W e0 lc0 cm0 w0 rd0).mono fun e W' ⟨he, bel⟩ => ?_
  subst he
  exact ⟨_, rfl, _, _, _, [], _, [], hW', trodAll_mk1 (shut_bool Try.underlying4 _), (trodAll_cons_mk (Below.trod laidOut_ (by kernel_rfl) (of_decide_eq_true (by kernel_rfl)) k0 bel lt0) trodAll_mk0), rfl, bel.frame _, fun h => by cases h⟩

theorem fnCacheSmall_holds : Rows.FnCacheSmallSaid :=
  OpenClaim.holds_of_wide 9 Try.f9 rfl rfl rfl rfl rfl rfl rfl ⟨rfl, rfl, rfl, rfl, rfl⟩ rfl rfl rfl rfl rfl (by kernel_rfl) Try.func9 (by kernel_rfl)
    (of_decide_eq_true (by kernel_rfl)) (by unfold Func.isWrapper; first | (rw [if_pos (by decide +kernel)]; kernel_rfl) | (rw [if_neg (by decide +kernel)]; exact ⟨rfl, rfl⟩))
    (fun os started H enc _ => fnCacheSmall_lifted os started H enc)

end Go.Proofs.Ytejnieoneknbbaa
