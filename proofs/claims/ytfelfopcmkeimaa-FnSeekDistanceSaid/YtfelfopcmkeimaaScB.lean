/-
  The library's stable sort, walked: the insertion sort.
-/
import Derived.Test.YtfelfopcmkeimaaScA
namespace Go.Proofs.Ytfelfopcmkeimaa
open Go.ChangeShapes Go.WideShapes Go.ChangeAt Go.RowKit Go.BigFrame

/-- the comparison answers in all worlds in which only block g has changed -/
def CmpOk (l : List Rq) (g n lb : Nat) (w0 : World) : Prop := ∀ (W : World) (x y : Int), w0.grownBy W (some g) → (0 ≤ x ∧ x < n) → (0 ≤ y ∧ y < n) →
  Calls Try.prog 59 #[.int .i64 x, .int .i64 y, .pointer (some ⟨lb, 0, none⟩)] W (CmpAns l x y W)
def Row (w : World) (B g n c : Nat) (X : List Int) : Prop := w.ownsRow B 3 1 (.slice (some ⟨g, 0, none⟩) n c) n (intC X)
def Ix (X : List Int) (n : Nat) : Prop := X.length = n ∧ ∀ i, i < n → 0 ≤ gd X i ∧ gd X i < n
theorem Ix.kept {X Y : List Int} {n a b : Nat} (h : Ix X n) (k : Kept X Y a b) (hb : b ≤ n) : Ix Y n :=
  ⟨k.len.trans h.1, fun i hi => by
    by_cases q : a ≤ i ∧ i < b
    · obtain ⟨j, j1, j2, e⟩ := k.src i q.1 q.2
      rw [e]; exact h.2 j (by omega)
    · rw [k.out i (by omega)]; exact h.2 i hi⟩
theorem gb_drew {a b : World} {row : Option Nat} (h : a.grownBy b row) : a.grownBy b.drew row := ⟨h.os, h.tape, h.output, h.size, h.block⟩
theorem gb_drewN {a b : World} {row : Option Nat} (h : a.grownBy b row) (n : Nat) : a.grownBy (b.drewN n) row := ⟨h.os, h.tape, h.output, h.size, h.block⟩
theorem Row.drew {w : World} {B g n c : Nat} {X : List Int} (h : Row w B g n c X) : Row w.drew B g n c X := h
theorem Row.drewN {w : World} {B g n c : Nat} {X : List Int} (h : Row w B g n c X) (m : Nat) : Row (w.drewN m) B g n c X := h
theorem Row.cell {w : World} {B g n c : Nat} {X : List Int} (h : Row w B g n c X) (i : Nat) (hi : i < n) : w.cell? ⟨g, i, none⟩ = some (.int .i64 (gd X i)) ∧ w.frozen? ⟨g, i, none⟩ = false := by
  have hl : X.length = n := by have := h.1; simpa [intC] using this
  refine ⟨?_, World.ownsRow.frozenAt h i⟩
  rw [World.ownsRow.cellAt h i (by omega), gd_get X i (by omega)]
  simp [intC, hl ▸ hi]
theorem intC_set (X : List Int) (i : Nat) (v : Int) : (intC X).set i (.int .i64 v) = intC (X.set i v) := by simp [intC, List.map_set]
theorem Row.set {w : World} {B g n c : Nat} {X : List Int} (h : Row w B g n c X) (i : Nat) (v : Int) : Row (w.setCell ⟨g, i, none⟩ (.int .i64 v)) B g n c (X.set i v) := by
  have := (World.ownsRow.stored h i (.int .i64 v)).1
  rwa [intC_set] at this
theorem Row.ex1 {w : World} {B g n c : Nat} {X : List Int} (h : Row w B g n c X) (i j : Nat) (x y : Int) (hx : x = gd X j) (hy : y = gd X i) : Row ((w.setCell ⟨g, i, none⟩ (.int .i64 x)).setCell ⟨g, j, none⟩ (.int .i64 y)) B g n c (sw X i j) := by
  subst hx; subst hy
  exact (h.set i _).set j _
theorem Row.ex2 {w : World} {B g n c : Nat} {X : List Int} (h : Row w B g n c X) (i j : Nat) (hij : i ≠ j) (x y : Int) (hx : x = gd X j) (hy : y = gd X i) : Row ((w.setCell ⟨g, j, none⟩ (.int .i64 y)).setCell ⟨g, i, none⟩ (.int .i64 x)) B g n c (sw X i j) := by
  subst hx; subst hy
  have := (h.set j (gd X i)).set i (gd X j)
  unfold sw
  rwa [List.set_comm _ _ (fun e => hij e.symm)] at this
theorem gb_set {a w : World} {g i : Nat} {v : Value} (h : a.grownBy w (some g)) : a.grownBy (w.setCell ⟨g, i, none⟩ v) (some g) := gb_trans h (gb_setCell w g i v)

def SortAns (l : List Rq) (B g n c a b : Nat) (X0 : List Int) (w0 : World) (e : Ending) (w' : World) : Prop :=
  e = .returned (.tuple #[]) ∧ ∃ X, Row w' B g n c X ∧ w0.grownBy w' (some g) ∧ Kept X0 X a b ∧ Srt l X a b

set_option maxHeartbeats 4000000 in
set_option maxRecDepth 100000 in
theorem insSort_any (l : List Rq) (B g n c lb a b : Nat) (X0 : List Int) (w0 w : World) (hC : CmpOk l g n lb w0) (h0 : w0.grownBy w (some g)) (ho : Row w B g n c X0) (hv : Ix X0 n) (hab : a ≤ b) (hb : b ≤ n) (hn : n ≤ 1000)
    (hasc : ∀ p q, a ≤ p → p < q → q < b → gd X0 p < gd X0 q) :
    Calls Try.prog 69 #[.slice (some ⟨g, 0, none⟩) n c, .int .i64 a, .int .i64 b, .func (.func 59) #[] #[.pointer (some ⟨lb, 0, none⟩)]] w (SortAns l B g n c a b X0 w0) := by
  have HC := hid_ hC; clear hC
  have H0 := hid_ h0; clear h0
  have HO0 := hid_ ho; clear ho
  have HV := hid_ hv; clear hv
  have HA := hid_ hasc; clear hasc
  go_enter Try.func69, Try.ntmps69
  go_wp2
  go_loopw [8] (fun vi wr => ∃ (i : Nat) (X : List Int), vi = .int .i64 i ∧ a < i ∧ (i ≤ b ∨ i = a + 1) ∧ Row wr B g n c X ∧ w0.grownBy wr (some g) ∧ Kept X0 X a i ∧ Srt l X a i ∧ Hid (i = a + 1 → X = X0)) (fun vi _ => b - (intOf vi).toNat)
  case atStart => exact ⟨a + 1, X0, by go_num, by omega, .inr rfl, HO0.out, H0.out, Kept.refl _ _ _, fun p q h1 h2 h3 => by omega, fun _ => rfl⟩
  case round =>
    clear HO0 H0
    obtain ⟨i, X, rfl, hai, hib, ho, hg, hk, hs, HI⟩ := hrel
    have HO := hid_ ho; clear ho
    have HG := hid_ hg; clear hg
    have HK := hid_ hk; clear hk
    have HS := hid_ hs; clear hs
    by_cases hlt : i < b
    · have HJ := hid_ (InsI.start HS.out HK.out (by omega) hlt HA.out)
      clear HK HS HI
      go_wp2
      go_loopw [9] (fun vj wr2 => ∃ (j : Nat) (Y : List Int), vj = .int .i64 j ∧ a ≤ j ∧ j ≤ i ∧ Row wr2 B g n c Y ∧ w0.grownBy wr2 (some g) ∧ InsI l X0 Y a i j) (fun vj _ => (intOf vj).toNat)
      case atStart => exact ⟨i, X, rfl, by omega, Nat.le_refl _, HO.out, HG.out, HJ.out⟩
      case round =>
        clear HO HG HJ
        obtain ⟨j, Y, rfl, haj, hji, ho, hg, hj⟩ := hrel
        have HO := hid_ ho; clear ho
        have HG := hid_ hg; clear hg
        have HJ := hid_ hj; clear hj
        have HIx := hid_ (HV.out.kept HJ.out.kept (by omega))
        by_cases hja : a < j
        · obtain ⟨jp, rfl⟩ : ∃ jp, j = jp + 1 := ⟨j - 1, by omega⟩
          obtain ⟨cj, fj⟩ := HO.out.cell (jp + 1) (by omega)
          obtain ⟨cp, fp⟩ := HO.out.cell jp (by omega)
          have hxj := HIx.out.2 (jp + 1) (by omega)
          have hxp := HIx.out.2 jp (by omega)
          obtain ⟨xj, hxj'⟩ : ∃ x, gd Y (jp + 1) = x := ⟨_, rfl⟩
          obtain ⟨xp, hxp'⟩ : ∃ x, gd Y jp = x := ⟨_, rfl⟩
          rw [hxj'] at cj hxj
          rw [hxp'] at cp hxp
          have HXJ := hid_ hxj'; clear hxj'
          have HXP := hid_ hxp'; clear hxp'
          have hjaz : (a : Int) < (jp : Int) + 1 := by omega
          have jz : (jp : Int) + 1 < (n : Int) := by omega
          have jz1 : (jp : Int) < (n : Int) := by omega
          have p0 : (0 : Int) ≤ (jp : Int) + 1 := by omega
          have e0 : ((jp : Int) + 1).toNat = jp + 1 := by omega
          have hwp : IntKind.i64.wrap (jp : Int) = (jp : Int) := by rw [IntKind.wrap_i64]; omega
          have hc := hid_ (fun q => HC.out (wr.drewN q) xj xp (gb_drewN HG.out q) hxj hxp)
          obtain ⟨kv, hkv⟩ : ∃ kv, cmpI (atK l xj) (atK l xp) = kv := ⟨_, rfl⟩
          unfold CmpAns at hc
          rw [hkv] at hc
          have hneg : decide (kv < 0) = decide (atK l xj < atK l xp) := by rw [← hkv]; exact cmpI_neg _ _
          have HKV := hid_ hneg; clear hneg hkv
          by_cases hlv : kv < 0
          · go_wp2_with fail
            go_quiet ((go_at_call 59; exact Calls.quiet_of (hc.out _)))
            go_wp2_with fail
            have cj2 : (wr.drewN nq).cell? ⟨g, jp + 1, none⟩ = some (.int .i64 xj) := cj
            have cp2 : (wr.drewN nq).cell? ⟨g, jp, none⟩ = some (.int .i64 xp) := cp
            have fj2 : (wr.drewN nq).frozen? ⟨g, jp + 1, none⟩ = false := fj
            have fp2 : (wr.drewN nq).frozen? ⟨g, jp, none⟩ = false := fp
            have HO2 := hid_ (HO.out.drewN nq)
            have HG2 := hid_ (gb_drewN HG.out nq)
            clear cj cp fj fp hc
            have hlt' : atK l (gd Y (jp + 1)) < atK l (gd Y jp) := by
              rw [HXJ.out, HXP.out]
              have := HKV.out
              rw [decide_eq_true hlv] at this
              exact of_decide_eq_true this.symm
            have HJ2 := hid_ (HJ.out.step (by omega) hji (by rw [HIx.out.1]; omega) hlt')
            clear hlt'
            generalize wr.drewN nq = wq2 at cj2 cp2 fj2 fp2 HO2 HG2 ⊢
            obtain ⟨j1, hj1⟩ : ∃ j1, j1 = jp + 1 := ⟨_, rfl⟩
            rw [← hj1] at cj2 fj2 e0
            have J1 := hid_ hj1
            clear hj1 HO HG HJ
            go_big_region
            all_goals go_wp2
            all_goals
              go_roundw
              case rel =>
                refine ⟨jp, sw Y (jp + 1) jp, by first | rfl | go_num | (congr 1; omega), by omega, by omega, ?_, ?_, HJ2.out⟩
                · first
                    | (rw [J1.out]; exact HO2.out.drew.ex1 (jp + 1) jp _ _ HXP.out.symm HXJ.out.symm)
                    | (rw [J1.out]; exact HO2.out.drew.ex2 (jp + 1) jp (by omega) _ _ HXP.out.symm HXJ.out.symm)
                · exact gb_set (gb_set (gb_drew HG2.out))
              case measure => simp [intOf]
          · have hst := HJ.out.stop hji (by omega) (.inr (by
              rw [Nat.add_sub_cancel, HXJ.out, HXP.out]
              have := HKV.out
              rw [decide_eq_false hlv] at this
              exact of_decide_eq_false this.symm))
            have HS2 := hid_ hst
            clear hst
            go_wp2_with fail
            go_quiet ((go_at_call 59; exact Calls.quiet_of (hc.out _)))
            go_wp2
            go_roundw
            case rel => exact ⟨i + 1, Y, by go_num, by omega, by omega, HO.out.drewN nq, gb_drewN HG.out nq, HJ.out.kept, HS2.out, fun h => by omega⟩
            case measure => simp [intOf]; omega
        · obtain rfl : j = a := by omega
          have HS2 := hid_ (HJ.out.stop hji (Nat.le_refl _) (.inl rfl))
          go_wp2_with fail
          go_quiet (fail)
          go_wp2
          go_roundw
          case rel => exact ⟨i + 1, Y, by go_num, by omega, by omega, HO.out.drewN nq, gb_drewN HG.out nq, HJ.out.kept, HS2.out, fun h => by omega⟩
          case measure => simp [intOf]; omega
    · by_cases hib2 : i = b
      · obtain rfl := hib2
        clear HI
        go_wp2
        go_returns
        exact ⟨rfl, X, HO.out, HG.out, HK.out, HS.out⟩
      · have hi1 : i = a + 1 := by omega
        have HX := hid_ (HI.out hi1)
        clear hi1 HI
        obtain rfl : a = b := by omega
        go_wp2
        go_returns
        exact ⟨rfl, X0, by rw [← HX.out]; exact HO.out, HG.out, Kept.refl _ _ _, fun p q h1 h2 h3 => by omega⟩
end Go.Proofs.Ytfelfopcmkeimaa
