/-
  Barriers: whether an order is safe, as the program tells it.
-/
import Derived.Test.YtfmkjhkopocokaaBsA
namespace Go.Proofs.Ytfmkjhkopocokaa
open Go.ChangeShapes Go.WideShapes Go.ChangeAt Go.RowKit Go.BigFrame

set_option maxHeartbeats 2000000 in
theorem isSafe_any (l : List It) (A : Option Addr) (n c : Nat) (o : List Int) (A2 : Option Addr) (n2 c2 : Nat) (w : World) (hn : l.length = n) (hm : n ≤ 1048576) (hR : Rd w 2 A n (itC l)) (hn2 : o.length = n2) (hm2 : n2 ≤ 1048576) (hc2 : n2 ≤ c2) (hcm2 : c2 ≤ maxLen) (hR2 : Rd w 1 A2 n2 (intC o)) :
    Calls Try.prog 45 #[.slice A n c, .slice A2 n2 c2] w fun e w' => e = .returned (.bool (safeR l o)) ∧ Below w.heap.size w w' := by
  have HR := hid_ hR; clear hR
  have HR2 := hid_ hR2; clear hR2
  have HN := hid_ hn; clear hn
  have HN2 := hid_ hn2; clear hn2
  have HC2 := hid_ hcm2; clear hcm2
  by_cases h12 : n ≤ 12
  · cases q1 : isOrd n o
    · have hR0 := hid_ (safeR_no (l := l) (o := o) (Or.inr (by rw [HN.out]; exact q1)))
      go_enter Try.func45, Try.ntmps45
      go_wp2_with (go_at_call 52; refine (implOrd_any o A2 n2 c2 n _ HN2.out (by omega) (by omega) hc2 HC2.out HR2.out).mono ?_; rintro e w2 ⟨rfl, rfl⟩)
      go_returns
      exact ⟨ret_bool (by rw [hR0.out]), Below.refl _ _⟩
    · have hR0 := hid_ (safeR_is (l := l) (o := o) (by rw [HN.out]; exact h12) (by rw [HN.out]; exact q1))
      have HO := hid_ (isOrd_mem q1)
      have hno := (isOrd_parts q1).1
      rw [HN2.out] at hno
      subst hno
      go_enter Try.func45, Try.ntmps45
      go_wp2_with (go_at_call 52; refine (implOrd_any o A2 n2 c2 n2 _ HN2.out (by omega) (by omega) hc2 HC2.out HR2.out).mono ?_; rintro e w2 ⟨rfl, rfl⟩)
      clear q1
      go_loopw [21] (fun v wr => ∃ j : Nat, j ≤ n2 ∧ v = .int .i64 j ∧ Below w.heap.size w wr ∧ ∀ a b (hb : b < o.length) (hab : a < b), a < j → clash l (o[a]'(by omega)) o[b] = false) (fun v _ => n2 - (intOf v).toNat)
      case atStart => exact ⟨0, Nat.zero_le _, rfl, Below.refl _ _, fun a b hb hab h => absurd h (by omega)⟩
      case round =>
        obtain ⟨j, hj, rfl, hb, hid⟩ := hrel
        have HI := hid_ hid; clear hid
        by_cases hlt : j < n2
        · have hjo : j < o.length := by rw [HN2.out]; exact hlt
          obtain ⟨b2, o2, rfl⟩ := addr_of HR2.out (by omega)
          obtain ⟨b1, o1, rfl⟩ := addr_of HR.out (by omega)
          obtain ⟨x, hx0, hxn, hxe⟩ := ints_cell2 (HR2.out.below hb) HN2.out n2 HO.out j hlt
          have HXE := hid_ hxe; clear hxe
          have hbx := (HR.out.below hb).itb x hxn HN.out
          have hxz : (x : Int) < (n2 : Int) := by omega
          have hjc : (j : Int) + 1 ≤ (c2 : Int) := by omega
          have hjn : (j : Int) + 1 ≤ (n2 : Int) := by omega
          by_cases hlast : j + 1 = n2
          · by_cases hcc : c2 = j + 1
            all_goals
              go_wp2
              go_loopw [31] (fun v wi => v = .int .i64 0 ∧ Below w.heap.size w wi) (fun v _ => 0)
              case atStart => exact ⟨rfl, hb⟩
              case round =>
                obtain ⟨rfl, hbi⟩ := hrel
                have hz : n2 - (j + 1) = 0 := by omega
                go_wp2
                go_roundw
                case rel =>
                  refine ⟨j + 1, by omega, by go_num, hbi, fun a b hb hab h => ?_⟩
                  by_cases e : a = j
                  · rw [HN2.out] at hb; omega
                  · exact HI.out a b hb hab (by omega)
                case measure => exact meas_ hlt
          · have hcc : ¬ c2 = j + 1 := by omega
            go_wp2
            go_loopw [31] (fun v wi => ∃ i : Nat, i + (j + 1) ≤ n2 ∧ v = .int .i64 i ∧ Below w.heap.size w wi ∧ (∀ b (hab : b < i + (j + 1)) (hjb : j < b) (hbo : b < o.length), clash l (x : Int) o[b] = false) ∧ (∀ a, wr.cell? a = wi.cell? a)) (fun v _ => n2 - (intOf v).toNat)
            case atStart => exact ⟨0, by omega, rfl, hb, fun b h1 h2 => absurd h1 (by omega), fun _ => rfl⟩
            case round =>
              obtain ⟨i, hi, rfl, hbi, hid2, hce⟩ := hrel
              have HI2 := hid_ hid2; clear hid2
              have HCE := hid_ hce; clear hce
              rw [HCE.out] at hx0 hbx
              by_cases hlt2 : i + (j + 1) < n2
              · have hio : i + (j + 1) < o.length := by rw [HN2.out]; exact hlt2
                obtain ⟨y, hy0, hyn, hye⟩ := ints_cell2 (HR2.out.below hbi) HN2.out n2 HO.out (i + (j + 1)) (by omega)
                have HYE := hid_ hye; clear hye
                have hby := (HR.out.below hbi).itb y hyn HN.out
                have hyz : (y : Int) < (n2 : Int) := by omega
                have hin : (i : Int) < ((n2 - (j + 1) : Nat) : Int) := by omega
                rw [show o2 + (i + (j + 1)) = o2 + (j + 1) + i by omega] at hy0
                have HCL := hid_ (clash_nat l x y)
                obtain ⟨bx, hbxe⟩ : ∃ b, bar l x = b := ⟨_, rfl⟩
                obtain ⟨by_, hbye⟩ : ∃ b, bar l y = b := ⟨_, rfl⟩
                rw [hbxe] at hbx HCL
                rw [hbye] at hby HCL
                clear hbxe hbye
                by_cases hyx : y < x
                · have hd : decide ((y : Int) < (x : Int)) = true := by simpa using hyx
                  have hcl := HCL.out
                  rw [decide_eq_true hyx, Bool.true_and] at hcl
                  cases bx
                  · cases by_
                    · have HC := hid_ hcl; clear hcl HCL
                      go_wp2
                      go_roundw
                      case rel =>
                        refine ⟨i + 1, by omega, by go_num, hbi, fun b h1 h2 hbo => ?_, fun a => (HCE.out a).trans rfl⟩
                        by_cases e : b = i + (j + 1)
                        · subst e; rw [HYE.out]; exact HC.out
                        · exact HI2.out b (by omega) h2 hbo
                      case measure => simp [intOf]; omega
                    · have HC := hid_ hcl; clear hcl HCL
                      go_wp2
                      go_returns
                      exact ⟨ret_bool (by rw [hR0.out]; exact (safeO_at hio (show j < i + (j + 1) by omega) (by rw [HXE.out, HYE.out]; exact HC.out)).symm), hbi⟩
                  · have HC := hid_ (hcl.trans (Bool.true_or _)); clear hcl HCL
                    go_wp2
                    go_returns
                    exact ⟨ret_bool (by rw [hR0.out]; exact (safeO_at hio (show j < i + (j + 1) by omega) (by rw [HXE.out, HYE.out]; exact HC.out)).symm), hbi⟩
                · have hd : decide ((y : Int) < (x : Int)) = false := by simpa using hyx
                  have hcl := HCL.out
                  rw [decide_eq_false hyx, Bool.false_and] at hcl
                  have HC := hid_ hcl; clear hcl HCL
                  go_wp2
                  go_roundw
                  case rel =>
                    refine ⟨i + 1, by omega, by go_num, hbi, fun b h1 h2 hbo => ?_, fun a => (HCE.out a).trans rfl⟩
                    by_cases e : b = i + (j + 1)
                    · subst e; rw [HYE.out]; exact HC.out
                    · exact HI2.out b (by omega) h2 hbo
                  case measure => simp [intOf]; omega
              · have hin : ((n2 - (j + 1) : Nat) : Int) ≤ (i : Int) := by omega
                go_wp2
                go_roundw
                case rel =>
                  refine ⟨j + 1, by omega, by go_num, hbi, fun a b hb hab h => ?_⟩
                  by_cases e : a = j
                  · subst e; rw [HXE.out]; exact HI2.out b (by rw [HN2.out] at hb; omega) hab hb
                  · exact HI.out a b hb hab (by omega)
                case measure => exact meas_ hlt
        · go_wp2
          go_returns
          exact ⟨ret_bool (by rw [hR0.out]; exact (safeO_end (fun a b hb hab => HI.out a b hb hab (by rw [HN2.out] at hb; omega))).symm), hb⟩
  · have hR0 := hid_ (safeR_no (l := l) (o := o) (Or.inl (by rw [HN.out]; omega)))
    have h12' : (12 : Int) < (n : Int) := by omega
    go_enter Try.func45, Try.ntmps45
    go_wp2
    go_returns
    exact ⟨ret_bool (by rw [hR0.out]), Below.refl _ _⟩

theorem implSafe_any (l : List It) (A : Option Addr) (n c : Nat) (o : List Int) (A2 : Option Addr) (n2 c2 : Nat) (w : World) (hn : l.length = n) (hm : n ≤ 1048576) (_ : n ≤ c) (_ : c ≤ maxLen) (hR : Rd w 2 A n (itC l)) (hn2 : o.length = n2) (hm2 : n2 ≤ 1048576) (hc2 : n2 ≤ c2) (hcm2 : c2 ≤ maxLen) (hR2 : Rd w 1 A2 n2 (intC o)) :
    Calls Try.prog 29 #[.slice A n c, .slice A2 n2 c2] w fun e w' => e = .returned (.bool (safeR l o)) ∧ Below w.heap.size w w' := by
  have HR := hid_ hR; clear hR
  have HR2 := hid_ hR2; clear hR2
  have HN := hid_ hn; clear hn
  have HN2 := hid_ hn2; clear hn2
  have HC2 := hid_ hcm2; clear hcm2
  go_enter Try.func29, Try.ntmps29
  go_wp2_with (go_at_call 45; refine (isSafe_any l A n c o A2 n2 c2 _ HN.out hm HR.out HN2.out hm2 hc2 HC2.out HR2.out).mono ?_; rintro e w1 ⟨rfl, hb1⟩)
  go_returns
  exact ⟨rfl, hb1⟩
end Go.Proofs.Ytfmkjhkopocokaa
