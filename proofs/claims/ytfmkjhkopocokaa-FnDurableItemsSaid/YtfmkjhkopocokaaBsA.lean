/-
  Barriers: whether an order is safe.
-/
import Derived.Test.YtfmkjhkopocokaaOrB
import Derived.Test.YtfmkjhkopocokaaItB
namespace Go.Proofs.Ytfmkjhkopocokaa
open Go.ChangeShapes Go.WideShapes Go.ChangeAt Go.RowKit Go.BigFrame

/-- two places, in this order, that have changed places although one is a barrier -/
def clash (l : List It) (x y : Int) : Bool := decide (y < x) && (bar l x.toNat || bar l y.toNat)
theorem clash_nat (l : List It) (x y : Nat) : clash l (x : Int) (y : Int) = (decide (y < x) && (bar l x || bar l y)) := by
  unfold clash; congr 1; rw [Bool.eq_iff_iff]; simp
def safeO (l : List It) (o : List Int) : Bool := decide (o.Pairwise fun x y => clash l x y = false)
theorem safeO_end {l : List It} {o : List Int} (h : ∀ a b (hb : b < o.length) (hab : a < b), clash l (o[a]'(by omega)) o[b] = false) : safeO l o = true := by
  unfold safeO
  rw [decide_eq_true_eq, List.pairwise_iff_getElem]
  intro i j hi hj hij
  exact h i j hj hij
theorem safeO_at {l : List It} {o : List Int} {a b : Nat} (hb : b < o.length) (hab : a < b) (h : clash l (o[a]'(by omega)) o[b] = true) : safeO l o = false := by
  unfold safeO
  rw [decide_eq_false_iff_not, List.pairwise_iff_getElem]
  intro hx
  have := hx a b (by omega) hb hab
  rw [h] at this; cases this
def safeR (l : List It) (o : List Int) : Bool := decide (l.length ≤ 12) && isOrd l.length o && safeO l o
theorem safeR_parts {l : List It} {o : List Int} (h : safeR l o = true) : l.length ≤ 12 ∧ isOrd l.length o = true ∧ safeO l o = true := by
  unfold safeR at h; simpa [and_assoc] using h
theorem safeR_no {l : List It} {o : List Int} (h : 12 < l.length ∨ isOrd l.length o = false) : safeR l o = false := by
  unfold safeR
  rcases h with h | h
  · rw [decide_eq_false (by omega)]; rfl
  · rw [h]; simp
theorem safeR_is {l : List It} {o : List Int} (h : l.length ≤ 12) (h2 : isOrd l.length o = true) : safeR l o = safeO l o := by
  unfold safeR; rw [decide_eq_true h, h2]; rfl

theorem ints_cell {w : World} {A : Option Addr} {n : Nat} {X : List Int} (h : Rd w 1 A n (intC X)) (hn : X.length = n) (m : Nat) (hX : ∀ x ∈ X, 0 ≤ x ∧ x < m) (i : Nat) (hi : i < n) :
    ∃ b o x, A = some ⟨b, o, none⟩ ∧ w.cell? ⟨b, o + i, none⟩ = some (.int .i64 ((x : Nat) : Int)) ∧ x < m ∧ X[i]'(by omega) = ((x : Nat) : Int) := by
  obtain ⟨b, o, e, hc⟩ := h.int i hi hn
  have hb := hX (X[i]'(by omega)) (List.getElem_mem _)
  obtain ⟨x, hx⟩ := Int.eq_ofNat_of_zero_le hb.1
  rw [hx] at hc
  exact ⟨b, o, x, e, hc, by omega, hx⟩
theorem ints_cell2 {w : World} {b o n : Nat} {X : List Int} (h : Rd w 1 (some ⟨b, o, none⟩) n (intC X)) (hn : X.length = n) (m : Nat) (hX : ∀ x ∈ X, 0 ≤ x ∧ x < m) (i : Nat) (hi : i < n) :
    ∃ x, w.cell? ⟨b, o + i, none⟩ = some (.int .i64 ((x : Nat) : Int)) ∧ x < m ∧ X[i]'(by omega) = ((x : Nat) : Int) := by
  obtain ⟨b', o', x, e, h1, h2, h3⟩ := ints_cell h hn m hX i hi
  injection e with e
  injection e with e1 e2
  subst e1; subst e2
  exact ⟨x, h1, h2, h3⟩
theorem addr_of {w : World} {A : Option Addr} {n k : Nat} {xs : List Value} (h : Rd w k A n xs) (hn : 0 < n) : ∃ b o, A = some ⟨b, o, none⟩ := by
  obtain ⟨b, o, e, _⟩ := h.2 hn
  exact ⟨b, o, e⟩

set_option maxHeartbeats 2000000 in
theorem specSafe_any (l : List It) (A : Option Addr) (n c : Nat) (o : List Int) (A2 : Option Addr) (n2 c2 : Nat) (w : World) (hn : l.length = n) (hm : n ≤ 1048576) (hR : Rd w 2 A n (itC l)) (hn2 : o.length = n2) (hm2 : n2 ≤ 1048576) (hR2 : Rd w 1 A2 n2 (intC o)) :
    Calls Try.prog 27 #[.slice A n c, .slice A2 n2 c2] w fun e w' => e = .returned (.bool (safeR l o)) ∧ Below w.heap.size w w' := by
  have HR := hid_ hR; clear hR
  have HR2 := hid_ hR2; clear hR2
  have HN := hid_ hn; clear hn
  have HN2 := hid_ hn2; clear hn2
  by_cases h12 : n ≤ 12
  · cases q1 : isOrd n o
    · have hR0 := hid_ (safeR_no (l := l) (o := o) (Or.inr (by rw [HN.out]; exact q1)))
      go_enter Try.func27, Try.ntmps27
      go_wp2_with (go_at_call 44; refine (specOrd_any o A2 n2 c2 n _ HN2.out hm2 HR2.out).mono ?_; rintro e w2 ⟨rfl, hb2⟩)
      go_returns
      exact ⟨ret_bool (by rw [hR0.out]), hb2⟩
    · have hR0 := hid_ (safeR_is (l := l) (o := o) (by rw [HN.out]; exact h12) (by rw [HN.out]; exact q1))
      have HO := hid_ (isOrd_mem q1)
      have hno := (isOrd_parts q1).1
      rw [HN2.out] at hno
      subst hno
      go_enter Try.func27, Try.ntmps27
      go_wp2_with (go_at_call 44; refine (specOrd_any o A2 n2 c2 n2 _ HN2.out hm2 HR2.out).mono ?_; rintro e w2 ⟨rfl, hb2⟩)
      clear q1
      go_loopw [5] (fun v wr => ∃ j : Nat, j ≤ n2 ∧ v = .int .i64 j ∧ Below w.heap.size w wr ∧ ∀ a b (hb : b < o.length) (hab : a < b), b < j → clash l (o[a]'(by omega)) o[b] = false) (fun v _ => n2 - (intOf v).toNat)
      case atStart => exact ⟨0, Nat.zero_le _, rfl, hb2, fun a b hb hab h => absurd h (by omega)⟩
      case round =>
        obtain ⟨j, hj, rfl, hb, hid⟩ := hrel
        have HI := hid_ hid; clear hid
        by_cases hlt : j < n2
        · have hjo : j < o.length := by rw [HN2.out]; exact hlt
          obtain ⟨b2, o2, rfl⟩ := addr_of HR2.out (by omega)
          obtain ⟨b1, o1, rfl⟩ := addr_of HR.out (by omega)
          obtain ⟨y, hy0, hyn, hye⟩ := ints_cell2 (HR2.out.below hb) HN2.out n2 HO.out j hlt
          have HYE := hid_ hye; clear hye
          have hby := (HR.out.below hb).itb y hyn HN.out
          have hyz : (y : Int) < (n2 : Int) := by omega
          go_wp2
          go_loopw [6] (fun v wi => ∃ i : Nat, i ≤ j ∧ v = .int .i64 i ∧ Below w.heap.size w wi ∧ (∀ a (hab : a < i) (hao : a < o.length), clash l o[a] (y : Int) = false) ∧ (∀ a, wr.cell? a = wi.cell? a)) (fun v _ => j - (intOf v).toNat)
          case atStart => exact ⟨0, Nat.zero_le _, rfl, hb, fun a hab => absurd hab (by omega), fun _ => rfl⟩
          case round =>
            obtain ⟨i, hi, rfl, hbi, hid2, hce⟩ := hrel
            have HI2 := hid_ hid2; clear hid2
            have HCE := hid_ hce; clear hce
            rw [HCE.out] at hy0 hby
            by_cases hlt2 : i < j
            · have hio : i < o.length := by omega
              obtain ⟨x, hx0, hxn, hxe⟩ := ints_cell2 (HR2.out.below hbi) HN2.out n2 HO.out i (by omega)
              have HXE := hid_ hxe; clear hxe
              have hbx := (HR.out.below hbi).itb x hxn HN.out
              have hxz : (x : Int) < (n2 : Int) := by omega
              have hij : (i : Int) < (j : Int) := by omega
              have hjn : (j : Int) < (n2 : Int) := by omega
              have hin : (i : Int) < (n2 : Int) := by omega
              have HCL := hid_ (clash_nat l x y)
              obtain ⟨bx, hbxe⟩ : ∃ b, bar l x = b := ⟨_, rfl⟩
              obtain ⟨by_, hbye⟩ : ∃ b, bar l y = b := ⟨_, rfl⟩
              rw [hbxe] at hbx HCL
              rw [hbye] at hby HCL
              clear hbxe hbye
              by_cases hyx : y < x
              · have hd : decide ((y : Int) < (x : Int)) = true := by simpa using hyx
                have hd2 : decide ((x : Int) > (y : Int)) = true := by simpa using hyx
                have hcl := HCL.out
                rw [decide_eq_true hyx, Bool.true_and] at hcl
                cases bx
                · cases by_
                  · have HC := hid_ hcl; clear hcl HCL
                    go_wp2
                    go_quiet (fail)
                    go_wp2
                    go_roundw
                    case rel =>
                      refine ⟨i + 1, by omega, by go_num, bdN hbi _, fun a hab hao => ?_, fun a => (HCE.out a).trans rfl⟩
                      by_cases e : a = i
                      · subst e; rw [HXE.out]; exact HC.out
                      · exact HI2.out a (by omega) hao
                    case measure => exact meas_ hlt2
                  · have HC := hid_ hcl; clear hcl HCL
                    go_wp2
                    go_quiet (fail)
                    go_wp2
                    go_returns
                    exact ⟨ret_bool (by rw [hR0.out]; exact (safeO_at hjo hlt2 (by rw [HXE.out, HYE.out]; exact HC.out)).symm), bdN hbi _⟩
                · have HC := hid_ (hcl.trans (Bool.true_or _)); clear hcl HCL
                  go_wp2
                  go_quiet (fail)
                  go_wp2
                  go_returns
                  exact ⟨ret_bool (by rw [hR0.out]; exact (safeO_at hjo hlt2 (by rw [HXE.out, HYE.out]; exact HC.out)).symm), bdN hbi _⟩
              · have hd : decide ((y : Int) < (x : Int)) = false := by simpa using hyx
                have hd2 : decide ((x : Int) > (y : Int)) = false := by simpa using hyx
                have hcl := HCL.out
                rw [decide_eq_false hyx, Bool.false_and] at hcl
                have HC := hid_ hcl; clear hcl HCL
                go_wp2
                go_quiet (fail)
                go_wp2
                go_roundw
                case rel =>
                  refine ⟨i + 1, by omega, by go_num, bdN hbi _, fun a hab hao => ?_, fun a => (HCE.out a).trans rfl⟩
                  by_cases e : a = i
                  · subst e; rw [HXE.out]; exact HC.out
                  · exact HI2.out a (by omega) hao
                case measure => exact meas_ hlt2
            · have e : i = j := by omega
              subst e
              go_wp2
              go_roundw
              case rel =>
                refine ⟨i + 1, by omega, by go_num, hbi, fun a b hb hab h => ?_⟩
                by_cases e : b = i
                · subst e; rw [HYE.out]; exact HI2.out a hab (by omega)
                · exact HI.out a b hb hab (by omega)
              case measure => exact meas_ hlt
        · go_wp2
          go_returns
          exact ⟨ret_bool (by rw [hR0.out]; exact (safeO_end (fun a b hb hab => HI.out a b hb hab (by rw [HN2.out] at hb; omega))).symm), hb⟩
  · have hR0 := hid_ (safeR_no (l := l) (o := o) (Or.inl (by rw [HN.out]; omega)))
    have h12' : (12 : Int) < (n : Int) := by omega
    go_enter Try.func27, Try.ntmps27
    go_wp2
    go_returns
    exact ⟨ret_bool (by rw [hR0.out]), Below.refl _ _⟩
end Go.Proofs.Ytfmkjhkopocokaa
