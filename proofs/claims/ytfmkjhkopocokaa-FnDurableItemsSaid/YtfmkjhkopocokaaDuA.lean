/-
  Barriers: the items that are certainly on the disk.
-/
import Derived.Test.YtfmkjhkopocokaaBsB
namespace Go.Proofs.Ytfmkjhkopocokaa
open Go.ChangeShapes Go.WideShapes Go.ChangeAt Go.RowKit Go.BigFrame

/-- how many places are certainly on the disk behind the places of o -/
def durN (l : List It) (o : List Int) : Nat := o.foldl (fun m x => if bar l x.toNat = true then max m (x.toNat + 1) else m) 0
theorem durN_take (l : List It) (o : List Int) (k x : Nat) (h : k < o.length) (hx : o[k] = (x : Int)) : durN l (o.take (k + 1)) = if bar l x = true then max (durN l (o.take k)) (x + 1) else durN l (o.take k) := by
  rw [← List.take_append_getElem h]; unfold durN; rw [List.foldl_append, hx]; rfl
theorem durN_le (l : List It) (o : List Int) (n : Nat) (h : ∀ x ∈ o, 0 ≤ x ∧ x < n) : durN l o ≤ n := by
  have key : ∀ (o : List Int) (m : Nat), m ≤ n → (∀ x ∈ o, 0 ≤ x ∧ x < n) → o.foldl (fun m x => if bar l x.toNat = true then max m (x.toNat + 1) else m) m ≤ n := by
    intro o
    induction o with
    | nil => intro m hm _; exact hm
    | cons x r ih =>
      intro m hm hx
      have := hx x List.mem_cons_self
      refine ih _ ?_ (fun y hy => hx y (List.mem_cons_of_mem _ hy))
      show (if bar l x.toNat = true then max m (x.toNat + 1) else m) ≤ n
      split <;> omega
  exact key o 0 (Nat.zero_le _) h
def duOk (l : List It) (o : List Int) (done : Int) : Bool := safeR l o && inB done 0 l.length
def durR (l : List It) (o : List Int) (done : Int) : List Int := if duOk l o done = true then ints (durN l (o.take done.toNat)) else []
theorem durR_ok {l : List It} {o : List Int} {done : Int} (h : duOk l o done = true) : durR l o done = ints (durN l (o.take done.toNat)) := if_pos h
theorem durR_no {l : List It} {o : List Int} {done : Int} (h : duOk l o done = false) : durR l o done = [] := if_neg (by simp [h])
theorem duOk_parts {l : List It} {o : List Int} {done : Int} (h : duOk l o done = true) : safeR l o = true ∧ inB done 0 l.length = true := by
  unfold duOk at h; simpa using h
theorem duOk_not {l : List It} {o : List Int} {done : Int} (h : duOk l o done = false) : safeR l o = false ∨ (safeR l o = true ∧ inB done 0 l.length = false) := by
  unfold duOk at h
  cases q0 : safeR l o <;> cases q1 : inB done 0 l.length <;> simp_all
theorem durR_length (l : List It) (o : List Int) (done : Int) : (durR l o done).length ≤ l.length := by
  cases h : duOk l o done
  · rw [durR_no h]; exact Nat.zero_le _
  · rw [durR_ok h, ints_length]
    have h2 := (safeR_parts (duOk_parts h).1).2.1
    exact durN_le l _ _ (fun x hx => isOrd_mem h2 x (List.mem_of_mem_take hx))

set_option maxHeartbeats 2000000 in
theorem specDur_any (l : List It) (A : Option Addr) (n c : Nat) (o : List Int) (A2 : Option Addr) (n2 c2 : Nat) (done : Int) (w : World) (hn : l.length = n) (hm : n ≤ 1048576) (hR : Rd w 2 A n (itC l)) (hn2 : o.length = n2) (hm2 : n2 ≤ 1048576) (hR2 : Rd w 1 A2 n2 (intC o)) :
    Calls Try.prog 32 #[.slice A n c, .slice A2 n2 c2, .int .i64 done] w (RSl w 3 1 (durR l o done).length (intC (durR l o done))) := by
  have HR := hid_ hR; clear hR
  have HR2 := hid_ hR2; clear hR2
  have HN := hid_ hn; clear hn
  have HN2 := hid_ hn2; clear hn2
  cases hok : duOk l o done
  · have hR0 := hid_ (durR_no hok)
    rcases duOk_not hok with q0 | ⟨q0, q1⟩
    · clear hok
      go_enter Try.func32, Try.ntmps32
      go_wp2_with (first | (go_at_call 27; refine (specSafe_any l A n c o A2 n2 c2 _ HN.out hm (HR.out.alloc _) HN2.out hm2 (HR2.out.alloc _)).mono ?_; rintro e w1 ⟨rfl, hb1⟩))
      go_returns
      exact RSl.of_own' (own_below (own_empty w 3 1) hb1) (((Below.refl _ _).alloc (Nat.le_refl _) _).trans (hb1.mono (by simp))) (by rw [hR0.out]; rfl) (by rw [hR0.out]; rfl)
    · clear hok
      have hno := (isOrd_parts (safeR_parts q0).2.1).1
      rw [HN.out, HN2.out] at hno
      subst hno
      rw [HN.out] at q1
      go_enter Try.func32, Try.ntmps32
      go_wp2_with (first | (go_at_call 27; refine (specSafe_any l A n2 c o A2 n2 c2 _ HN.out hm (HR.out.alloc _) HN2.out hm2 (HR2.out.alloc _)).mono ?_; rintro e w1 ⟨rfl, hb1⟩) | (go_at_call 47; refine (l1In_any _ _ _ _).mono ?_; rintro e w3 ⟨rfl, rfl⟩))
      go_returns
      exact RSl.of_own' (own_below (own_empty w 3 1) hb1) (((Below.refl _ _).alloc (Nat.le_refl _) _).trans (hb1.mono (by simp))) (by rw [hR0.out]; rfl) (by rw [hR0.out]; rfl)
  · obtain ⟨q0, q1⟩ := duOk_parts hok
    have hR0 := hid_ (durR_ok hok)
    clear hok
    obtain ⟨h12, hord, _⟩ := safeR_parts q0
    have HO := hid_ (isOrd_mem hord)
    have hno := (isOrd_parts hord).1
    rw [HN.out, HN2.out] at hno
    rw [HN.out] at q1 h12 HO
    clear hord
    subst hno
    have bd := inB_iff.1 q1
    obtain ⟨d, rfl⟩ := Int.eq_ofNat_of_zero_le bd.1
    have hdn : d ≤ n2 := by omega
    rw [show ((d : Nat) : Int).toNat = d from rfl] at hR0
    have HDL := hid_ (fun k => durN_le l (o.take k) n2 (fun x hx => HO.out x (List.mem_of_mem_take hx)))
    go_enter Try.func32, Try.ntmps32
    go_wp2_with (first | (go_at_call 27; refine (specSafe_any l A n2 c o A2 n2 c2 _ HN.out hm (HR.out.alloc _) HN2.out hm2 (HR2.out.alloc _)).mono ?_; rintro e w1 ⟨rfl, hb1⟩) | (go_at_call 47; refine (l1In_any _ _ _ _).mono ?_; rintro e w3 ⟨rfl, rfl⟩))
    clear q0 q1
    have hz := hb1.size
    simp only [World.size_alloc] at hz
    have HB1 := hid_ (((Below.refl w.heap.size w).alloc (Nat.le_refl _) (.cells #[] 3)).trans (hb1.mono (by simp)))
    have HE1 := hid_ (own_below (own_empty w 3 1) hb1)
    clear hb1
    go_loopw [8, 9] (fun v i wr => ∃ (k : Nat) (X : Int), k ≤ d ∧ i = .int .i64 k ∧ v = .int .i64 X ∧ X = (durN l (o.take k) : Int) - 1 ∧ w1 = wr) (fun _ i _ => d - (intOf i).toNat)
    case atStart => exact ⟨0, -1, Nat.zero_le _, rfl, rfl, rfl, rfl⟩
    case round =>
      obtain ⟨k, X, hk, rfl, rfl, hX, rfl⟩ := hrel
      have HX := hid_ hX; clear hX
      by_cases hlt : k < d
      · have hko : k < o.length := by rw [HN2.out]; omega
        obtain ⟨b2, o2, rfl⟩ := addr_of HR2.out (by omega)
        obtain ⟨b1, o1, rfl⟩ := addr_of HR.out (by omega)
        obtain ⟨x, hx0, hxn, hxe⟩ := ints_cell2 (HR2.out.below HB1.out) HN2.out n2 HO.out k (by omega)
        have HT := hid_ (durN_take l o k x hko hxe); clear hxe
        have hbx := (HR.out.below HB1.out).itb x hxn HN.out
        have hxz : (x : Int) < (n2 : Int) := by omega
        have hkz : (k : Int) < (n2 : Int) := by omega
        obtain ⟨bx, hbxe⟩ : ∃ b, bar l x = b := ⟨_, rfl⟩
        rw [hbxe] at hbx HT
        clear hbxe
        have hd2 := HDL.out k
        obtain ⟨m, hm'⟩ : ∃ m, durN l (o.take k) = m := ⟨_, rfl⟩
        rw [hm'] at HT HX hd2
        clear hm'
        cases bx
        · have hT := hid_ (HT.out.trans (if_neg (by simp))); clear HT
          go_wp2
          go_roundw
          case rel => exact ⟨k + 1, X, by omega, by go_num, rfl, by rw [hT.out]; exact HX.out, trivial⟩
          case measure => exact meas_ hlt
        · have hT := hid_ (HT.out.trans (if_pos rfl)); clear HT
          have hXb : X = (m : Int) - 1 := HX.out
          have hXl := hid_ hXb
          have h1 : -1 ≤ X := by omega
          have h2 : X ≤ n2 := by omega
          clear hXb
          rcases (show X < (x : Int) ∨ (x : Int) ≤ X by omega) with hsp | hsp
          all_goals
            go_wp2
            go_roundw
            case rel => exact ⟨k + 1, max X (x : Int), by omega, by go_num, by congr 1; omega, by rw [hT.out]; have := hXl.out; omega, trivial⟩
            case measure => exact meas_ hlt
      · have e : k = d := by omega
        subst e
        have hd2 := HDL.out k
        obtain ⟨m, hm'⟩ : ∃ m, durN l (o.take k) = m := ⟨_, rfl⟩
        rw [hm'] at HX hd2 hR0
        clear hm' HDL
        have hXb := HX.out
        subst hXb
        go_wp2
        go_loopw [7, 10] (fun v i wr => ∃ j : Nat, j ≤ m ∧ i = .int .i64 j ∧ wr.ownsRow w.heap.size 3 1 v j (intC (ints j)) ∧ Below w.heap.size w wr) (fun _ i _ => m - (intOf i).toNat)
        case atStart => exact ⟨0, Nat.zero_le _, rfl, HE1.out, HB1.out⟩
        case round =>
          obtain ⟨j, hj, rfl, ho, hb⟩ := hrel
          have HOw := hid_ ho; clear ho
          have hbw := hb.size
          by_cases hlt2 : j < m
          · have hle : (j : Int) ≤ (m : Int) - 1 := by omega
            go_wp2_with (at_builtin; refine wpList_push _ rfl _ _ 38 rfl w.heap.size 3 (.int .i64 0) 1 8 Try.underlying38 int_info rfl (by decide) (by decide) _ _ rfl rfl _ _ _ HOw.out rfl _ rfl (by simp) (by omega) (by omega) ?_; intro v' w' ho' hg')
            go_roundw
            case rel => exact ⟨j + 1, by omega, by go_num, own_eq ho' (by simp) (by rw [ints_succ, intC_append]; rfl), below_push hb HOw.out hg' (by omega)⟩
            case measure => exact meas_ hlt2
          · have hle : (m : Int) - 1 < (j : Int) := by omega
            have e : j = m := by omega
            subst e
            go_wp2
            go_returns
            exact RSl.of_own' HOw.out hb (by rw [hR0.out, ints_length]) (by rw [hR0.out])

set_option maxHeartbeats 2000000 in
theorem implDur_any (l : List It) (A : Option Addr) (n c : Nat) (o : List Int) (A2 : Option Addr) (n2 c2 : Nat) (done : Int) (w : World) (hn : l.length = n) (hm : n ≤ 1048576) (hc : n ≤ c) (hcm : c ≤ maxLen) (hR : Rd w 2 A n (itC l)) (hn2 : o.length = n2) (hm2 : n2 ≤ 1048576) (hc2 : n2 ≤ c2) (hcm2 : c2 ≤ maxLen) (hR2 : Rd w 1 A2 n2 (intC o)) :
    Calls Try.prog 33 #[.slice A n c, .slice A2 n2 c2, .int .i64 done] w (RSl w 3 1 (durR l o done).length (intC (durR l o done))) := by
  have HR := hid_ hR; clear hR
  have HR2 := hid_ hR2; clear hR2
  have HN := hid_ hn; clear hn
  have HN2 := hid_ hn2; clear hn2
  have HC2 := hid_ hcm2; clear hcm2
  clear hc hcm
  cases hok : duOk l o done
  · have hR0 := hid_ (durR_no hok)
    rcases duOk_not hok with q0 | ⟨q0, q1⟩
    all_goals
      clear hok
      try rw [HN.out] at q1
      go_enter Try.func33, Try.ntmps33
      go_wp2_with (first | (go_at_call 45; refine (isSafe_any l A n c o A2 n2 c2 _ HN.out hm HR.out HN2.out hm2 hc2 HC2.out HR2.out).mono ?_; rintro e w1 ⟨rfl, hb1⟩) | (go_at_call 48; refine (iwithin_any _ _ _ _).mono ?_; rintro e w3 ⟨rfl, rfl⟩))
      go_returns
      exact RSl.of_own' (World.ownsRow_nil _ _ _ _) hb1 (by rw [hR0.out]; rfl) (by rw [hR0.out]; rfl)
  · obtain ⟨q0, q1⟩ := duOk_parts hok
    have hR0 := hid_ (durR_ok hok)
    clear hok
    obtain ⟨h12, hord, _⟩ := safeR_parts q0
    have HO := hid_ (isOrd_mem hord)
    have hno := (isOrd_parts hord).1
    rw [HN.out, HN2.out] at hno
    rw [HN.out] at q1 h12 HO
    clear hord
    subst hno
    have bd := inB_iff.1 q1
    obtain ⟨d, rfl⟩ := Int.eq_ofNat_of_zero_le bd.1
    have hdn : d ≤ n2 := by omega
    rw [show ((d : Nat) : Int).toNat = d from rfl] at hR0
    have HDL := hid_ (fun k => durN_le l (o.take k) n2 (fun x hx => HO.out x (List.mem_of_mem_take hx)))
    have hdc : (d : Int) ≤ (c2 : Int) := by omega
    go_enter Try.func33, Try.ntmps33
    go_wp2_with (first | (go_at_call 45; refine (isSafe_any l A n2 c o A2 n2 c2 _ HN.out hm HR.out HN2.out hm2 hc2 HC2.out HR2.out).mono ?_; rintro e w1 ⟨rfl, hb1⟩) | (go_at_call 48; refine (iwithin_any _ _ _ _).mono ?_; rintro e w3 ⟨rfl, rfl⟩))
    clear q0 q1
    have hz := hb1.size
    have HB1 := hid_ hb1
    clear hb1
    go_loopw [7, 27] (fun v i wr => ∃ (k : Nat) (X : Int), k ≤ d ∧ i = .int .i64 k ∧ v = .int .i64 X ∧ X = (durN l (o.take k) : Int) - 1 ∧ w1 = wr) (fun _ i _ => d - (intOf i).toNat)
    case atStart => exact ⟨0, -1, Nat.zero_le _, rfl, rfl, rfl, rfl⟩
    case round =>
      obtain ⟨k, X, hk, rfl, rfl, hX, rfl⟩ := hrel
      have HX := hid_ hX; clear hX
      by_cases hlt : k < d
      · have hko : k < o.length := by rw [HN2.out]; omega
        obtain ⟨b2, o2, rfl⟩ := addr_of HR2.out (by omega)
        obtain ⟨b1, o1, rfl⟩ := addr_of HR.out (by omega)
        obtain ⟨x, hx0, hxn, hxe⟩ := ints_cell2 (HR2.out.below HB1.out) HN2.out n2 HO.out k (by omega)
        have HT := hid_ (durN_take l o k x hko hxe); clear hxe
        have hbx := (HR.out.below HB1.out).itb x hxn HN.out
        have hxz : (x : Int) < (n2 : Int) := by omega
        have hkz : (k : Int) < (d : Int) := by omega
        obtain ⟨bx, hbxe⟩ : ∃ b, bar l x = b := ⟨_, rfl⟩
        rw [hbxe] at hbx HT
        clear hbxe
        have hd2 := HDL.out k
        obtain ⟨m, hm'⟩ : ∃ m, durN l (o.take k) = m := ⟨_, rfl⟩
        rw [hm'] at HT HX hd2
        clear hm'
        cases bx
        · have hT := hid_ (HT.out.trans (if_neg (by simp))); clear HT
          go_wp2
          go_roundw
          case rel => exact ⟨k + 1, X, by omega, by go_num, rfl, by rw [hT.out]; exact HX.out, trivial⟩
          case measure => exact meas_ hlt
        · have hT := hid_ (HT.out.trans (if_pos rfl)); clear HT
          have hXb : X = (m : Int) - 1 := HX.out
          have hXl := hid_ hXb
          have h1 : -1 ≤ X := by omega
          have h2 : X ≤ n2 := by omega
          clear hXb
          rcases (show X < (x : Int) ∨ (x : Int) ≤ X by omega) with hsp | hsp
          all_goals
            go_wp2
            go_roundw
            case rel => exact ⟨k + 1, max X (x : Int), by omega, by go_num, by congr 1; omega, by rw [hT.out]; have := hXl.out; omega, trivial⟩
            case measure => exact meas_ hlt
      · have e : k = d := by omega
        subst e
        have hd2 := HDL.out k
        obtain ⟨m, hm'⟩ : ∃ m, durN l (o.take k) = m := ⟨_, rfl⟩
        rw [hm'] at HX hd2 hR0
        clear hm' HDL
        have hXb := HX.out
        subst hXb
        have hme : (m : Int) - 1 + 1 = (m : Int) := by omega
        go_wp2
        go_loopw [10, 42] (fun v i wr => ∃ j : Nat, j ≤ m ∧ i = .int .i64 j ∧ wr.ownsRow w.heap.size 3 1 v j (intC (ints j)) ∧ Below w.heap.size w wr) (fun _ i _ => m - (intOf i).toNat)
        case atStart => exact ⟨0, Nat.zero_le _, rfl, World.ownsRow_nil _ _ _ _, HB1.out⟩
        case round =>
          obtain ⟨j, hj, rfl, ho, hb⟩ := hrel
          have HOw := hid_ ho; clear ho
          have hbw := hb.size
          by_cases hlt2 : j < m
          · go_wp2_with (at_builtin; refine wpList_push _ rfl _ _ 38 rfl w.heap.size 3 (.int .i64 0) 1 8 Try.underlying38 int_info rfl (by decide) (by decide) _ _ rfl rfl _ _ _ HOw.out rfl _ rfl (by simp) (by omega) (by omega) ?_; intro v' w' ho' hg')
            go_roundw
            case rel => exact ⟨j + 1, by omega, by go_num, own_eq ho' (by simp) (by rw [ints_succ, intC_append]; rfl), below_push hb HOw.out hg' (by omega)⟩
            case measure => exact meas_ hlt2
          · have e : j = m := by omega
            subst e
            go_wp2
            go_returns
            exact RSl.of_own' HOw.out hb (by rw [hR0.out, ints_length]) (by rw [hR0.out])
end Go.Proofs.Ytfmkjhkopocokaa
