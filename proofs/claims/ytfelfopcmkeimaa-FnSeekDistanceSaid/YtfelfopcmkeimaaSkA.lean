/-
  Schedulers: the distance of an order.
-/
import Derived.Test.YtfelfopcmkeimaaOrB
import Derived.Test.YtfelfopcmkeimaaScJ
namespace Go.Proofs.Ytfelfopcmkeimaa
open Go.ChangeShapes Go.WideShapes Go.ChangeAt Go.RowKit Go.BigFrame

/-- the field Count of the request at a place -/
def ctK (l : List Rq) (i : Int) : Int := match l[i.toNat]? with
  | some r => r.count
  | none => 0
theorem ctK_nat (l : List Rq) (i : Nat) (h : i < l.length) : ctK l (i : Int) = l[i].count := by
  simp [ctK, h]
def dist (a b : Int) : Int := max (a - b) (b - a)
theorem dist_nonneg (a b : Int) : 0 ≤ dist a b := by unfold dist; omega
/-- one step: (the sum, where the head is) -/
def seekS (l : List Rq) (p : Int × Int) (i : Int) : Int × Int := (p.1 + dist (atK l i) p.2, atK l i + ctK l i)
def seekP (l : List Rq) (head : Int) (o : List Int) : Int × Int := o.foldl (seekS l) (0, head)
theorem seekP_take (l : List Rq) (head : Int) (o : List Int) (k : Nat) (h : k < o.length) : seekP l head (o.take (k + 1)) = seekS l (seekP l head (o.take k)) o[k] := by
  rw [← List.take_append_getElem h]; unfold seekP; rw [List.foldl_append]; rfl
def skOk (l : List Rq) (o : List Int) (head : Int) : Bool := rv l && isOrd l.length o && inB head 0 100000
def seekR (l : List Rq) (o : List Int) (head : Int) : Int := if skOk l o head = true then (seekP l head o).1 else -1
theorem skOk_parts {l : List Rq} {o : List Int} {head : Int} (h : skOk l o head = true) : rv l = true ∧ isOrd l.length o = true ∧ inB head 0 100000 = true := by
  unfold skOk at h; simpa [and_assoc] using h
theorem skOk_not {l : List Rq} {o : List Int} {head : Int} (h : skOk l o head = false) : rv l = false ∨ (rv l = true ∧ isOrd l.length o = false) ∨ (rv l = true ∧ isOrd l.length o = true ∧ inB head 0 100000 = false) := by
  unfold skOk at h
  cases q0 : rv l <;> cases q1 : isOrd l.length o <;> cases q2 : inB head 0 100000 <;> simp_all

/-- the cells of a request at a place -/
theorem rq_at2 {w : World} {b o n : Nat} {l : List Rq} (h : Rd w 3 (some ⟨b, o, none⟩) n (rqC l)) (x : Nat) (hx : x < n) (hn : l.length = n) :
    w.cell? ⟨b, o + x * 3, none⟩ = some (.int .i64 (atK l (x : Int))) ∧ w.cell? ⟨b, o + x * 3 + 1, none⟩ = some (.int .i64 (ctK l (x : Int))) ∧ ∃ wr, w.cell? ⟨b, o + x * 3 + 2, none⟩ = some (.bool wr) := by
  obtain ⟨b', o', e, h0, h1, h2⟩ := h.rq x hx hn
  injection e with e
  injection e with e1 e2
  subst e1; subst e2
  rw [atK_nat l x (by omega), ctK_nat l x (by omega)]; exact ⟨h0, h1, _, h2⟩
theorem at_bd {l : List Rq} (h : rv l = true) (x : Nat) (hx : x < l.length) : (0 ≤ atK l (x : Int) ∧ atK l (x : Int) ≤ 100000) ∧ 1 ≤ ctK l (x : Int) ∧ ctK l (x : Int) ≤ 200 := by
  rw [atK_nat l x hx, ctK_nat l x hx]; exact rv_get h x hx

set_option maxHeartbeats 2000000 in
theorem specSeek_any (l : List Rq) (A : Option Addr) (n c : Nat) (o : List Int) (A2 : Option Addr) (n2 c2 : Nat) (head : Int) (w : World) (hn : l.length = n) (hm : n ≤ 1048576) (hR : Rd w 3 A n (rqC l)) (hn2 : o.length = n2) (hm2 : n2 ≤ 1048576) (hR2 : Rd w 1 A2 n2 (intC o)) :
    Calls Try.prog 26 #[.slice A n c, .slice A2 n2 c2, .int .i64 head] w fun e w' => e = .returned (.int .i64 (seekR l o head)) ∧ Below w.heap.size w w' := by
  have HR := hid_ hR; clear hR
  have HR2 := hid_ hR2; clear hR2
  have HN := hid_ hn; clear hn
  have HN2 := hid_ hn2; clear hn2
  cases hok : skOk l o head
  · have hR0 := hid_ (show seekR l o head = -1 by unfold seekR; rw [hok]; rfl)
    rcases skOk_not hok with q0 | ⟨q0, q1⟩ | ⟨q0, q1, q2⟩
    all_goals
      clear hok
      try rw [HN.out] at q1
      go_enter Try.func26, Try.ntmps26
      go_wp2_with (first | (go_at_call 35; refine (specRV_any l A n c _ HN.out (by omega) HR.out).mono ?_; rintro e w1 ⟨rfl, rfl⟩) | (go_at_call 49; refine (specOrd_any o A2 n2 c2 n _ HN2.out hm2 HR2.out).mono ?_; rintro e w2 ⟨rfl, hb2⟩) | (go_at_call 42; refine (l1In_any _ _ _ _).mono ?_; rintro e w3 ⟨rfl, rfl⟩))
      go_returns
      exact ⟨ret_int (by rw [hR0.out]), by first | exact hb2 | exact Below.refl _ _⟩
  · have hR0 := hid_ (show seekR l o head = (seekP l head o).1 by unfold seekR; rw [hok]; rfl)
    obtain ⟨q0, q1, q2⟩ := skOk_parts hok
    clear hok
    have b2 := inB_iff.1 q2
    have HB := hid_ (at_bd q0)
    rw [HN.out] at q1
    have HO := hid_ (isOrd_mem q1)
    have hl30 := rv_length q0
    have hno := (isOrd_parts q1).1
    rw [HN2.out] at hno
    subst hno
    rw [HN.out] at hl30
    go_enter Try.func26, Try.ntmps26
    go_wp2_with (first | (go_at_call 35; refine (specRV_any l A n2 c _ HN.out (by omega) HR.out).mono ?_; rintro e w1 ⟨rfl, rfl⟩) | (go_at_call 49; refine (specOrd_any o A2 n2 c2 n2 _ HN2.out hm2 HR2.out).mono ?_; rintro e w2 ⟨rfl, hb2⟩) | (go_at_call 42; refine (l1In_any _ _ _ _).mono ?_; rintro e w3 ⟨rfl, rfl⟩))
    clear q0 q1 q2
    go_loopw [2, 7, 8] (fun vh v i wr => ∃ (k : Nat) (X Y : Int), k ≤ n2 ∧ 0 ≤ X ∧ X ≤ 200000 * k ∧ 0 ≤ Y ∧ Y ≤ 100200 ∧ i = .int .i64 k ∧ v = .int .i64 X ∧ vh = .int .i64 Y ∧ Below w.heap.size w wr ∧ seekP l head (o.take k) = (X, Y)) (fun _ _ i _ => n2 - (intOf i).toNat)
    case atStart => exact ⟨0, 0, head, Nat.zero_le _, by omega, by omega, by omega, by omega, rfl, rfl, rfl, hb2, rfl⟩
    case round =>
      obtain ⟨k, X, Y, hk, x0, x1, y0, y1, rfl, rfl, rfl, hb, hs⟩ := hrel
      have HS := hid_ hs; clear hs
      by_cases hlt : k < n2
      · have hko : k < o.length := by rw [HN2.out]; exact hlt
        obtain ⟨b2, o2, x, rfl, hcx, hxn, hxe⟩ := ints_at (HR2.out.below hb) HN2.out n2 HO.out k hlt
        have hA : ∃ b1 o1, A = some ⟨b1, o1, none⟩ := by
          obtain ⟨b1, o1, e, _⟩ := HR.out.2 (by omega)
          exact ⟨b1, o1, e⟩
        obtain ⟨b1, o1, rfl⟩ := hA
        obtain ⟨h0, h1, wrb, h2⟩ := rq_at2 (HR.out.below hb) x hxn HN.out
        obtain ⟨⟨ba0, ba1⟩, bc0, bc1⟩ := HB.out x (by rw [HN.out]; exact hxn)
        have HT := hid_ (seekP_take l head o k hko)
        rw [hxe, HS.out] at HT
        obtain ⟨ax, hax⟩ : ∃ ax, atK l (x : Int) = ax := ⟨_, rfl⟩
        obtain ⟨cx, hcx'⟩ : ∃ cx, ctK l (x : Int) = cx := ⟨_, rfl⟩
        have hT := HT.out
        unfold seekS at hT
        rw [hax, hcx'] at hT
        rw [hax] at h0 ba0 ba1
        rw [hcx'] at h1 bc0 bc1
        have HT2 := hid_ hT; clear hT HT hax hcx' hxe
        have hxz : (x : Int) < (n2 : Int) := by omega
        rcases (show ax - Y < Y - ax ∨ Y - ax ≤ ax - Y by omega) with hsp | hsp
        all_goals
          go_wp2
          go_roundw
          case rel =>
            exact ⟨k + 1, X + dist ax Y, ax + cx, by omega, by unfold dist; omega, by unfold dist; omega, by omega, by omega, by go_num, by unfold dist; congr 1; omega, rfl, hb.alloc hb.size _, HT2.out⟩
          case measure => simp [intOf] <;> omega
      · go_wp2
        go_returns
        have e : k = n2 := by omega
        subst e
        have hS := HS.out
        rw [List.take_of_length_le (by rw [HN2.out]; omega)] at hS
        exact ⟨ret_int (by rw [hR0.out, hS]), hb⟩

set_option maxHeartbeats 2000000 in
theorem implSeek_any (l : List Rq) (A : Option Addr) (n c : Nat) (o : List Int) (A2 : Option Addr) (n2 c2 : Nat) (head : Int) (w : World) (hn : l.length = n) (hm : n ≤ 1048576) (hc : n ≤ c) (hcm : c ≤ maxLen) (hR : Rd w 3 A n (rqC l)) (hn2 : o.length = n2) (hm2 : n2 ≤ 1048576) (hc2 : n2 ≤ c2) (hcm2 : c2 ≤ maxLen) (hR2 : Rd w 1 A2 n2 (intC o)) :
    Calls Try.prog 27 #[.slice A n c, .slice A2 n2 c2, .int .i64 head] w fun e w' => e = .returned (.int .i64 (seekR l o head)) ∧ Below w.heap.size w w' := by
  have HR := hid_ hR; clear hR
  have HR2 := hid_ hR2; clear hR2
  have HN := hid_ hn; clear hn
  have HN2 := hid_ hn2; clear hn2
  have HC2 := hid_ hcm2; clear hcm2
  have HC := hid_ hcm; clear hcm
  cases hok : skOk l o head
  · have hR0 := hid_ (show seekR l o head = -1 by unfold seekR; rw [hok]; rfl)
    rcases skOk_not hok with q0 | ⟨q0, q1⟩ | ⟨q0, q1, q2⟩
    all_goals
      clear hok
      try rw [HN.out] at q1
      go_enter Try.func27, Try.ntmps27
      go_wp2_with (first | (go_at_call 39; refine (implRV_any l A n c _ HN.out (by omega) hc HC.out HR.out).mono ?_; rintro e w1 ⟨rfl, hb1⟩; have HR2b := hid_ (HR2.out.below hb1)) | (go_at_call 50; refine (implOrd_any o A2 n2 c2 n _ HN2.out (by omega) (by omega) hc2 HC2.out HR2b.out).mono ?_; rintro e w2 ⟨rfl, rfl⟩) | (go_at_call 40; refine (iwithin_any _ _ _ _).mono ?_; rintro e w3 ⟨rfl, rfl⟩))
      go_returns
      exact ⟨ret_int (by rw [hR0.out]), hb1⟩
  · have hR0 := hid_ (show seekR l o head = (seekP l head o).1 by unfold seekR; rw [hok]; rfl)
    obtain ⟨q0, q1, q2⟩ := skOk_parts hok
    clear hok
    have b2 := inB_iff.1 q2
    have HB := hid_ (at_bd q0)
    rw [HN.out] at q1
    have HO := hid_ (isOrd_mem q1)
    have hl30 := rv_length q0
    have hno := (isOrd_parts q1).1
    rw [HN2.out] at hno
    subst hno
    rw [HN.out] at hl30
    go_enter Try.func27, Try.ntmps27
    go_wp2_with (first | (go_at_call 39; refine (implRV_any l A n2 c _ HN.out (by omega) hc HC.out HR.out).mono ?_; rintro e w1 ⟨rfl, hb1⟩; have HR2b := hid_ (HR2.out.below hb1)) | (go_at_call 50; refine (implOrd_any o A2 n2 c2 n2 _ HN2.out (by omega) (by omega) hc2 HC2.out HR2b.out).mono ?_; rintro e w2 ⟨rfl, rfl⟩) | (go_at_call 40; refine (iwithin_any _ _ _ _).mono ?_; rintro e w3 ⟨rfl, rfl⟩))
    clear q0 q1 q2
    go_loopw [2, 7, 27] (fun vh v i wr => ∃ (k : Nat) (X Y : Int), k ≤ n2 ∧ 0 ≤ X ∧ X ≤ 200000 * k ∧ 0 ≤ Y ∧ Y ≤ 100200 ∧ i = .int .i64 k ∧ v = .int .i64 X ∧ vh = .int .i64 Y ∧ Below w.heap.size w wr ∧ seekP l head (o.take k) = (X, Y)) (fun _ _ i _ => n2 - (intOf i).toNat)
    case atStart => exact ⟨0, 0, head, Nat.zero_le _, by omega, by omega, by omega, by omega, rfl, rfl, rfl, hb1, rfl⟩
    case round =>
      obtain ⟨k, X, Y, hk, x0, x1, y0, y1, rfl, rfl, rfl, hb, hs⟩ := hrel
      have HS := hid_ hs; clear hs
      by_cases hlt : k < n2
      · have hko : k < o.length := by rw [HN2.out]; exact hlt
        obtain ⟨b2, o2, x, rfl, hcx, hxn, hxe⟩ := ints_at (HR2.out.below hb) HN2.out n2 HO.out k hlt
        have hA : ∃ b1 o1, A = some ⟨b1, o1, none⟩ := by
          obtain ⟨b1, o1, e, _⟩ := HR.out.2 (by omega)
          exact ⟨b1, o1, e⟩
        obtain ⟨b1, o1, rfl⟩ := hA
        obtain ⟨h0, h1, wrb, h2⟩ := rq_at2 (HR.out.below hb) x hxn HN.out
        obtain ⟨⟨ba0, ba1⟩, bc0, bc1⟩ := HB.out x (by rw [HN.out]; exact hxn)
        have HT := hid_ (seekP_take l head o k hko)
        rw [hxe, HS.out] at HT
        obtain ⟨ax, hax⟩ : ∃ ax, atK l (x : Int) = ax := ⟨_, rfl⟩
        obtain ⟨cx, hcx'⟩ : ∃ cx, ctK l (x : Int) = cx := ⟨_, rfl⟩
        have hT := HT.out
        unfold seekS at hT
        rw [hax, hcx'] at hT
        rw [hax] at h0 ba0 ba1
        rw [hcx'] at h1 bc0 bc1
        have HT2 := hid_ hT; clear hT HT hax hcx' hxe
        have hxz : (x : Int) < (n2 : Int) := by omega
        clear h2
        rcases (show ax - Y < Y - ax ∨ Y - ax ≤ ax - Y by omega) with hsp | hsp
        all_goals
          go_wp2
          go_quiet (fail)
          go_wp2
          go_quiet (fail)
          go_wp2
          go_roundw
          case rel =>
            exact ⟨k + 1, X + dist ax Y, ax + cx, by omega, by unfold dist; omega, by unfold dist; omega, by omega, by omega, by go_num, by unfold dist; congr 1; omega, rfl, by first | exact hb | exact bdN hb _ | exact bdN (bdN hb _) _, HT2.out⟩
          case measure => simp [intOf] <;> omega
      · go_wp2
        go_returns
        have e : k = n2 := by omega
        subst e
        have hS := HS.out
        rw [List.take_of_length_le (by rw [HN2.out]; omega)] at hS
        exact ⟨ret_int (by rw [hR0.out, hS]), hb⟩
end Go.Proofs.Ytfelfopcmkeimaa
