/-
  Flights: which are late.
-/
import Derived.Test.YtfinefjihphnhaaFlC
namespace Go.Proofs.Ytfinefjihphnhaa
open Go.ChangeShapes Go.WideShapes Go.ChangeAt Go.RowKit Go.BigFrame

theorem fv_ok (fl : List Fl) (h : fv fl = true) (i : Nat) (hi : i < fl.length) : okF fl[i] = true := by
  unfold fv at h
  rw [Bool.and_eq_true, List.all_eq_true] at h
  have := h.1 i (by simpa using hi)
  rw [goodF_eq fl i hi, Bool.and_eq_true] at this
  exact this.1
theorem fv_bounds (fl : List Fl) (h : fv fl = true) (i : Nat) (hi : i < fl.length) : (0 ≤ fl[i].tag ∧ fl[i].tag ≤ 15) ∧ (0 ≤ fl[i].since ∧ fl[i].since ≤ 100000) ∧ (1 ≤ fl[i].tries ∧ fl[i].tries ≤ 5) := by
  have := fv_ok fl h i hi
  simp only [okF, Bool.and_eq_true, inB_iff] at this
  exact ⟨this.1.1, this.1.2, this.2⟩
theorem fv_length (fl : List Fl) (h : fv fl = true) : fl.length ≤ 16 := by
  unfold fv at h
  rw [Bool.and_eq_true] at h
  simpa using h.2

/-- the tags of those that are late -/
def lateL (now limit : Int) : List Fl → List Int
  | [] => []
  | f :: r => (if limit ≤ now - f.since then [f.tag] else []) ++ lateL now limit r
theorem lateL_append (now limit : Int) (a b : List Fl) : lateL now limit (a ++ b) = lateL now limit a ++ lateL now limit b := by
  induction a with
  | nil => rfl
  | cons f r ih => simp [lateL, ih]
theorem lateL_take (now limit : Int) (fl : List Fl) (k : Nat) (h : k < fl.length) : lateL now limit (fl.take (k + 1)) = lateL now limit (fl.take k) ++ (if limit ≤ now - fl[k].since then [fl[k].tag] else []) := by
  rw [List.take_succ_eq_append_getElem h, lateL_append]; simp [lateL]
theorem lateL_length (now limit : Int) (fl : List Fl) : (lateL now limit fl).length ≤ fl.length := by
  induction fl with
  | nil => simp [lateL]
  | cons f r ih => simp only [lateL, List.length_append, List.length_cons]; split <;> simp <;> omega
def lateR (fl : List Fl) (now limit : Int) : List Int := if (fv fl && inB now 0 100000 && inB limit 1 100000) = true then lateL now limit fl else []

set_option maxHeartbeats 1000000 in
theorem specLate_any (fl : List Fl) (A : Option Addr) (n c : Nat) (now limit : Int) (w : World) (hn : fl.length = n) (hm : n ≤ 1048576) (hR : Rd w 3 A n (flC fl)) :
    Calls Try.prog 23 #[.slice A n c, .int .i64 now, .int .i64 limit] w (RSl w 3 1 (lateR fl now limit).length (intC (lateR fl now limit))) := by
  have HR := hid_ hR; clear hR
  have HN := hid_ hn; clear hn
  by_cases hok : (fv fl && inB now 0 100000 && inB limit 1 100000) = true
  · have hR0 := hid_ (show lateR fl now limit = lateL now limit fl from if_pos hok)
    simp only [Bool.and_eq_true] at hok
    obtain ⟨⟨q0, q1⟩, q2⟩ := hok
    have hbd := hid_ (fv_bounds fl q0)
    have b1 := inB_iff.1 q1
    have b2 := inB_iff.1 q2
    go_enter Try.func23, Try.ntmps23
    go_wp2_with (first | (go_at_call 15; refine (specFV_any fl A n c _ HN.out (by omega) (HR.out.alloc _)).mono ?_; rintro e w1 ⟨rfl, hb1⟩) | (go_at_call 40; refine (l1In_any _ _ _ _).mono ?_; rintro e w2 ⟨rfl, rfl⟩))
    clear q0 q1 q2
    have hz := hb1.size
    simp only [World.size_alloc] at hz
    go_loopw [7, 8] (fun v i wr => ∃ k : Nat, k ≤ n ∧ i = .int .i64 k ∧ wr.ownsRow w.heap.size 3 1 v (lateL now limit (fl.take k)).length (intC (lateL now limit (fl.take k))) ∧ Below w.heap.size w wr) (fun _ i _ => n - (intOf i).toNat)
    case atStart =>
      refine ⟨0, Nat.zero_le _, rfl, ?_, ((Below.refl _ _).alloc (Nat.le_refl _) _).trans (hb1.mono (by simp))⟩
      have := own_below (World.ownsRow_made (base := w.heap.size) (e := 3) (size := 1) w #[] 0 (Nat.le_refl _) (by simp [maxLen]) rfl) hb1
      simpa [lateL, intC] using this
    case round =>
      obtain ⟨k, hk, rfl, ho, hb⟩ := hrel
      have HO := hid_ ho; clear ho
      by_cases hlt : k < n
      · have hlt' : k < fl.length := by rw [HN.out]; exact hlt
        obtain ⟨b, o, rfl, h0, h1, h2⟩ := (HR.out.below hb).fl k hlt HN.out
        have hbk := hbd.out k hlt'
        have hlen := lateL_length now limit (fl.take k)
        have hlen2 : (fl.take k).length ≤ k := List.length_take_le _ _
        by_cases hlate : limit ≤ now - fl[k].since
        · have hT := hid_ (lateL_take now limit fl k hlt')
          rw [if_pos hlate] at hT
          go_wp2_with (at_builtin; refine wpList_push _ rfl _ _ 37 rfl w.heap.size 3 (.int .i64 0) 1 8 Try.underlying37 int_info rfl (by decide) (by decide) _ _ rfl rfl _ _ _ HO.out rfl _ rfl (by simp) (by omega) hb.size ?_; intro v' w' ho' hg')
          go_roundw
          case rel => exact ⟨k + 1, by omega, by go_num, own_eq ho' (by rw [hT.out]; simp) (by rw [hT.out, intC_append]; rfl), below_push hb HO.out hg' hb.size⟩
          case measure => simp [intOf]; omega
        · have hT := hid_ (lateL_take now limit fl k hlt')
          rw [if_neg hlate, List.append_nil] at hT
          go_wp2
          go_roundw
          case rel => exact ⟨k + 1, by omega, by go_num, own_eq HO.out (by rw [hT.out]) (by rw [hT.out]), hb⟩
          case measure => simp [intOf]; omega
      · go_wp2
        go_returns
        have hk' : fl.take k = fl := List.take_of_length_le (by rw [HN.out]; omega)
        exact RSl.of_own' HO.out hb (by rw [hR0.out, hk']) (by rw [hR0.out, hk'])
  · have hR0 := hid_ (show lateR fl now limit = [] from if_neg hok)
    have key : fv fl = false ∨ (fv fl = true ∧ inB now 0 100000 = false) ∨ (fv fl = true ∧ inB now 0 100000 = true ∧ inB limit 1 100000 = false) := by
      cases q0 : fv fl <;> cases q1 : inB now 0 100000 <;> cases q2 : inB limit 1 100000 <;> simp_all
    clear hok
    rcases key with q0 | ⟨q0, q1⟩ | ⟨q0, q1, q2⟩
    all_goals
      go_enter Try.func23, Try.ntmps23
      go_wp2_with (first | (go_at_call 15; refine (specFV_any fl A n c _ HN.out (by omega) (HR.out.alloc _)).mono ?_; rintro e w1 ⟨rfl, hb1⟩) | (go_at_call 40; refine (l1In_any _ _ _ _).mono ?_; rintro e w2 ⟨rfl, rfl⟩))
      go_returns
      exact RSl.of_own' (own_below (own_empty w 3 1) hb1) (((Below.refl _ _).alloc (Nat.le_refl _) _).trans (hb1.mono (by simp))) (by rw [hR0.out]; rfl) (by rw [hR0.out]; rfl)

set_option maxHeartbeats 1000000 in
theorem implLate_any (fl : List Fl) (A : Option Addr) (n c : Nat) (now limit : Int) (w : World) (hn : fl.length = n) (hm : n ≤ 1048576) (hc : n ≤ c) (hcm : c ≤ maxLen) (hR : Rd w 3 A n (flC fl)) :
    Calls Try.prog 24 #[.slice A n c, .int .i64 now, .int .i64 limit] w (RSl w 3 1 (lateR fl now limit).length (intC (lateR fl now limit))) := by
  have HR := hid_ hR; clear hR
  have HN := hid_ hn; clear hn
  by_cases hok : (fv fl && inB now 0 100000 && inB limit 1 100000) = true
  · have hR0 := hid_ (show lateR fl now limit = lateL now limit fl from if_pos hok)
    simp only [Bool.and_eq_true] at hok
    obtain ⟨⟨q0, q1⟩, q2⟩ := hok
    have hbd := hid_ (fv_bounds fl q0)
    have b1 := inB_iff.1 q1
    have b2 := inB_iff.1 q2
    go_enter Try.func24, Try.ntmps24
    go_wp2_with (first | (go_at_call 17; refine (implFV_any fl A n c _ HN.out (by omega) hc hcm HR.out).mono ?_; rintro e w1 ⟨rfl, hb1⟩) | (go_at_call 42; refine (within_any _ _ _ _).mono ?_; rintro e w2 ⟨rfl, rfl⟩))
    clear q0 q1 q2
    go_loopw [7, 25] (fun v i wr => ∃ k : Nat, k ≤ n ∧ i = .int .i64 k ∧ wr.ownsRow w.heap.size 3 1 v (lateL now limit (fl.take k)).length (intC (lateL now limit (fl.take k))) ∧ Below w.heap.size w wr) (fun _ i _ => n - (intOf i).toNat)
    case atStart =>
      exact ⟨0, Nat.zero_le _, rfl, World.ownsRow_nil _ _ _ _, hb1⟩
    case round =>
      obtain ⟨k, hk, rfl, ho, hb⟩ := hrel
      have HO := hid_ ho; clear ho
      by_cases hlt : k < n
      · have hlt' : k < fl.length := by rw [HN.out]; exact hlt
        obtain ⟨b, o, rfl, h0, h1, h2⟩ := (HR.out.below hb).fl k hlt HN.out
        have hbk := hbd.out k hlt'
        have hlen := lateL_length now limit (fl.take k)
        have hlen2 : (fl.take k).length ≤ k := List.length_take_le _ _
        by_cases hlate : limit ≤ now - fl[k].since
        · have hT := hid_ (lateL_take now limit fl k hlt')
          rw [if_pos hlate] at hT
          go_wp2_with (at_builtin; refine wpList_push _ rfl _ _ 37 rfl w.heap.size 3 (.int .i64 0) 1 8 Try.underlying37 int_info rfl (by decide) (by decide) _ _ rfl rfl _ _ _ (HO.out.alloc _) rfl _ rfl (by simp) (by omega) (by have := hb.size; simp; omega) ?_; intro v' w' ho' hg')
          go_roundw
          case rel => exact ⟨k + 1, by omega, by go_num, own_eq ho' (by rw [hT.out]; simp) (by rw [hT.out, intC_append]; rfl), below_push (hb.alloc hb.size _) (HO.out.alloc _) hg' (by have := hb.size; simp; omega)⟩
          case measure => simp [intOf]; omega
        · have hT := hid_ (lateL_take now limit fl k hlt')
          rw [if_neg hlate, List.append_nil] at hT
          go_wp2
          go_roundw
          case rel => exact ⟨k + 1, by omega, by go_num, own_eq (HO.out.alloc _) (by rw [hT.out]) (by rw [hT.out]), hb.alloc hb.size _⟩
          case measure => simp [intOf]; omega
      · go_wp2
        go_returns
        have hk' : fl.take k = fl := List.take_of_length_le (by rw [HN.out]; omega)
        exact RSl.of_own' HO.out hb (by rw [hR0.out, hk']) (by rw [hR0.out, hk'])
  · have hR0 := hid_ (show lateR fl now limit = [] from if_neg hok)
    have key : fv fl = false ∨ (fv fl = true ∧ inB now 0 100000 = false) ∨ (fv fl = true ∧ inB now 0 100000 = true ∧ inB limit 1 100000 = false) := by
      cases q0 : fv fl <;> cases q1 : inB now 0 100000 <;> cases q2 : inB limit 1 100000 <;> simp_all
    clear hok
    rcases key with q0 | ⟨q0, q1⟩ | ⟨q0, q1, q2⟩
    all_goals
      go_enter Try.func24, Try.ntmps24
      go_wp2_with (first | (go_at_call 17; refine (implFV_any fl A n c _ HN.out (by omega) hc hcm HR.out).mono ?_; rintro e w1 ⟨rfl, hb1⟩) | (go_at_call 42; refine (within_any _ _ _ _).mono ?_; rintro e w2 ⟨rfl, rfl⟩))
      go_returns
      exact RSl.of_own' (World.ownsRow_nil _ _ _ _) hb1 (by rw [hR0.out]; rfl) (by rw [hR0.out]; rfl)

/-- the least Since, 100000 at most -/
def minS (fl : List Fl) : Int := fl.foldl (fun m f => min m f.since) 100000
theorem minS_take (fl : List Fl) (k : Nat) (h : k < fl.length) : minS (fl.take (k + 1)) = min (minS (fl.take k)) fl[k].since := by
  unfold minS
  rw [List.take_succ_eq_append_getElem h, List.foldl_append]; rfl
theorem minS_le (fl : List Fl) (h : ∀ f ∈ fl, 0 ≤ f.since) : 0 ≤ minS fl ∧ minS fl ≤ 100000 := by
  unfold minS
  have : ∀ (l : List Fl) (m : Int), 0 ≤ m → m ≤ 100000 → (∀ f ∈ l, 0 ≤ f.since) → 0 ≤ l.foldl (fun m f => min m f.since) m ∧ l.foldl (fun m f => min m f.since) m ≤ 100000 := by
    intro l
    induction l with
    | nil => intro m h1 h2 _; exact ⟨h1, h2⟩
    | cons f r ih =>
      intro m h1 h2 h3
      have hf := h3 f (by simp)
      exact ih (min m f.since) (by omega) (by omega) (fun g hg => h3 g (by simp [hg]))
  exact this fl 100000 (by omega) (by omega) h
def nextR (fl : List Fl) (limit : Int) : Int := if (fv fl && inB limit 1 100000 && decide (fl ≠ [])) = true then minS fl + limit else -1

theorem fv_since (fl : List Fl) (h : fv fl = true) : ∀ f ∈ fl, 0 ≤ f.since := by
  intro f hf
  obtain ⟨i, hi, rfl⟩ := List.getElem_of_mem hf
  exact (fv_bounds fl h i hi).2.1.1

set_option maxHeartbeats 1000000 in
theorem implNext_any (fl : List Fl) (A : Option Addr) (n c : Nat) (limit : Int) (w : World) (hn : fl.length = n) (hm : n ≤ 1048576) (hc : n ≤ c) (hcm : c ≤ maxLen) (hR : Rd w 3 A n (flC fl)) :
    Calls Try.prog 20 #[.slice A n c, .int .i64 limit] w fun e w' => e = .returned (.int .i64 (nextR fl limit)) ∧ Below w.heap.size w w' := by
  have HR := hid_ hR; clear hR
  have HN := hid_ hn; clear hn
  by_cases hok : (fv fl && inB limit 1 100000 && decide (fl ≠ [])) = true
  · have hR0 := hid_ (show nextR fl limit = minS fl + limit from if_pos hok)
    simp only [Bool.and_eq_true, decide_eq_true_eq] at hok
    obtain ⟨⟨q0, q1⟩, q2⟩ := hok
    have hbd := hid_ (fv_bounds fl q0)
    have hsi := hid_ (fv_since fl q0)
    have b1 := inB_iff.1 q1
    have hpos : n ≠ 0 := by rw [← HN.out]; intro h; exact q2 (List.eq_nil_of_length_eq_zero h)
    have hz : ((n : Int) == 0) = false := by simp; omega
    clear q2
    go_enter Try.func20, Try.ntmps20
    go_wp2_with (first | (go_at_call 17; refine (implFV_any fl A n c _ HN.out (by omega) hc hcm HR.out).mono ?_; rintro e w1 ⟨rfl, hb1⟩) | (go_at_call 42; refine (within_any _ _ _ _).mono ?_; rintro e w2 ⟨rfl, rfl⟩))
    clear q0 q1
    go_loopw [5, 23] (fun v i wr => ∃ k : Nat, k ≤ n ∧ i = .int .i64 k ∧ v = .int .i64 (minS (fl.take k)) ∧ Below w.heap.size w wr) (fun _ i _ => n - (intOf i).toNat)
    case atStart => exact ⟨0, Nat.zero_le _, rfl, rfl, hb1⟩
    case round =>
      obtain ⟨k, hk, rfl, rfl, hb⟩ := hrel
      have hms := minS_le (fl.take k) (fun f hf => hsi.out f (List.mem_of_mem_take hf))
      by_cases hlt : k < n
      · have hlt' : k < fl.length := by rw [HN.out]; exact hlt
        obtain ⟨b, o, rfl, h0, h1, h2⟩ := (HR.out.below hb).fl k hlt HN.out
        have hbk := hbd.out k hlt'
        have hT := hid_ (minS_take fl k hlt')
        go_wp2
        go_roundw
        case rel =>
          refine ⟨k + 1, by omega, by go_num, ?_, hb.alloc hb.size _⟩
          rw [hT.out]
          congr 1
          split <;> omega
        case measure => simp [intOf]; omega
      · go_wp2
        go_returns
        have hk' : fl.take k = fl := List.take_of_length_le (by rw [HN.out]; omega)
        rw [hk']
        exact ⟨ret_int (by rw [hR0.out]), hb⟩
  · have hR0 := hid_ (show nextR fl limit = -1 from if_neg hok)
    have key : fv fl = false ∨ (fv fl = true ∧ inB limit 1 100000 = false) ∨ (fv fl = true ∧ inB limit 1 100000 = true ∧ fl = []) := by
      cases q0 : fv fl <;> cases q1 : inB limit 1 100000 <;> simp_all
    clear hok
    rcases key with q0 | ⟨q0, q1⟩ | ⟨q0, q1, q2⟩
    rotate_right
    · subst q2
      have hz : n = 0 := by rw [← HN.out]; rfl
      subst hz
      go_enter Try.func20, Try.ntmps20
      go_wp2_with (first | (go_at_call 17; refine (implFV_any [] A 0 c _ HN.out (by omega) hc hcm HR.out).mono ?_; rintro e w1 ⟨rfl, hb1⟩) | (go_at_call 42; refine (within_any _ _ _ _).mono ?_; rintro e w2 ⟨rfl, rfl⟩))
      go_returns
      exact ⟨ret_int (by rw [hR0.out]), hb1⟩
    all_goals
      go_enter Try.func20, Try.ntmps20
      go_wp2_with (first | (go_at_call 17; refine (implFV_any fl A n c _ HN.out (by omega) hc hcm HR.out).mono ?_; rintro e w1 ⟨rfl, hb1⟩) | (go_at_call 42; refine (within_any _ _ _ _).mono ?_; rintro e w2 ⟨rfl, rfl⟩))
      go_returns
      exact ⟨ret_int (by rw [hR0.out]), hb1⟩
end Go.Proofs.Ytfinefjihphnhaa
