/-
  Flights: retrying.
-/
import Derived.Test.YtfinefjihphnhaaFlE
namespace Go.Proofs.Ytfinefjihphnhaa
open Go.ChangeShapes Go.WideShapes Go.ChangeAt Go.RowKit Go.BigFrame

def isLate (now limit : Int) (f : Fl) : Bool := decide (limit ≤ now - f.since)
def retO (now limit : Int) : List Fl → List Fl
  | [] => []
  | f :: r => (if isLate now limit f then (if f.tries = 5 then [] else [⟨f.tag, now, f.tries + 1⟩]) else [f]) ++ retO now limit r
def retG (now limit : Int) : List Fl → List Int
  | [] => []
  | f :: r => (if isLate now limit f then (if f.tries = 5 then [f.tag] else []) else []) ++ retG now limit r
theorem retO_append (now limit : Int) (a b : List Fl) : retO now limit (a ++ b) = retO now limit a ++ retO now limit b := by
  induction a with
  | nil => rfl
  | cons f r ih => simp [retO, ih]
theorem retG_append (now limit : Int) (a b : List Fl) : retG now limit (a ++ b) = retG now limit a ++ retG now limit b := by
  induction a with
  | nil => rfl
  | cons f r ih => simp [retG, ih]
theorem ret_take (now limit : Int) (fl : List Fl) (k : Nat) (h : k < fl.length) :
    retO now limit (fl.take (k + 1)) = retO now limit (fl.take k) ++ (if isLate now limit fl[k] then (if fl[k].tries = 5 then [] else [⟨fl[k].tag, now, fl[k].tries + 1⟩]) else [fl[k]]) ∧
    retG now limit (fl.take (k + 1)) = retG now limit (fl.take k) ++ (if isLate now limit fl[k] then (if fl[k].tries = 5 then [fl[k].tag] else []) else []) := by
  rw [List.take_succ_eq_append_getElem h, retO_append, retG_append]; simp [retO, retG]
theorem ret_length (now limit : Int) (fl : List Fl) : (retO now limit fl).length ≤ fl.length ∧ (retG now limit fl).length ≤ fl.length := by
  induction fl with
  | nil => simp [retO, retG]
  | cons f r ih =>
    simp only [retO, retG, List.length_append, List.length_cons]
    constructor
    · split
      · split <;> simp <;> omega
      · simp; omega
    · split
      · split <;> simp <;> omega
      · simp; omega
def retryOk (fl : List Fl) (now limit : Int) : Bool := fv fl && inB now 0 100000 && inB limit 1 100000
def retryO (fl : List Fl) (now limit : Int) : List Fl := if retryOk fl now limit = true then retO now limit fl else []
def retryG (fl : List Fl) (now limit : Int) : List Int := if retryOk fl now limit = true then retG now limit fl else []

/-- two slices of the call's own -/
def RFlI (w : World) (l : List Fl) (g : List Int) (e : Ending) (w' : World) : Prop :=
  ∃ A c A' c', e = .returned (.tuple #[.slice A l.length c, .slice A' g.length c']) ∧ l.length ≤ c ∧ c ≤ maxLen ∧ g.length ≤ c' ∧ c' ≤ maxLen ∧ w'.ownsRow w.heap.size 35 3 (.slice A l.length c) l.length (flC l) ∧
    w'.ownsRow w.heap.size 3 1 (.slice A' g.length c') g.length (intC g) ∧ Below w.heap.size w w'
theorem RFlI.of_own {w w' : World} {l : List Fl} {g : List Int} {n n' : Nat} {v v' : Value} {xs xs' : List Value} (h : w'.ownsRow w.heap.size 35 3 v n xs) (h' : w'.ownsRow w.heap.size 3 1 v' n' xs') (hb : Below w.heap.size w w')
    (hn : n = l.length) (hx : xs = flC l) (hn' : n' = g.length) (hx' : xs' = intC g) : RFlI w l g (.returned (.tuple #[v, v'])) w' := by
  subst hn; subst hx; subst hn'; subst hx'
  obtain ⟨A, c, rfl, h1, h2⟩ := own_shape h
  obtain ⟨A', c', rfl, h1', h2'⟩ := own_shape h'
  exact ⟨A, c, A', c', rfl, h1, h2, h1', h2', h, h', hb⟩

set_option maxHeartbeats 2000000 in
theorem specRetry_any (fl : List Fl) (A : Option Addr) (n c : Nat) (now limit : Int) (w : World) (hn : fl.length = n) (hm : n ≤ 1048576) (hR : Rd w 3 A n (flC fl)) :
    Calls Try.prog 37 #[.slice A n c, .int .i64 now, .int .i64 limit] w (RFlI w (retryO fl now limit) (retryG fl now limit)) := by
  have HR := hid_ hR; clear hR
  have HN := hid_ hn; clear hn
  by_cases hok : retryOk fl now limit = true
  · have hR0 := hid_ (show retryO fl now limit = retO now limit fl from if_pos hok)
    have hG0 := hid_ (show retryG fl now limit = retG now limit fl from if_pos hok)
    simp only [retryOk, Bool.and_eq_true] at hok
    obtain ⟨⟨q0, q1⟩, q2⟩ := hok
    have hbd := hid_ (fv_bounds fl q0)
    have b1 := inB_iff.1 q1
    have b2 := inB_iff.1 q2
    go_enter Try.func37, Try.ntmps37
    go_wp2_with (first | (go_at_call 15; refine (specFV_any fl A n c _ HN.out (by omega) ((HR.out.alloc _).alloc _)).mono ?_; rintro e w1 ⟨rfl, hb1⟩) | (go_at_call 40; refine (l1In_any _ _ _ _).mono ?_; rintro e w2 ⟨rfl, rfl⟩))
    clear q0 q1 q2
    have hz := hb1.size
    simp only [World.size_alloc] at hz
    go_loopw [8, 9, 10] (fun v g i wr => ∃ k : Nat, k ≤ n ∧ i = .int .i64 k ∧ wr.ownsRow w.heap.size 35 3 v (retO now limit (fl.take k)).length (flC (retO now limit (fl.take k))) ∧
      wr.ownsRow w.heap.size 3 1 g (retG now limit (fl.take k)).length (intC (retG now limit (fl.take k))) ∧ Below w.heap.size w wr) (fun _ _ i _ => n - (intOf i).toNat)
    case atStart =>
      refine ⟨0, Nat.zero_le _, rfl, ?_, ?_, (((Below.refl _ _).alloc (Nat.le_refl _) _).alloc (by simp) _).trans (hb1.mono (by simp; omega))⟩
      · exact own_below ((own_empty w 35 3).alloc _) hb1
      · have := own_below (own_base (own_empty (w.alloc (.cells #[] 35)) 3 1) (show w.heap.size ≤ _ by simp)) hb1
        simpa [retG, intC] using this
    case round =>
      obtain ⟨k, hk, rfl, ho, hog, hb⟩ := hrel
      have HO := hid_ ho; clear ho
      have HG := hid_ hog; clear hog
      by_cases hlt : k < n
      · have hlt' : k < fl.length := by rw [HN.out]; exact hlt
        obtain ⟨b, o, rfl, h0, h1, h2⟩ := (HR.out.below hb).fl k hlt HN.out
        have hbk := hbd.out k hlt'
        have hlen := ret_length now limit (fl.take k)
        have hlen2 : (fl.take k).length ≤ k := List.length_take_le _ _
        obtain ⟨hT1, hT2⟩ := ret_take now limit fl k hlt'
        have HT1 := hid_ hT1; clear hT1
        have HT2 := hid_ hT2; clear hT2
        have hbs : w.heap.size ≤ wr.heap.size := hb.size
        by_cases hlate : now - fl[k].since < limit
        · have hl2 : isLate now limit fl[k] = false := by simp [isLate]; omega
          have HL := hid_ hl2; clear hl2
          go_wp2_with (at_builtin; refine wpList_push _ rfl _ _ 25 rfl w.heap.size 35 (.agg #[.int .i64 0, .int .i64 0, .int .i64 0]) 3 24 Try.underlying25 fl_info rfl (by decide) (by decide) _ _ rfl rfl _ _ _ (HO.out.alloc _) rfl _ rfl (by simp) (by omega) (by simp; omega) ?_; intro v' w' ho' hg')
          go_roundw
          case rel =>
            refine ⟨k + 1, by omega, by go_num, ?_, ?_, below_push (hb.alloc hbs _) (HO.out.alloc _) hg' (by simp; omega)⟩
            · rw [HT1.out, HL.out]; exact own_eq ho' (by simp) (by rw [flC_append]; rfl)
            · rw [HT2.out, HL.out]; exact own_eq (own_other (HG.out.alloc _) (HO.out.alloc _) (by decide) hg') (by simp) (by simp)
          case measure => simp [intOf]; omega
        · have hl2 : isLate now limit fl[k] = true := by simp [isLate]; omega
          have HL := hid_ hl2; clear hl2
          by_cases htr : fl[k].tries < 5
          · have h5 : ¬ fl[k].tries = 5 := by omega
            have H5 := hid_ h5; clear h5
            go_wp2_with (at_builtin; refine wpList_push _ rfl _ _ 25 rfl w.heap.size 35 (.agg #[.int .i64 0, .int .i64 0, .int .i64 0]) 3 24 Try.underlying25 fl_info rfl (by decide) (by decide) _ _ rfl rfl _ _ _ (HO.out.alloc _) rfl _ rfl (by simp) (by omega) (by simp; omega) ?_; intro v' w' ho' hg')
            go_roundw
            case rel =>
              refine ⟨k + 1, by omega, by go_num, ?_, ?_, below_push (hb.alloc hbs _) (HO.out.alloc _) hg' (by simp; omega)⟩
              · rw [HT1.out, HL.out]; simp only [if_true, if_neg H5.out]; exact own_eq ho' (by simp) (by rw [flC_append]; rfl)
              · rw [HT2.out, HL.out]; simp only [if_true, if_neg H5.out]; exact own_eq (own_other (HG.out.alloc _) (HO.out.alloc _) (by decide) hg') (by simp) (by simp)
            case measure => simp [intOf]; omega
          · have h5 : fl[k].tries = 5 := by omega
            have H5 := hid_ h5; clear h5
            go_wp2_with (at_builtin; refine wpList_push _ rfl _ _ 37 rfl w.heap.size 3 (.int .i64 0) 1 8 Try.underlying37 int_info rfl (by decide) (by decide) _ _ rfl rfl _ _ _ (HG.out.alloc _) rfl _ rfl (by simp) (by omega) (by simp; omega) ?_; intro v' w' ho' hg')
            go_roundw
            case rel =>
              refine ⟨k + 1, by omega, by go_num, ?_, ?_, below_push (hb.alloc hbs _) (HG.out.alloc _) hg' (by simp; omega)⟩
              · rw [HT1.out, HL.out]; simp only [if_true, if_pos H5.out]; exact own_eq (own_other (HO.out.alloc _) (HG.out.alloc _) (by decide) hg') (by simp) (by simp)
              · rw [HT2.out, HL.out]; simp only [if_true, if_pos H5.out]; exact own_eq ho' (by simp) (by rw [intC_append]; rfl)
            case measure => simp [intOf]; omega
      · go_wp2
        go_returns
        have hk' : fl.take k = fl := List.take_of_length_le (by rw [HN.out]; omega)
        exact RFlI.of_own HO.out HG.out hb (by rw [hR0.out, hk']) (by rw [hR0.out, hk']) (by rw [hG0.out, hk']) (by rw [hG0.out, hk'])
  · have hR0 := hid_ (show retryO fl now limit = [] from if_neg hok)
    have hG0 := hid_ (show retryG fl now limit = [] from if_neg hok)
    have key : fv fl = false ∨ (fv fl = true ∧ inB now 0 100000 = false) ∨ (fv fl = true ∧ inB now 0 100000 = true ∧ inB limit 1 100000 = false) := by
      unfold retryOk at hok
      cases q0 : fv fl <;> cases q1 : inB now 0 100000 <;> cases q2 : inB limit 1 100000 <;> simp_all
    clear hok
    rcases key with q0 | ⟨q0, q1⟩ | ⟨q0, q1, q2⟩
    all_goals
      go_enter Try.func37, Try.ntmps37
      go_wp2_with (first | (go_at_call 15; refine (specFV_any fl A n c _ HN.out (by omega) ((HR.out.alloc _).alloc _)).mono ?_; rintro e w1 ⟨rfl, hb1⟩) | (go_at_call 40; refine (l1In_any _ _ _ _).mono ?_; rintro e w2 ⟨rfl, rfl⟩))
      go_returns
      refine RFlI.of_own (own_below ((own_empty w 35 3).alloc _) hb1) ?_ ((((Below.refl _ _).alloc (Nat.le_refl _) _).alloc (by simp) _).trans (hb1.mono (by simp; omega))) (by rw [hR0.out]; rfl) (by rw [hR0.out]; rfl) (n' := 0) (xs' := []) (by rw [hG0.out]; rfl) (by rw [hG0.out]; rfl)
      have := own_below (own_base (own_empty (w.alloc (.cells #[] 35)) 3 1) (show w.heap.size ≤ _ by simp)) hb1
      simpa using this

set_option maxHeartbeats 2000000 in
theorem implRetry_any (fl : List Fl) (A : Option Addr) (n c : Nat) (now limit : Int) (w : World) (hn : fl.length = n) (hm : n ≤ 1048576) (hc : n ≤ c) (hcm : c ≤ maxLen) (hR : Rd w 3 A n (flC fl)) :
    Calls Try.prog 38 #[.slice A n c, .int .i64 now, .int .i64 limit] w (RFlI w (retryO fl now limit) (retryG fl now limit)) := by
  have HR := hid_ hR; clear hR
  have HN := hid_ hn; clear hn
  by_cases hok : retryOk fl now limit = true
  · have hR0 := hid_ (show retryO fl now limit = retO now limit fl from if_pos hok)
    have hG0 := hid_ (show retryG fl now limit = retG now limit fl from if_pos hok)
    simp only [retryOk, Bool.and_eq_true] at hok
    obtain ⟨⟨q0, q1⟩, q2⟩ := hok
    have hbd := hid_ (fv_bounds fl q0)
    have b1 := inB_iff.1 q1
    have b2 := inB_iff.1 q2
    go_enter Try.func38, Try.ntmps38
    go_wp2_with (first | (go_at_call 17; refine (implFV_any fl A n c _ HN.out (by omega) hc hcm HR.out).mono ?_; rintro e w1 ⟨rfl, hb1⟩) | (go_at_call 42; refine (within_any _ _ _ _).mono ?_; rintro e w2 ⟨rfl, rfl⟩))
    clear q0 q1 q2
    go_loopw [8, 9, 27] (fun v g i wr => ∃ k : Nat, k ≤ n ∧ i = .int .i64 k ∧ wr.ownsRow w.heap.size 35 3 v (retO now limit (fl.take k)).length (flC (retO now limit (fl.take k))) ∧
      wr.ownsRow w.heap.size 3 1 g (retG now limit (fl.take k)).length (intC (retG now limit (fl.take k))) ∧ Below w.heap.size w wr) (fun _ _ i _ => n - (intOf i).toNat)
    case atStart => exact ⟨0, Nat.zero_le _, rfl, World.ownsRow_nil _ _ _ _, World.ownsRow_nil _ _ _ _, hb1⟩
    case round =>
      obtain ⟨k, hk, rfl, ho, hog, hb⟩ := hrel
      have HO := hid_ ho; clear ho
      have HG := hid_ hog; clear hog
      by_cases hlt : k < n
      · have hlt' : k < fl.length := by rw [HN.out]; exact hlt
        obtain ⟨b, o, rfl, h0, h1, h2⟩ := (HR.out.below hb).fl k hlt HN.out
        have hbk := hbd.out k hlt'
        have hlen := ret_length now limit (fl.take k)
        have hlen2 : (fl.take k).length ≤ k := List.length_take_le _ _
        obtain ⟨hT1, hT2⟩ := ret_take now limit fl k hlt'
        have HT1 := hid_ hT1; clear hT1
        have HT2 := hid_ hT2; clear hT2
        have hbs : w.heap.size ≤ wr.heap.size := hb.size
        by_cases hlate : limit ≤ now - fl[k].since
        · have hl2 : isLate now limit fl[k] = true := by simp [isLate]; omega
          have HL := hid_ hl2; clear hl2
          cases h5b : (fl[k].tries == 5)
          · have h5 : ¬ fl[k].tries = 5 := by simpa using h5b
            have H5 := hid_ h5; clear h5
            go_wp2_with (at_builtin; refine wpList_push _ rfl _ _ 25 rfl w.heap.size 35 (.agg #[.int .i64 0, .int .i64 0, .int .i64 0]) 3 24 Try.underlying25 fl_info rfl (by decide) (by decide) _ _ rfl rfl _ _ _ (HO.out.alloc _) rfl _ rfl (by simp) (by omega) (by simp; omega) ?_; intro v' w' ho' hg')
            go_roundw
            case rel =>
              refine ⟨k + 1, by omega, by go_num, ?_, ?_, below_push (hb.alloc hbs _) (HO.out.alloc _) hg' (by simp; omega)⟩
              · rw [HT1.out, HL.out]; simp only [if_true, if_neg H5.out]; exact own_eq ho' (by simp) (by rw [flC_append]; rfl)
              · rw [HT2.out, HL.out]; simp only [if_true, if_neg H5.out]; exact own_eq (own_other (HG.out.alloc _) (HO.out.alloc _) (by decide) hg') (by simp) (by simp)
            case measure => simp [intOf]; omega
          · have h5 : fl[k].tries = 5 := by simpa using h5b
            have H5 := hid_ h5; clear h5
            go_wp2_with (at_builtin; refine wpList_push _ rfl _ _ 37 rfl w.heap.size 3 (.int .i64 0) 1 8 Try.underlying37 int_info rfl (by decide) (by decide) _ _ rfl rfl _ _ _ (HG.out.alloc _) rfl _ rfl (by simp) (by omega) (by simp; omega) ?_; intro v' w' ho' hg')
            go_roundw
            case rel =>
              refine ⟨k + 1, by omega, by go_num, ?_, ?_, below_push (hb.alloc hbs _) (HG.out.alloc _) hg' (by simp; omega)⟩
              · rw [HT1.out, HL.out]; simp only [if_true, if_pos H5.out]; exact own_eq (own_other (HO.out.alloc _) (HG.out.alloc _) (by decide) hg') (by simp) (by simp)
              · rw [HT2.out, HL.out]; simp only [if_true, if_pos H5.out]; exact own_eq ho' (by simp) (by rw [intC_append]; rfl)
            case measure => simp [intOf]; omega
        · have hl2 : isLate now limit fl[k] = false := by simp [isLate]; omega
          have HL := hid_ hl2; clear hl2
          go_wp2_with (at_builtin; refine wpList_push _ rfl _ _ 25 rfl w.heap.size 35 (.agg #[.int .i64 0, .int .i64 0, .int .i64 0]) 3 24 Try.underlying25 fl_info rfl (by decide) (by decide) _ _ rfl rfl _ _ _ (HO.out.alloc _) rfl _ rfl (by simp) (by omega) (by simp; omega) ?_; intro v' w' ho' hg')
          go_roundw
          case rel =>
            refine ⟨k + 1, by omega, by go_num, ?_, ?_, below_push (hb.alloc hbs _) (HO.out.alloc _) hg' (by simp; omega)⟩
            · rw [HT1.out, HL.out]; exact own_eq ho' (by simp) (by rw [flC_append]; rfl)
            · rw [HT2.out, HL.out]; exact own_eq (own_other (HG.out.alloc _) (HO.out.alloc _) (by decide) hg') (by simp) (by simp)
          case measure => simp [intOf]; omega
      · go_wp2
        go_returns
        have hk' : fl.take k = fl := List.take_of_length_le (by rw [HN.out]; omega)
        exact RFlI.of_own HO.out HG.out hb (by rw [hR0.out, hk']) (by rw [hR0.out, hk']) (by rw [hG0.out, hk']) (by rw [hG0.out, hk'])
  · have hR0 := hid_ (show retryO fl now limit = [] from if_neg hok)
    have hG0 := hid_ (show retryG fl now limit = [] from if_neg hok)
    have key : fv fl = false ∨ (fv fl = true ∧ inB now 0 100000 = false) ∨ (fv fl = true ∧ inB now 0 100000 = true ∧ inB limit 1 100000 = false) := by
      unfold retryOk at hok
      cases q0 : fv fl <;> cases q1 : inB now 0 100000 <;> cases q2 : inB limit 1 100000 <;> simp_all
    clear hok
    rcases key with q0 | ⟨q0, q1⟩ | ⟨q0, q1, q2⟩
    all_goals
      go_enter Try.func38, Try.ntmps38
      go_wp2_with (first | (go_at_call 17; refine (implFV_any fl A n c _ HN.out (by omega) hc hcm HR.out).mono ?_; rintro e w1 ⟨rfl, hb1⟩) | (go_at_call 42; refine (within_any _ _ _ _).mono ?_; rintro e w2 ⟨rfl, rfl⟩))
      go_returns
      exact RFlI.of_own (World.ownsRow_nil _ _ _ _) (World.ownsRow_nil _ _ _ _) hb1 (by rw [hR0.out]; rfl) (by rw [hR0.out]; rfl) (by rw [hG0.out]; rfl) (by rw [hG0.out]; rfl)
end Go.Proofs.Ytfinefjihphnhaa
