/-
  Flights: the next that is late (the reference); landing; retrying.
-/
import Derived.Test.YtfinefjihphnhaaFlD
import Derived.Test.YtfinefjihphnhaaApp
import Derived.StillTailTactics
namespace Go.Proofs.Ytfinefjihphnhaa
open Go.ChangeShapes Go.WideShapes Go.ChangeAt Go.RowKit Go.BigFrame

set_option maxHeartbeats 1000000 in
theorem specNext_any (fl : List Fl) (A : Option Addr) (n c : Nat) (limit : Int) (w : World) (hn : fl.length = n) (hm : n ≤ 1048576) (hR : Rd w 3 A n (flC fl)) :
    Calls Try.prog 19 #[.slice A n c, .int .i64 limit] w fun e w' => e = .returned (.int .i64 (nextR fl limit)) ∧ Below w.heap.size w w' := by
  have HR := hid_ hR; clear hR
  have HN := hid_ hn; clear hn
  by_cases hok : (fv fl && inB limit 1 100000) = true
  · have hR0 := hid_ (show nextR fl limit = if fl = [] then -1 else minS fl + limit by
      unfold nextR; rw [hok]; by_cases h : fl = [] <;> simp [h])
    simp only [Bool.and_eq_true] at hok
    obtain ⟨q0, q1⟩ := hok
    have hbd := hid_ (fv_bounds fl q0)
    have hsi := hid_ (fv_since fl q0)
    have b1 := inB_iff.1 q1
    go_enter Try.func19, Try.ntmps19
    go_wp2_with (first | (go_at_call 15; refine (specFV_any fl A n c _ HN.out (by omega) HR.out).mono ?_; rintro e w1 ⟨rfl, hb1⟩) | (go_at_call 40; refine (l1In_any _ _ _ _).mono ?_; rintro e w2 ⟨rfl, rfl⟩))
    clear q0 q1
    go_loopw [5, 6] (fun v i wr => ∃ k : Nat, k ≤ n ∧ i = .int .i64 k ∧ ((k = 0 ∧ v = .int .i64 (-1)) ∨ (0 < k ∧ v = .int .i64 (minS (fl.take k) + limit))) ∧ Below w.heap.size w wr) (fun _ i _ => n - (intOf i).toNat)
    case atStart => exact ⟨0, Nat.zero_le _, rfl, .inl ⟨rfl, rfl⟩, hb1⟩
    case round =>
      obtain ⟨k, hk, rfl, hv, hb⟩ := hrel
      have hms := minS_le (fl.take k) (fun f hf => hsi.out f (List.mem_of_mem_take hf))
      by_cases hlt : k < n
      · have hlt' : k < fl.length := by rw [HN.out]; exact hlt
        obtain ⟨b, o, rfl, h0, h1, h2⟩ := (HR.out.below hb).fl k hlt HN.out
        have hbk := hbd.out k hlt'
        have hT := hid_ (minS_take fl k hlt')
        rcases hv with ⟨hk0, rfl⟩ | ⟨hk0, rfl⟩
        · have HK := hid_ hk0; clear hk0
          go_wp2
          go_roundw
          case rel =>
            refine ⟨k + 1, by omega, by go_num, .inr ⟨by omega, ?_⟩, hb⟩
            have hm0 : minS (fl.take k) = 100000 := by rw [HK.out]; rfl
            rw [hT.out, hm0]
            congr 1
            omega
          case measure => simp [intOf]; omega
        · have hneg : ¬ (minS (fl.take k) + limit < 0) := by omega
          go_wp2
          all_goals
            go_roundw
            case rel =>
              refine ⟨k + 1, by omega, by go_num, .inr ⟨by omega, ?_⟩, hb⟩
              rw [hT.out]
              congr 1
              omega
            case measure => simp [intOf]; omega
      · rcases hv with ⟨hk0, rfl⟩ | ⟨hk0, rfl⟩
        · have HK := hid_ hk0; clear hk0
          go_wp2
          go_returns
          refine ⟨ret_int ?_, hb⟩
          have h0 : fl = [] := List.eq_nil_of_length_eq_zero (by rw [HN.out]; have := HK.out; omega)
          rw [hR0.out, if_pos h0]
        · go_wp2
          go_returns
          have hk' : fl.take k = fl := List.take_of_length_le (by rw [HN.out]; omega)
          rw [hk']
          have h0 : fl ≠ [] := fun h => by have := HN.out; rw [h] at this; simp at this; omega
          exact ⟨ret_int (by rw [hR0.out, if_neg h0]), hb⟩
  · have hR0 := hid_ (show nextR fl limit = -1 from if_neg (by
      intro h; simp only [Bool.and_eq_true] at h hok; exact hok h.1))
    have key : fv fl = false ∨ (fv fl = true ∧ inB limit 1 100000 = false) := by
      cases q0 : fv fl <;> cases q1 : inB limit 1 100000 <;> simp_all
    clear hok
    rcases key with q0 | ⟨q0, q1⟩
    all_goals
      go_enter Try.func19, Try.ntmps19
      go_wp2_with (first | (go_at_call 15; refine (specFV_any fl A n c _ HN.out (by omega) HR.out).mono ?_; rintro e w1 ⟨rfl, hb1⟩) | (go_at_call 40; refine (l1In_any _ _ _ _).mono ?_; rintro e w2 ⟨rfl, rfl⟩))
      go_returns
      exact ⟨ret_int (by rw [hR0.out]), hb1⟩

/-- without those with a tag -/
def dropT (tag : Int) (fl : List Fl) : List Fl := fl.filter fun f => decide (f.tag ≠ tag)
theorem dropT_take (tag : Int) (fl : List Fl) (k : Nat) (h : k < fl.length) : dropT tag (fl.take (k + 1)) = dropT tag (fl.take k) ++ (if fl[k].tag ≠ tag then [fl[k]] else []) := by
  unfold dropT
  rw [List.take_succ_eq_append_getElem h, List.filter_append]
  by_cases h : fl[k].tag = tag <;> simp [h]
def landL (fl : List Fl) (tag : Int) : List Fl := if fv fl = true then dropT tag fl else []
def landB (fl : List Fl) (tag : Int) : Bool := fv fl && decide (0 ≤ idxFrom tag 0 fl)

/-- a slice of flights of the call's own, and a bool -/
def RFlB (w : World) (l : List Fl) (b : Bool) (e : Ending) (w' : World) : Prop :=
  ∃ A c, e = .returned (.tuple #[.slice A l.length c, .bool b]) ∧ l.length ≤ c ∧ c ≤ maxLen ∧ w'.ownsRow w.heap.size 35 3 (.slice A l.length c) l.length (flC l) ∧ Below w.heap.size w w'
theorem RFlB.of_own {w w' : World} {l : List Fl} {b b' : Bool} {n : Nat} {v : Value} {xs : List Value} (h : w'.ownsRow w.heap.size 35 3 v n xs) (hb : Below w.heap.size w w') (hn : n = l.length) (hx : xs = flC l) (hbb : b = b') :
    RFlB w l b' (.returned (.tuple #[v, .bool b])) w' := by
  subst hn; subst hx; subst hbb
  obtain ⟨A, c, rfl, h1, h2⟩ := own_shape h
  exact ⟨A, c, rfl, h1, h2, h, hb⟩

theorem dropT_length_lt (tag : Int) (fl : List Fl) : decide ((dropT tag fl).length < fl.length) = decide (0 ≤ idxFrom tag 0 fl) := by
  have h1 : (dropT tag fl).length < fl.length ↔ ¬ (∀ f ∈ fl, f.tag ≠ tag) := by
    constructor
    · intro h hall
      have : dropT tag fl = fl := by unfold dropT; rw [List.filter_eq_self]; intro f hf; simpa using hall f hf
      rw [this] at h; omega
    · intro h
      rcases Nat.lt_or_ge (dropT tag fl).length fl.length with h2 | h2
      · exact h2
      · exfalso
        apply h
        have h3 : dropT tag fl = fl := List.filter_sublist.eq_of_length (Nat.le_antisymm (List.length_filter_le _ _) h2)
        intro f hf
        rw [← h3] at hf
        simpa using (List.mem_filter.1 hf).2
  rw [← idx_neg tag fl 0] at h1
  rw [Bool.eq_iff_iff]
  simp [h1]

set_option maxHeartbeats 1000000 in
theorem specLand_any (fl : List Fl) (A : Option Addr) (n c : Nat) (tag : Int) (w : World) (hn : fl.length = n) (hm : n ≤ 1048576) (hR : Rd w 3 A n (flC fl)) :
    Calls Try.prog 32 #[.slice A n c, .int .i64 tag] w (RFlB w (landL fl tag) (landB fl tag)) := by
  have HR := hid_ hR; clear hR
  have HN := hid_ hn; clear hn
  cases q0 : fv fl
  · have hL := hid_ (show landL fl tag = [] by unfold landL; rw [q0]; rfl)
    have hB := hid_ (show landB fl tag = false by unfold landB; rw [q0]; rfl)
    go_enter Try.func32, Try.ntmps32
    go_wp2_with (go_at_call 15; refine (specFV_any fl A n c _ HN.out (by omega) (HR.out.alloc _)).mono ?_; rintro e w1 ⟨rfl, hb1⟩)
    go_returns
    exact RFlB.of_own (own_below (own_empty w 35 3) hb1) (((Below.refl _ _).alloc (Nat.le_refl _) _).trans (hb1.mono (by simp))) (by rw [hL.out]; rfl) (by rw [hL.out]; rfl) (by rw [hB.out])
  · have hL := hid_ (show landL fl tag = dropT tag fl by unfold landL; rw [q0]; rfl)
    have hB := hid_ (show landB fl tag = decide (0 ≤ idxFrom tag 0 fl) by unfold landB; rw [q0]; rfl)
    go_enter Try.func32, Try.ntmps32
    go_wp2_with (go_at_call 15; refine (specFV_any fl A n c _ HN.out (by omega) (HR.out.alloc _)).mono ?_; rintro e w1 ⟨rfl, hb1⟩)
    clear q0
    have hz := hb1.size
    simp only [World.size_alloc] at hz
    go_loopw [6, 7] (fun v i wr => ∃ k : Nat, k ≤ n ∧ i = .int .i64 k ∧ wr.ownsRow w.heap.size 35 3 v (dropT tag (fl.take k)).length (flC (dropT tag (fl.take k))) ∧ Below w.heap.size w wr) (fun _ i _ => n - (intOf i).toNat)
    case atStart =>
      refine ⟨0, Nat.zero_le _, rfl, ?_, ((Below.refl _ _).alloc (Nat.le_refl _) _).trans (hb1.mono (by simp))⟩
      exact own_below (own_empty w 35 3) hb1
    case round =>
      obtain ⟨k, hk, rfl, ho, hb⟩ := hrel
      have HO := hid_ ho; clear ho
      by_cases hlt : k < n
      · have hlt' : k < fl.length := by rw [HN.out]; exact hlt
        obtain ⟨b, o, rfl, h0, h1, h2⟩ := (HR.out.below hb).fl k hlt HN.out
        have hlen : (dropT tag (fl.take k)).length ≤ (fl.take k).length := List.length_filter_le _ _
        have hlen2 : (fl.take k).length ≤ k := List.length_take_le _ _
        have hT := hid_ (dropT_take tag fl k hlt')
        cases ht : (fl[k].tag != tag)
        · have hT2 : dropT tag (fl.take (k + 1)) = dropT tag (fl.take k) := by
            rw [hT.out, if_neg (by simpa using ht), List.append_nil]
          have hT := hid_ hT2; clear hT2
          go_wp2
          go_roundw
          case rel => exact ⟨k + 1, by omega, by go_num, own_eq HO.out (by rw [hT.out]) (by rw [hT.out]), hb⟩
          case measure => simp [intOf]; omega
        · have hT2 : dropT tag (fl.take (k + 1)) = dropT tag (fl.take k) ++ [fl[k]] := by
            rw [hT.out, if_pos (by simpa using ht)]
          have hT := hid_ hT2; clear hT2
          go_wp2_with (at_builtin; refine wpList_push _ rfl _ _ 25 rfl w.heap.size 35 (.agg #[.int .i64 0, .int .i64 0, .int .i64 0]) 3 24 Try.underlying25 fl_info rfl (by decide) (by decide) _ _ rfl rfl _ _ _ HO.out rfl _ rfl (by simp) (by omega) hb.size ?_; intro v' w' ho' hg')
          go_roundw
          case rel => exact ⟨k + 1, by omega, by go_num, own_eq ho' (by rw [hT.out]; simp) (by rw [hT.out, flC_append]; rfl), below_push hb HO.out hg' hb.size⟩
          case measure => simp [intOf]; omega
      · obtain ⟨A', c', he, hc1, hc2⟩ := own_shape HO.out
        subst he
        have hlen : (dropT tag (fl.take k)).length ≤ (fl.take k).length := List.length_filter_le _ _
        have hlen2 : (fl.take k).length ≤ k := List.length_take_le _ _
        go_wp2
        go_returns
        have hk' : fl.take k = fl := List.take_of_length_le (by rw [HN.out]; omega)
        refine RFlB.of_own HO.out hb (by rw [hL.out, hk']) (by rw [hL.out, hk']) ?_
        rw [hB.out, ← dropT_length_lt, hk', HN.out]

theorem run_eql_nil_fl (w : World) (A : Option Addr) (n c : Nat) : (binOp .eql 25 (.slice A n c) (.slice none 0 0)).run Try.prog w = .ok (.bool A.isNone) w := by
  cases A <;> kernel_rfl

set_option maxHeartbeats 1000000 in
theorem cloneFl_any (fl : List Fl) (A : Option Addr) (n c : Nat) (w : World) (hn : fl.length = n) (hm : n ≤ 1048576) (hR : Rd w 3 A n (flC fl)) :
    Calls Try.prog 49 #[.slice A n c] w (RSl w 35 3 n (flC fl)) := by
  have HR := hid_ hR; clear hR
  have HN := hid_ hn; clear hn
  have hq := fun w => run_eql_nil_fl w A n c
  cases A with
  | none =>
    have h0 : n = 0 := by
      rcases Nat.eq_zero_or_pos n with h | h
      · exact h
      · obtain ⟨b, o, h, _⟩ := HR.out.2 h
        cases h
    have hfl : fl = [] := List.eq_nil_of_length_eq_zero (by rw [HN.out, h0])
    subst hfl
    subst h0
    go_enter Try.func49, Try.ntmps49
    go_wp2
    go_returns
    exact RSl.of_own' (World.ownsRow_nil _ _ _ _) (Below.refl _ _) rfl rfl
  | some a =>
    go_enter Try.func49, Try.ntmps49
    go_wp2_with (at_builtin; refine wpList_append_rd _ rfl _ _ 25 rfl w.heap.size 35 (.agg #[.int .i64 0, .int .i64 0, .int .i64 0]) 3 24 Try.underlying25 fl_info rfl (by decide) (by decide) _ _ _ (own_empty w 35 3) rfl _ _ _ _ (HR.out.alloc _) rfl (flC_one fl) (by omega) (by simp) ?_; intro v' w' ho' hg')
    go_returns
    exact RSl.of_own' ho' (below_push ((Below.refl _ _).alloc (Nat.le_refl _) _) (own_empty w 35 3) hg' (by simp)) (by simp) (by simp)

theorem own_take {w : World} {B E k n m c g : Nat} {xs : List Value} (h : w.ownsRow B E k (.slice (some ⟨g, 0, none⟩) n c) n xs) (hm : m ≤ n) : w.ownsRow B E k (.slice (some ⟨g, 0, none⟩) m c) m (xs.take (m * k)) := by
  rcases h.2 with ⟨h', _⟩ | ⟨g', cap', cur, h', hb, hg, hnc, hcm, hcs, htake⟩
  · simp at h'
  · simp only [Value.slice.injEq, Option.some.injEq, Addr.mk.injEq, and_true, true_and] at h'
    obtain ⟨rfl, rfl⟩ := h'
    refine ⟨?_, .inr ⟨g, c, cur, rfl, hb, hg, by omega, hcm, hcs, ?_⟩⟩
    · rw [List.length_take, h.1]; exact Nat.min_eq_left (Nat.mul_le_mul_right _ hm)
    · rw [← htake, List.take_take, Nat.min_eq_left (Nat.mul_le_mul_right _ hm)]

theorem zero_fl (w : World) : (zeroValue 35).run Try.prog w = .ok (.agg #[.int .i64 0, .int .i64 0, .int .i64 0]) w := by kernel_rfl
theorem zero_fl_one (m : Nat) (h : m = 1) : ∀ v ∈ (Builtin.zeroCells (Value.agg #[.int .i64 0, .int .i64 0, .int .i64 0]).cells m).toList, v.oneCell' = true := by
  subst h
  have e : (Builtin.zeroCells (Value.agg #[.int .i64 0, .int .i64 0, .int .i64 0]).cells 1).toList = [.int .i64 0, .int .i64 0, .int .i64 0] := by kernel_rfl
  rw [e]
  intro v hv
  simp at hv
  subst hv
  rfl

set_option maxHeartbeats 1000000 in
theorem deleteFl_any (fl : List Fl) (g n c i B : Nat) (w : World) (hn : fl.length = n) (hm : n ≤ 1048576) (hnc : n ≤ c) (hcm : c ≤ maxLen) (hi : i < n) (hR : w.ownsRow B 35 3 (.slice (some ⟨g, 0, none⟩) n c) n (flC fl)) :
    Calls Try.prog 50 #[.slice (some ⟨g, 0, none⟩) n c, .int .i64 i, .int .i64 (i + 1)] w fun e w' => e = .returned (.slice (some ⟨g, 0, none⟩) (n - 1) c) ∧
      w'.ownsRow B 35 3 (.slice (some ⟨g, 0, none⟩) (n - 1) c) (n - 1) (flC (fl.eraseIdx i)) ∧ w.grownBy w' (some g) := by
  have hcm2 := hcm
  unfold maxLen at hcm
  have HR := hid_ hR; clear hR
  have HN := hid_ hn; clear hn
  have f1 : ((i : Int) == (i : Int) + 1) = false := by simp; omega
  have hfl1 : (flC fl).take (i * 3) ++ flC (fl.drop (i + 1)) = flC (fl.eraseIdx i) := by
    rw [flC_take, ← flC_append, List.eraseIdx_eq_take_drop_succ]
  have HF := hid_ hfl1; clear hfl1
  by_cases hcc : c = i + 1
  · obtain rfl : n = i + 1 := by omega
    subst hcc
    go_enter Try.func50, Try.ntmps50
    go_wp2
    have j2 : (i : Int) ≤ (i : Int) + 1 := by omega
    have j3 : (0 : Int) ≤ (i : Int) + 1 := by omega
    have j4 : ((i : Int) + 1).toNat = i + 1 := by omega
    have j5 : (0 : Int) ≤ (i : Int) := by omega
    go_still_tail 6, (by kernel_rfl)
    change wpList _ _ _ _ _ w.drew
    have hfl2 : fl.drop (i + 1) = [] := List.drop_of_length_le (by rw [HN.out]; omega)
    have HD := hid_ hfl2; clear hfl2
    obtain ⟨i0, hi0, hz0, hz1, hz2⟩ := info_parts fl_info
    have HI0 := hid_ hi0; clear hi0
    have HZ1 := hid_ hz1; clear hz1
    clear hz0 hz2
    go_wp2_with (at_builtin; refine wpList_append_fits _ rfl _ _ 25 rfl B 35 i0 3 Try.underlying25 HI0.out HZ1.out g i (i + 1) _ rfl (own_take HR.out (by omega)).drew ⟨g, 0, none⟩ 0 0 [] rfl (by simp) (by simp) (by simp) (by omega) ?_; rw [Nat.add_zero]; intro w1 ho1 hg1; obtain ⟨w2, hcl, ho2, hg2⟩ := run_clear_tail (P := Try.prog) w1 25 0 35 _ 3 B g i (i + 1) 1 1 _ Try.underlying25 (zero_fl w1) rfl (zero_fl_one _ (by omega)) ho1 (by omega) (by omega); have HO2 := hid_ ho2; clear ho2 ho1; have HG1 := hid_ hg1; have HG2 := hid_ hg2; clear hg1 hg2)
    go_returns
    refine ⟨rfl, ?_, gb_trans (⟨HG1.out.os, HG1.out.tape, HG1.out.output, HG1.out.size, HG1.out.block⟩ : w.grownBy w1 (some g)) HG2.out⟩
    have := HO2.out
    rw [← HF.out, HD.out]
    simpa [flC] using this
  · go_enter Try.func50, Try.ntmps50
    go_wp2
    have j1 : (i : Int) + 1 ≤ (n : Int) := by omega
    have j2 : (i : Int) ≤ (c : Int) := by omega
    have j3 : (0 : Int) ≤ (i : Int) + 1 := by omega
    have j4 : ((i : Int) + 1).toNat = i + 1 := by omega
    go_still_tail 6, (by kernel_rfl)
    change wpList _ _ _ _ _ w.drew
    have hsrc : ∀ j u, (flC (fl.drop (i + 1)))[j]? = some u → w.drew.cell? ((⟨g, (i + 1) * 3, none⟩ : Addr).add j) = some u := by
      intro j u hu
      have h1 : (flC fl)[(i + 1) * 3 + j]? = some u := by
        rw [← hu]
        conv => lhs; rw [← List.take_append_drop (i + 1) fl, flC_append]
        rw [List.getElem?_append_right (by rw [flC_length, List.length_take]; have := HN.out; omega)]
        congr 1
        rw [flC_length, List.length_take]
        have := HN.out
        omega
      rw [add_mid]
      have hlt : (i + 1) * 3 + j < n * 3 := by
        have := (List.getElem?_eq_some_iff.1 h1).1
        rw [flC_length, HN.out] at this
        exact this
      exact (HR.out.cellAt _ hlt).trans h1
    have HS := hid_ hsrc; clear hsrc
    obtain ⟨i0, hi0, hz0, hz1, hz2⟩ := info_parts fl_info
    have HI0 := hid_ hi0; clear hi0
    have HZ1 := hid_ hz1; clear hz1
    clear hz0 hz2
    have e1 : i + (n - (i + 1)) = n - 1 := by omega
    have E1 := hid_ e1; clear e1
    go_wp2_with (at_builtin; refine wpList_append_fits _ rfl _ _ 25 rfl B 35 i0 3 Try.underlying25 HI0.out HZ1.out g i c _ rfl (own_take HR.out (by omega)).drew ⟨g, (i + 1) * 3, none⟩ (n - (i + 1)) (c - (i + 1)) (flC (fl.drop (i + 1))) rfl (by rw [flC_length, List.length_drop, HN.out]) HS.out (flC_one _) (by omega) ?_; rw [E1.out]; intro w1 ho1 hg1; obtain ⟨w2, hcl, ho2, hg2⟩ := run_clear_tail (P := Try.prog) w1 25 0 35 _ 3 B g (n - 1) c (n - (n - 1)) (c - (n - 1)) _ Try.underlying25 (zero_fl w1) rfl (zero_fl_one _ (by omega)) ho1 (by omega) (by omega); have HO2 := hid_ ho2; clear ho2 ho1; have HG1 := hid_ hg1; have HG2 := hid_ hg2; clear hg1 hg2)
    go_returns
    exact ⟨rfl, by rw [← HF.out]; exact HO2.out, gb_trans (⟨HG1.out.os, HG1.out.tape, HG1.out.output, HG1.out.size, HG1.out.block⟩ : w.grownBy w1 (some g)) HG2.out⟩

theorem idx_lt (t : Int) : ∀ (l : List Fl) (n : Nat), 0 ≤ idxFrom t n l → ∃ i, i < l.length ∧ idxFrom t n l = n + i := by
  intro l
  induction l with
  | nil => intro n h; simp [idxFrom] at h
  | cons f r ih =>
    intro n h
    unfold idxFrom at h ⊢
    by_cases he : f.tag = t
    · rw [if_pos he]; exact ⟨0, by simp, by simp⟩
    · rw [if_neg he] at h ⊢
      obtain ⟨i, hi, e⟩ := ih (n + 1) h
      exact ⟨i + 1, by simp; omega, by rw [e]; omega⟩

/-- in a valid list the one with a tag is the only one -/
theorem dropT_erase (t : Int) : ∀ (l : List Fl) (n : Nat) (i : Nat), idxFrom t n l = n + i → i < l.length → (∀ j (hj : j < l.length) (h : i < j), l[j].tag ≠ t) → dropT t l = l.eraseIdx i := by
  intro l
  induction l with
  | nil => intro n i _ h; simp at h
  | cons f r ih =>
    intro n i h hi hd
    unfold idxFrom at h
    by_cases he : f.tag = t
    · rw [if_pos he] at h
      have : i = 0 := by omega
      subst this
      have hr : dropT t r = r := by
        unfold dropT
        rw [List.filter_eq_self]
        intro g hg
        obtain ⟨j, hj, rfl⟩ := List.getElem_of_mem hg
        have := hd (j + 1) (by simp; omega) (by omega)
        simpa using this
      simp only [dropT, List.filter_cons, he] at hr ⊢
      simpa using hr
    · rw [if_neg he] at h
      obtain ⟨i', rfl⟩ : ∃ i', i = i' + 1 := by
        rcases idx_ge t r (n + 1) with h2 | h2
        · rw [h2] at h; omega
        · exact ⟨i - 1, by omega⟩
      have := ih (n + 1) i' (by rw [h]; omega) (by simpa using hi) (fun j hj h2 => by
        have := hd (j + 1) (by simp; omega) (by omega)
        simpa using this)
      simp only [dropT, List.filter_cons] at this ⊢
      rw [if_pos (by simpa using he), this]
      rfl

theorem fv_distinct (fl : List Fl) (h : fv fl = true) (i j : Nat) (hi : i < fl.length) (hj : j < fl.length) (hij : i < j) : fl[i].tag ≠ fl[j].tag := by
  unfold fv at h
  rw [Bool.and_eq_true, List.all_eq_true] at h
  have := h.1 j (by simpa using hj)
  rw [goodF_eq fl j hj, Bool.and_eq_true] at this
  have h2 := (idx_neg fl[j].tag (fl.take j) 0).1 (by simpa using this.2)
  exact h2 fl[i] (List.mem_take_iff_getElem.2 ⟨i, by omega, rfl⟩)

theorem idx_at (t : Int) : ∀ (l : List Fl) (n i : Nat) (hi : i < l.length), idxFrom t n l = n + i → l[i].tag = t := by
  intro l
  induction l with
  | nil => intro n i hi; simp at hi
  | cons f r ih =>
    intro n i hi h
    unfold idxFrom at h
    by_cases he : f.tag = t
    · rw [if_pos he] at h
      have : i = 0 := by omega
      subst this
      exact he
    · rw [if_neg he] at h
      obtain ⟨i', rfl⟩ : ∃ i', i = i' + 1 := by
        rcases idx_ge t r (n + 1) with h2 | h2
        · rw [h2] at h; omega
        · exact ⟨i - 1, by omega⟩
      exact ih (n + 1) i' (by simpa using hi) (by rw [h]; omega)

set_option maxHeartbeats 1000000 in
theorem implLand_any (fl : List Fl) (A : Option Addr) (n c : Nat) (tag : Int) (w : World) (hn : fl.length = n) (hm : n ≤ 1048576) (hc : n ≤ c) (hcm : c ≤ maxLen) (hR : Rd w 3 A n (flC fl)) :
    Calls Try.prog 33 #[.slice A n c, .int .i64 tag] w (RFlB w (landL fl tag) (landB fl tag)) := by
  have HR := hid_ hR; clear hR
  have HN := hid_ hn; clear hn
  cases q0 : fv fl
  · have hL := hid_ (show landL fl tag = [] by unfold landL; rw [q0]; rfl)
    have hB := hid_ (show landB fl tag = false by unfold landB; rw [q0]; rfl)
    go_enter Try.func33, Try.ntmps33
    go_wp2_with (go_at_call 17; refine (implFV_any fl A n c _ HN.out (by omega) hc hcm HR.out).mono ?_; rintro e w1 ⟨rfl, hb1⟩)
    go_returns
    exact RFlB.of_own (World.ownsRow_nil _ _ _ _) hb1 (by rw [hL.out]; rfl) (by rw [hL.out]; rfl) (by rw [hB.out])
  · have hL := hid_ (show landL fl tag = dropT tag fl by unfold landL; rw [q0]; rfl)
    have hB := hid_ (show landB fl tag = decide (0 ≤ idxFrom tag 0 fl) by unfold landB; rw [q0]; rfl)
    have hD := hid_ (fv_distinct fl q0)
    go_enter Try.func33, Try.ntmps33
    go_wp2_with fail
    refine (implFV_any fl A n c _ HN.out (by omega) hc hcm HR.out).mono ?_
    rintro e w1 ⟨rfl, hb1⟩
    go_wp2_with fail
    refine (cloneFl_any fl A n c _ HN.out hm (HR.out.below hb1)).mono ?_
    rintro e w2 ⟨A2, c2, rfl, hc2, hm2, ho2, hb2⟩
    have HO2 := hid_ ho2; clear ho2
    have hbb2 := hb1.trans (hb2.mono hb1.size)
    clear q0
    go_wp2_with fail
    refine (flightAt_any fl A n c tag _ HN.out (Nat.le_trans hc hcm) (HR.out.below hbb2)).mono ?_
    rintro e w3 ⟨rfl, hb3⟩
    have hbb3 := hbb2.trans (hb3.mono hbb2.size)
    have ho3 := own_below HO2.out hb3
    have HO3 := hid_ ho3; clear ho3
    by_cases hneg : idxFrom tag 0 fl < 0
    · go_wp2
      go_returns
      refine RFlB.of_own (own_base HO3.out hb1.size) hbb3 ?_ ?_ ?_
      · rw [hL.out, ← HN.out]
        have : dropT tag fl = fl := by
          unfold dropT; rw [List.filter_eq_self]; intro f hf; simpa using (idx_neg tag fl 0).1 hneg f hf
        rw [this]
      · rw [hL.out]
        have : dropT tag fl = fl := by
          unfold dropT; rw [List.filter_eq_self]; intro f hf; simpa using (idx_neg tag fl 0).1 hneg f hf
        rw [this]
      · rw [hB.out]; simp; omega
    · obtain ⟨i, hi, hidx⟩ := idx_lt tag fl 0 (by omega)
      rw [hidx]
      have hidx' : idxFrom tag 0 fl = (i : Int) := by rw [hidx]; simp
      have HX := hid_ hidx; clear hidx
      have HX' := hid_ hidx'; clear hidx' hneg
      have hin : i < n := by rw [← HN.out]; exact hi
      obtain ⟨g, rfl, hBg, hgl, _, _⟩ := own_block HO3.out (by omega)
      go_wp2_with fail
      refine (deleteFl_any fl g n c2 i w1.heap.size w3 HN.out hm hc2 hm2 hin HO3.out).mono ?_
      rintro e w4 ⟨rfl, ho4, hg4⟩
      have HO4 := hid_ ho4; clear ho4
      have HG4 := hid_ hg4; clear hg4
      go_wp2
      go_returns
      have hdd : dropT tag fl = fl.eraseIdx i := dropT_erase tag fl 0 i HX.out hi (fun j hj hij => by
        have h1 := hD.out i j hi hj hij
        have h2 := idx_at tag fl 0 i hi HX.out
        rw [h2] at h1
        exact fun e => h1 e.symm)
      refine RFlB.of_own (own_base HO4.out hb1.size) (hbb3.grown HG4.out hbb3.size (fun k hk => by injection hk with hk; have := hb1.size; omega)) ?_ ?_ ?_
      · rw [hL.out, hdd, List.length_eraseIdx_of_lt hi, HN.out]
      · rw [hL.out, hdd]
      · rw [hB.out, HX'.out]; simp
end Go.Proofs.Ytfinefjihphnhaa
