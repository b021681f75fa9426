/-
  Flights: what is valid; the two functions that decide it.
-/
import Derived.Test.YtfinefjihphnhaaFlB
namespace Go.Proofs.Ytfinefjihphnhaa
open Go.ChangeShapes Go.WideShapes Go.ChangeAt Go.RowKit Go.BigFrame

def okF (f : Fl) : Bool := inB f.tag 0 15 && inB f.since 0 100000 && inB f.tries 1 5
def goodF (fl : List Fl) (k : Nat) : Bool := match fl[k]? with
  | none => true
  | some f => okF f && decide (idxFrom f.tag 0 (fl.take k) < 0)
def fv (fl : List Fl) : Bool := (List.range fl.length).all (goodF fl) && decide (fl.length ≤ 16)

theorem goodF_eq (fl : List Fl) (k : Nat) (h : k < fl.length) : goodF fl k = (okF fl[k] && decide (idxFrom fl[k].tag 0 (fl.take k) < 0)) := by
  unfold goodF; rw [List.getElem?_eq_getElem h]

theorem idx_ge (t : Int) : ∀ (l : List Fl) (n : Nat), idxFrom t n l = -1 ∨ (n : Int) ≤ idxFrom t n l := by
  intro l
  induction l with
  | nil => intro n; exact .inl rfl
  | cons f r ih =>
    intro n
    unfold idxFrom
    split
    · exact .inr (Int.le_refl _)
    · rcases ih (n + 1) with h | h
      · exact .inl h
      · exact .inr (by omega)

theorem idx_neg (t : Int) : ∀ (l : List Fl) (n : Nat), idxFrom t n l < 0 ↔ ∀ f ∈ l, f.tag ≠ t := by
  intro l
  induction l with
  | nil => intro n; simp [idxFrom]
  | cons f r ih =>
    intro n
    unfold idxFrom
    by_cases h : f.tag = t
    · simp [h]
    · rw [if_neg h, ih]; simp [h]

theorem fv_false_at (fl : List Fl) (k : Nat) (h : k < fl.length) (hg : goodF fl k = false) : fv fl = false := by
  unfold fv
  rw [Bool.and_eq_false_iff]
  left
  rw [List.all_eq_false]
  exact ⟨k, by simpa using h, by simp [hg]⟩

theorem fv_end (fl : List Fl) (h : ∀ i, i < fl.length → goodF fl i = true) : fv fl = decide (fl.length ≤ 16) := by
  unfold fv
  have : (List.range fl.length).all (goodF fl) = true := by rw [List.all_eq_true]; intro i hi; exact h i (by simpa using hi)
  rw [this]; simp

set_option maxHeartbeats 1000000 in
theorem implFV_any (fl : List Fl) (A : Option Addr) (n c : Nat) (w : World) (hn : fl.length = n) (hm : n ≤ 4194304) (hc : n ≤ c) (hcm : c ≤ maxLen) (hR : Rd w 3 A n (flC fl)) :
    Calls Try.prog 17 #[.slice A n c] w fun e w' => e = .returned (.bool (fv fl)) ∧ Below w.heap.size w w' := by
  unfold maxLen at hcm
  have HR := hid_ hR; clear hR
  have HN := hid_ hn; clear hn
  go_enter Try.func17, Try.ntmps17
  go_wp2
  go_loopw [7] (fun v wr => ∃ k : Nat, k ≤ n ∧ v = .int .i64 k ∧ Below w.heap.size w wr ∧ ∀ i, i < k → goodF fl i = true) (fun v _ => n - (intOf v).toNat)
  case atStart => exact ⟨0, Nat.zero_le _, rfl, Below.refl _ _, fun i hi => absurd hi (by omega)⟩
  case round =>
    obtain ⟨k, hk, rfl, hb, hid⟩ := hrel
    have HI := hid_ hid; clear hid
    by_cases hlt : k < n
    · have hlt' : k < fl.length := by rw [HN.out]; exact hlt
      obtain ⟨b, o, rfl, h0, h1, h2⟩ := (HR.out.below hb).fl k hlt HN.out
      go_wp2
      have HT := hid_ (fun m : Later (wr.alloc (Obj.cells #[.int .i64 fl[k].tag, .int .i64 fl[k].since, .int .i64 fl[k].tries] 35)) => (((HR.out.below hb).alloc (Obj.cells #[.int .i64 fl[k].tag, .int .i64 fl[k].since, .int .i64 fl[k].tries] 35)).below m.property).take (show k ≤ n by omega))
      have z0 := fun n : Later (wr.alloc (Obj.cells #[.int .i64 fl[k].tag, .int .i64 fl[k].since, .int .i64 fl[k].tries] 35)) => n.cell (a := ⟨wr.heap.size, 0, none⟩) (v := .int .i64 fl[k].tag) (by simp)
      have z1 := fun n : Later (wr.alloc (Obj.cells #[.int .i64 fl[k].tag, .int .i64 fl[k].since, .int .i64 fl[k].tries] 35)) => n.cell (a := ⟨wr.heap.size, 1, none⟩) (v := .int .i64 fl[k].since) (by simp)
      have z2 := fun n : Later (wr.alloc (Obj.cells #[.int .i64 fl[k].tag, .int .i64 fl[k].since, .int .i64 fl[k].tries] 35)) => n.cell (a := ⟨wr.heap.size, 2, none⟩) (v := .int .i64 fl[k].tries) (by simp)
      have hlk : (k : Int) ≤ (c : Int) := by omega
      have hk0 : (0 : Int) ≤ (k : Int) := by omega
      cases q1 : inB fl[k].tag 0 15
      · (refine wp_region_later (by kernel_rfl) (by kernel_rfl) ?_
         repeat (go_big_quiet_step ((go_at_call 42; exact later_same (within_any _ _ _ _))))
         refine wpQuiet_nil ?_
         rintro _ ⟨nq, rfl⟩
         have hbq := nq.property)
        go_wp2
        go_returns
        exact ⟨ret_bool (fv_false_at fl k hlt' (by rw [goodF_eq fl k hlt', okF, q1]; rfl)).symm, hb.trans (((Below.refl _ _).alloc (Nat.le_refl _) _).trans (hbq.mono (by simp)) |>.mono hb.size)⟩
      · cases q2 : inB fl[k].since 0 100000
        · (refine wp_region_later (by kernel_rfl) (by kernel_rfl) ?_
           repeat (go_big_quiet_step ((go_at_call 42; exact later_same (within_any _ _ _ _))))
           refine wpQuiet_nil ?_
           rintro _ ⟨nq, rfl⟩
           have hbq := nq.property)
          go_wp2
          go_returns
          exact ⟨ret_bool (fv_false_at fl k hlt' (by rw [goodF_eq fl k hlt', okF, q1, q2]; rfl)).symm, hb.trans (((Below.refl _ _).alloc (Nat.le_refl _) _).trans (hbq.mono (by simp)) |>.mono hb.size)⟩
        · cases q3 : inB fl[k].tries 1 5
          · (refine wp_region_later (by kernel_rfl) (by kernel_rfl) ?_
             repeat (go_big_quiet_step ((go_at_call 42; exact later_same (within_any _ _ _ _))))
             refine wpQuiet_nil ?_
             rintro _ ⟨nq, rfl⟩
             have hbq := nq.property)
            go_wp2
            go_returns
            exact ⟨ret_bool (fv_false_at fl k hlt' (by rw [goodF_eq fl k hlt', okF, q1, q2, q3]; rfl)).symm, hb.trans (((Below.refl _ _).alloc (Nat.le_refl _) _).trans (hbq.mono (by simp)) |>.mono hb.size)⟩
          · (refine wp_region_later (by kernel_rfl) (by kernel_rfl) ?_
             repeat (go_big_quiet_step ((first | (go_at_call 42; exact later_same (within_any _ _ _ _)) | (go_at_call 43; exact later_below (flightAt_any (fl.take k) _ k c _ _ (by rw [List.length_take]; omega) (by unfold maxLen; omega) (by rw [← flC_take]; exact HT.out _))))))
             refine wpQuiet_nil ?_
             rintro _ ⟨nq, rfl⟩
             have hbq := nq.property)
            go_wp2
            · go_returns
              refine ⟨ret_bool (fv_false_at fl k hlt' ?_).symm, hb.trans (((Below.refl _ _).alloc (Nat.le_refl _) _).trans (hbq.mono (by simp)) |>.mono hb.size)⟩
              rw [goodF_eq fl k hlt', okF, q1, q2, q3]
              simp
              omega
            · go_roundw
              case rel =>
                refine ⟨k + 1, by omega, by go_num, hb.trans (((Below.refl _ _).alloc (Nat.le_refl _) _).trans (hbq.mono (by simp)) |>.mono hb.size), fun i hi => ?_⟩
                by_cases e : i = k
                · subst e
                  rw [goodF_eq fl i hlt', okF, q1, q2, q3]
                  simp
                  omega
                · exact HI.out i (by omega)
              case measure => simp [intOf]; omega
    · go_wp2
      go_returns
      refine ⟨ret_bool ?_, hb⟩
      rw [fv_end fl (fun i hi => HI.out i (by rw [HN.out] at hi; omega)), HN.out]
      simp
      omega

set_option maxHeartbeats 1000000 in
theorem specFV_any (fl : List Fl) (A : Option Addr) (n c : Nat) (w : World) (hn : fl.length = n) (hm : n ≤ 4194304) (hR : Rd w 3 A n (flC fl)) :
    Calls Try.prog 15 #[.slice A n c] w fun e w' => e = .returned (.bool (fv fl)) ∧ Below w.heap.size w w' := by
  have HR := hid_ hR; clear hR
  have HN := hid_ hn; clear hn
  go_enter Try.func15, Try.ntmps15
  go_wp2
  go_loopw [3] (fun v wr => ∃ k : Nat, k ≤ n ∧ v = .int .i64 k ∧ Below w.heap.size w wr ∧ ∀ i, i < k → goodF fl i = true) (fun v _ => n - (intOf v).toNat)
  case atStart => exact ⟨0, Nat.zero_le _, rfl, Below.refl _ _, fun i hi => absurd hi (by omega)⟩
  case round =>
    obtain ⟨k, hk, rfl, hb, hid⟩ := hrel
    have HI := hid_ hid; clear hid
    by_cases hlt : k < n
    · have hlt' : k < fl.length := by rw [HN.out]; exact hlt
      obtain ⟨b, o, rfl, h0, h1, h2⟩ := (HR.out.below hb).fl k hlt HN.out
      cases q1 : inB fl[k].tag 0 15
      · go_wp2_with (go_at_call 40; refine (l1In_any _ _ _ _).mono ?_; rintro e w1 ⟨rfl, rfl⟩)
        go_returns
        exact ⟨ret_bool (fv_false_at fl k hlt' (by rw [goodF_eq fl k hlt', okF, q1]; rfl)).symm, hb⟩
      · cases q2 : inB fl[k].since 0 100000
        · go_wp2_with (go_at_call 40; refine (l1In_any _ _ _ _).mono ?_; rintro e w1 ⟨rfl, rfl⟩)
          go_returns
          exact ⟨ret_bool (fv_false_at fl k hlt' (by rw [goodF_eq fl k hlt', okF, q1, q2]; rfl)).symm, hb⟩
        · cases q3 : inB fl[k].tries 1 5
          · go_wp2_with (go_at_call 40; refine (l1In_any _ _ _ _).mono ?_; rintro e w1 ⟨rfl, rfl⟩)
            go_returns
            exact ⟨ret_bool (fv_false_at fl k hlt' (by rw [goodF_eq fl k hlt', okF, q1, q2, q3]; rfl)).symm, hb⟩
          · go_wp2_with (go_at_call 40; refine (l1In_any _ _ _ _).mono ?_; rintro e w1 ⟨rfl, rfl⟩)
            obtain ⟨wo, hwo⟩ : ∃ wo : World, wo = wr := ⟨_, rfl⟩
            subst hwo
            clear h0 h1 h2
            go_loopw [4] (fun v wr => ∃ j : Nat, j ≤ k ∧ v = .int .i64 j ∧ Below wo.heap.size wo wr ∧ ∀ f ∈ fl.take j, f.tag ≠ fl[k].tag) (fun v _ => k - (intOf v).toNat)
            case atStart => exact ⟨0, Nat.zero_le _, rfl, Below.refl _ _, fun f hf => by simp at hf⟩
            case round =>
              obtain ⟨j, hj, rfl, hbi, hin⟩ := hrel
              have HJ := hid_ hin; clear hin
              have hbb := hb.trans (hbi.mono hb.size)
              by_cases hjk : j < k
              · obtain ⟨b1, o1, he1, h0, _, _⟩ := (HR.out.below hbb).fl k hlt HN.out
                obtain ⟨b2, o2, he2, g0, _, _⟩ := (HR.out.below hbb).fl j (by omega) HN.out
                injection he1 with he1; injection he1 with hx hy; subst hx; subst hy
                injection he2 with he2; injection he2 with hx hy; subst hx; subst hy
                have hi1 : (j : Int) < (n : Int) := by omega
                have hi2 : (k : Int) < (n : Int) := by omega
                go_wp2
                go_quiet (fail)
                all_goals go_wp2
                all_goals first
                  | (go_returns
                     refine ⟨ret_bool (fv_false_at fl k hlt' ?_).symm, bdN hbb _⟩
                     have he : fl[j].tag = fl[k].tag := by simpa using ‹(fl[j].tag == fl[k].tag) = true›
                     have hm : ¬ (∀ f ∈ fl.take k, f.tag ≠ fl[k].tag) := fun h => h fl[j] (List.mem_take_iff_getElem.2 ⟨j, by omega, rfl⟩) he
                     rw [goodF_eq fl k hlt', Bool.and_eq_false_iff]
                     right
                     rw [← idx_neg _ _ 0] at hm
                     simpa using hm)
                  | (go_roundw
                     case rel =>
                       have he : fl[j].tag ≠ fl[k].tag := by simpa using ‹(fl[j].tag == fl[k].tag) = false›
                       refine ⟨j + 1, by omega, by go_num, bdN hbi _, ?_⟩
                       rw [List.take_succ_eq_append_getElem (by omega)]
                       intro f hf
                       rcases List.mem_append.1 hf with hf | hf
                       · exact HJ.out f hf
                       · simp only [List.mem_singleton] at hf; subst hf; exact he
                     case measure => simp [intOf]; omega)
              · go_wp2
                go_roundw
                case rel =>
                  refine ⟨k + 1, by omega, by go_num, hbb, fun i hi => ?_⟩
                  by_cases e : i = k
                  · subst e
                    have hj2 : j = i := by omega
                    subst hj2
                    rw [goodF_eq fl j hlt', okF, q1, q2, q3]
                    have := (idx_neg fl[j].tag (fl.take j) 0).2 HJ.out
                    simpa using this
                  · exact HI.out i (by omega)
                case measure => simp [intOf]; omega
    · go_wp2
      go_returns
      refine ⟨ret_bool ?_, hb⟩
      rw [fv_end fl (fun i hi => HI.out i (by rw [HN.out] at hi; omega)), HN.out]
      simp
      omega
end Go.Proofs.Ytfinefjihphnhaa
