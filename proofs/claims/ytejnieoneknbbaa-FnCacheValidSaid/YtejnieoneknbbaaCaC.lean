/-
  Caches: which are valid; the two functions that decide it.
-/
import Derived.Test.YtejnieoneknbbaaCaB
namespace Go.Proofs.Ytejnieoneknbbaa
open Go.ChangeShapes Go.WideShapes Go.ChangeAt Go.RowKit Go.BigFrame

theorem lineAt1_any (x : Ln) (t : Int) (ad : Addr) (w : World) (h : w.cell? ad = some (.int .i64 t)) :
    Calls Try.prog 70 #[.agg #[.int .i64 x.at_, .int .i64 x.value, .bool x.dirty], .pointer (some ad)] w fun e w' => e = .returned (.bool (x.at_ == t)) ∧ Below w.heap.size w w' := by
  have hb := cell_lt h
  go_enter Try.func70, Try.ntmps70
  go_wp2
  go_returns
  exact ⟨rfl, by go_grown⟩

/-- the place of the first line of a sector, from place n on; -1 without one -/
def lnAt (t : Int) : Nat → List Ln → Int
  | _, [] => -1
  | n, f :: r => if f.at_ = t then n else lnAt t (n+1) r
theorem lnAt_step (t : Int) (fl : List Ln) (k : Nat) (h : k < fl.length) : lnAt t k (fl.drop k) = if fl[k].at_ = t then (k : Int) else lnAt t (k+1) (fl.drop (k+1)) := by
  rw [List.drop_eq_getElem_cons h]; rfl
theorem lnAt_neg (t : Int) : ∀ (l : List Ln) (n : Nat), lnAt t n l < 0 ↔ ∀ f ∈ l, f.at_ ≠ t := by
  intro l
  induction l with
  | nil => intro n; simp [lnAt]
  | cons f r ih =>
    intro n
    unfold lnAt
    by_cases h : f.at_ = t
    · simp [h]
    · rw [if_neg h, ih]; simp [h]

set_option maxHeartbeats 400000 in
theorem indexLn_any (fl : List Ln) (A : Option Addr) (n c : Nat) (t : Int) (ad : Addr) (w : World) (hn : fl.length = n) (hm : n ≤ maxLen) (hR : Rd w 3 A n (lnC fl)) (hcl : w.cell? ad = some (.int .i64 t)) :
    Calls Try.prog 69 #[.slice A n c, .func (.func 70) #[] #[.pointer (some ad)]] w fun e w' => e = .returned (.int .i64 (lnAt t 0 fl)) ∧ Below w.heap.size w w' := by
  unfold maxLen at hm
  have HR := hid_ hR; clear hR
  have HN := hid_ hn; clear hn
  go_enter Try.func69, Try.ntmps69
  go_wp2
  go_loopw [8] (fun v wr => ∃ k : Nat, k ≤ n ∧ v = .int .i64 k ∧ Below w.heap.size w wr ∧ lnAt t 0 fl = lnAt t k (fl.drop k)) (fun v _ => n - (intOf v).toNat)
  case atStart => exact ⟨0, Nat.zero_le _, rfl, Below.refl _ _, by simp⟩
  case round =>
    obtain ⟨k, hk, rfl, hb, hid⟩ := hrel
    have HI := hid_ hid; clear hid
    by_cases hlt : k < n
    · have hlt' : k < fl.length := by rw [HN.out]; exact hlt
      obtain ⟨b, o, rfl, h0, h1, h2⟩ := (HR.out.below hb).ln k hlt HN.out
      have hc' : wr.cell? ad = some (.int .i64 t) := (hb.cell (cell_lt hcl)).trans hcl
      clear hcl
      go_wp2_with (go_at_call 70; refine (lineAt1_any fl[k] _ _ _ hc').mono ?_; rintro e w1 ⟨rfl, hb1⟩)
      · go_returns
        exact ⟨ret_int (by rw [HI.out, lnAt_step t fl k hlt', if_pos (by simpa using ‹(fl[k].at_ == t) = true›)]), hb.trans (hb1.mono hb.size)⟩
      · go_roundw
        case rel => exact ⟨k + 1, by omega, by go_num, hb.trans (hb1.mono hb.size), by rw [HI.out, lnAt_step t fl k hlt', if_neg (by simpa using ‹(fl[k].at_ == t) = false›)]⟩
        case measure => simp [intOf]; omega
    · go_wp2
      go_returns
      refine ⟨ret_int ?_, hb⟩
      rw [HI.out, List.drop_of_length_le (by rw [HN.out]; omega)]; rfl

theorem lineAt_any (fl : List Ln) (A : Option Addr) (n c : Nat) (t : Int) (w : World) (hn : fl.length = n) (hm : n ≤ maxLen) (hR : Rd w 3 A n (lnC fl)) :
    Calls Try.prog 48 #[.slice A n c, .int .i64 t] w fun e w' => e = .returned (.int .i64 (lnAt t 0 fl)) ∧ Below w.heap.size w w' := by
  have HR := hid_ hR; clear hR
  have HN := hid_ hn; clear hn
  go_enter Try.func48, Try.ntmps48
  go_wp2_with fail
  refine (indexLn_any fl A n c t ⟨w.heap.size, 0, none⟩ _ HN.out hm (HR.out.alloc _) (by simp)).mono ?_
  rintro e w1 ⟨rfl, hb⟩
  go_wp2
  go_returns
  exact ⟨rfl, ((Below.refl _ _).alloc (Nat.le_refl _) _).trans (hb.mono (by simp))⟩

def goodL (size : Int) (L : List Ln) (k : Nat) : Bool := match L[k]? with
  | none => true
  | some f => lnOk size f && decide (lnAt f.at_ 0 (L.take k) < 0)
theorem goodL_eq (size : Int) (L : List Ln) (k : Nat) (h : k < L.length) : goodL size L k = (lnOk size L[k] && decide (lnAt L[k].at_ 0 (L.take k) < 0)) := by
  unfold goodL; rw [List.getElem?_eq_getElem h]
theorem cv_head {L : List Ln} {most size : Int} (h : inB size 0 64 = false ∨ inB most 1 8 = false ∨ most < (L.length : Int)) : cvB L most size = false := by
  cases q : cvB L most size
  · rfl
  · rw [cvB_iff] at q
    rcases h with h | h | h
    · rw [h] at q; simp at q
    · rw [h] at q; simp at q
    · omega
theorem cv_at {L : List Ln} {most size : Int} {k : Nat} (h : k < L.length) (hg : goodL size L k = false) : cvB L most size = false := by
  cases q : cvB L most size
  · rfl
  · rw [cvB_iff] at q
    rw [goodL_eq size L k h, q.2.2.2.1 _ (List.getElem_mem h)] at hg
    exfalso
    have h1 : ¬ lnAt L[k].at_ 0 (L.take k) < 0 := by simpa using hg
    rw [lnAt_neg] at h1
    apply h1
    intro f hf e
    obtain ⟨j, hj, rfl⟩ := List.mem_take_iff_getElem.1 hf
    have := List.pairwise_iff_getElem.1 q.2.2.2.2 j k (by simp; omega) (by simpa using h) (by omega)
    simp at this
    exact this e
theorem cv_end {L : List Ln} {most size : Int} (h1 : inB size 0 64 = true) (h2 : inB most 1 8 = true) (h3 : (L.length : Int) ≤ most) (h : ∀ i, i < L.length → goodL size L i = true) : cvB L most size = true := by
  rw [cvB_iff]
  refine ⟨h1, h2, h3, fun x hx => ?_, ?_⟩
  · obtain ⟨i, hi, rfl⟩ := List.getElem_of_mem hx
    have := h i hi
    rw [goodL_eq size L i hi, Bool.and_eq_true] at this
    exact this.1
  · apply List.pairwise_iff_getElem.2
    intro i j hi hj hij
    rw [List.length_map] at hi hj
    have := h j hj
    rw [goodL_eq size L j hj, Bool.and_eq_true, decide_eq_true_eq, lnAt_neg] at this
    rw [List.getElem_map, List.getElem_map]
    exact this.2 _ (List.mem_take_iff_getElem.2 ⟨i, by omega, rfl⟩)

set_option maxHeartbeats 1000000 in
theorem implCV_any (L : List Ln) (A : Option Addr) (n c : Nat) (m size : Int) (w : World) (hn : L.length = n) (_ : n ≤ 4194304) (hc : n ≤ c) (hcm : c ≤ maxLen) (hR : Rd w 3 A n (lnC L)) :
    Calls Try.prog 18 #[.agg #[.slice A n c, .int .i64 m], .int .i64 size] w fun e w' => e = .returned (.bool (cvB L m size)) ∧ Below w.heap.size w w' := by
  unfold maxLen at hcm
  have HR := hid_ (hR.alloc (.cells #[.slice A n c, .int .i64 m] 29)); clear hR
  have HN := hid_ hn; clear hn
  have HB0 := hid_ ((Below.refl w.heap.size w).alloc (Nat.le_refl _) (.cells #[.slice A n c, .int .i64 m] 29))
  have hq0 : (w.alloc (.cells #[.slice A n c, .int .i64 m] 29)).cell? ⟨w.heap.size, 0, none⟩ = some (.slice A n c) := by simp [go_sem]
  have HQ0 := hid_ hq0; clear hq0
  cases q1 : inB size 0 64
  · go_enter Try.func18, Try.ntmps18
    go_wp2_with (go_at_call 47; refine (within_any _ _ _ _).mono ?_; rintro e w1 ⟨rfl, rfl⟩)
    go_returns
    exact ⟨ret_bool (cv_head (.inl q1)).symm, HB0.out⟩
  cases q2 : inB m 1 8
  · go_enter Try.func18, Try.ntmps18
    go_wp2_with (go_at_call 47; refine (within_any _ _ _ _).mono ?_; rintro e w1 ⟨rfl, rfl⟩)
    go_returns
    exact ⟨ret_bool (cv_head (.inr (.inl q2))).symm, HB0.out⟩
  have q2' := inB_iff.1 q2
  have q1' := inB_iff.1 q1
  by_cases q3 : m < (n : Int)
  · go_enter Try.func18, Try.ntmps18
    go_wp2_with (go_at_call 47; refine (within_any _ _ _ _).mono ?_; rintro e w1 ⟨rfl, rfl⟩)
    go_returns
    exact ⟨ret_bool (cv_head (.inr (.inr (by rw [HN.out]; exact q3)))).symm, HB0.out⟩
  have Q1 := hid_ q1
  have Q2 := hid_ q2
  go_enter Try.func18, Try.ntmps18
  go_wp2_with (go_at_call 47; refine (within_any _ _ _ _).mono ?_; rintro e w1 ⟨rfl, rfl⟩)
  clear q1 q2
  obtain ⟨wb, hwb⟩ : ∃ wb, w.alloc (.cells #[.slice A n c, .int .i64 m] 29) = wb := ⟨_, rfl⟩
  have hbs : w.heap.size < wb.heap.size := by rw [← hwb]; simp
  rw [hwb] at HR HQ0 HB0 ⊢
  clear hwb
  go_loopw [27] (fun v wr => ∃ k : Nat, k ≤ n ∧ v = .int .i64 k ∧ Below wb.heap.size wb wr ∧ ∀ i, i < k → goodL size L i = true) (fun v _ => n - (intOf v).toNat)
  case atStart => exact ⟨0, Nat.zero_le _, rfl, Below.refl _ _, fun i hi => absurd hi (by omega)⟩
  case round =>
    obtain ⟨k, hk, rfl, hb, hid⟩ := hrel
    have HI := hid_ hid; clear hid
    have BBk := hid_ (HB0.out.trans (hb.mono HB0.out.size))
    by_cases hlt : k < n
    · have hlt' : k < L.length := by rw [HN.out]; exact hlt
      obtain ⟨b, o, rfl, h0, h1, h2⟩ := (HR.out.below hb).ln k hlt HN.out
      go_wp2
      have HT := hid_ (fun m : Later (wr.alloc (Obj.cells #[.int .i64 L[k].at_, .int .i64 L[k].value, .bool L[k].dirty] 38)) => (((HR.out.below hb).alloc (Obj.cells #[.int .i64 L[k].at_, .int .i64 L[k].value, .bool L[k].dirty] 38)).below m.property).take (show k ≤ n by omega))
      have z0 := fun n : Later (wr.alloc (Obj.cells #[.int .i64 L[k].at_, .int .i64 L[k].value, .bool L[k].dirty] 38)) => n.cell (a := ⟨wr.heap.size, 0, none⟩) (v := .int .i64 L[k].at_) (by simp)
      have z1 := fun n : Later (wr.alloc (Obj.cells #[.int .i64 L[k].at_, .int .i64 L[k].value, .bool L[k].dirty] 38)) => n.cell (a := ⟨wr.heap.size, 1, none⟩) (v := .int .i64 L[k].value) (by simp)
      have y0 : wr.cell? ⟨w.heap.size, 0, none⟩ = some (.slice (some ⟨b, o, none⟩) n c) := (hb.cell hbs).trans HQ0.out
      have z2 := fun n : Later (wr.alloc (Obj.cells #[.int .i64 L[k].at_, .int .i64 L[k].value, .bool L[k].dirty] 38)) => n.cell ((World.cell?_alloc_past _ _ _ (cell_lt y0)).trans y0)
      have hlk : (k : Int) ≤ (c : Int) := by omega
      have hk0 : (0 : Int) ≤ (k : Int) := by omega
      have hfin := fun (w' : World) (h : Below (wr.alloc (Obj.cells #[.int .i64 L[k].at_, .int .i64 L[k].value, .bool L[k].dirty] 38)).heap.size (wr.alloc (Obj.cells #[.int .i64 L[k].at_, .int .i64 L[k].value, .bool L[k].dirty] 38)) w') => ((Below.refl wr.heap.size wr).alloc (Nat.le_refl _) (Obj.cells #[.int .i64 L[k].at_, .int .i64 L[k].value, .bool L[k].dirty] 38)).trans (h.mono (by simp))
      have HFIN := hid_ hfin; clear hfin
      cases q1 : inB L[k].at_ 0 (size - 1)
      · (refine wp_region_later (by kernel_rfl) (by kernel_rfl) ?_
         repeat (go_big_quiet_step ((go_at_call 47; exact later_same (within_any _ _ _ _))))
         refine wpQuiet_nil ?_
         rintro _ ⟨nq, rfl⟩
         have hbq := nq.property)
        go_wp2
        go_returns
        exact ⟨ret_bool (cv_at hlt' (by rw [goodL_eq size L k hlt', lnOk, q1]; rfl)).symm, BBk.out.trans ((HFIN.out _ hbq).mono BBk.out.size)⟩
      · cases q2 : inB L[k].value 0 255
        · (refine wp_region_later (by kernel_rfl) (by kernel_rfl) ?_
           repeat (go_big_quiet_step ((go_at_call 47; exact later_same (within_any _ _ _ _))))
           refine wpQuiet_nil ?_
           rintro _ ⟨nq, rfl⟩
           have hbq := nq.property)
          go_wp2
          go_returns
          exact ⟨ret_bool (cv_at hlt' (by rw [goodL_eq size L k hlt', lnOk, q1, q2]; rfl)).symm, BBk.out.trans ((HFIN.out _ hbq).mono BBk.out.size)⟩
        · (refine wp_region_later (by kernel_rfl) (by kernel_rfl) ?_
           repeat (go_big_quiet_step ((first | (go_at_call 47; exact later_same (within_any _ _ _ _)) | (go_at_call 48; exact later_below (lineAt_any (L.take k) _ k c _ _ (by rw [List.length_take]; omega) (by unfold maxLen; omega) (by rw [← lnC_take]; exact HT.out _))))))
           refine wpQuiet_nil ?_
           rintro _ ⟨nq, rfl⟩
           have hbq := nq.property)
          go_wp2
          · go_returns
            refine ⟨ret_bool (cv_at hlt' ?_).symm, BBk.out.trans ((HFIN.out _ hbq).mono BBk.out.size)⟩
            rw [goodL_eq size L k hlt', lnOk, q1, q2]
            simp
            omega
          · go_roundw
            case rel =>
              refine ⟨k + 1, by omega, by go_num, hb.trans ((HFIN.out _ hbq).mono hb.size), fun i hi => ?_⟩
              by_cases e : i = k
              · subst e
                rw [goodL_eq size L i hlt', lnOk, q1, q2]
                simp
                omega
              · exact HI.out i (by omega)
            case measure => simp [intOf]; omega
    · go_wp2
      go_returns
      refine ⟨ret_bool ?_, BBk.out⟩
      rw [cv_end Q1.out Q2.out (by rw [HN.out]; omega) (fun i hi => HI.out i (by rw [HN.out] at hi; omega))]

set_option maxHeartbeats 1000000 in
theorem specCV_any (L : List Ln) (A : Option Addr) (n c : Nat) (m size : Int) (w : World) (hn : L.length = n) (_ : n ≤ 4194304) (hR : Rd w 3 A n (lnC L)) :
    Calls Try.prog 16 #[.agg #[.slice A n c, .int .i64 m], .int .i64 size] w fun e w' => e = .returned (.bool (cvB L m size)) ∧ Below w.heap.size w w' := by
  have HR := hid_ (hR.alloc (.cells #[.slice A n c, .int .i64 m] 29)); clear hR
  have HN := hid_ hn; clear hn
  have HB0 := hid_ ((Below.refl w.heap.size w).alloc (Nat.le_refl _) (.cells #[.slice A n c, .int .i64 m] 29))
  have hq0 : (w.alloc (.cells #[.slice A n c, .int .i64 m] 29)).cell? ⟨w.heap.size, 0, none⟩ = some (.slice A n c) := by simp [go_sem]
  have HQ0 := hid_ hq0; clear hq0
  cases q1 : inB size 0 64
  · go_enter Try.func16, Try.ntmps16
    go_wp2_with (go_at_call 45; refine (l1In_any _ _ _ _).mono ?_; rintro e w1 ⟨rfl, rfl⟩)
    go_returns
    exact ⟨ret_bool (cv_head (.inl q1)).symm, HB0.out⟩
  cases q2 : inB m 1 8
  · go_enter Try.func16, Try.ntmps16
    go_wp2_with (go_at_call 45; refine (l1In_any _ _ _ _).mono ?_; rintro e w1 ⟨rfl, rfl⟩)
    go_returns
    exact ⟨ret_bool (cv_head (.inr (.inl q2))).symm, HB0.out⟩
  have q2' := inB_iff.1 q2
  have q1' := inB_iff.1 q1
  by_cases q3 : m < (n : Int)
  · go_enter Try.func16, Try.ntmps16
    go_wp2_with (go_at_call 45; refine (l1In_any _ _ _ _).mono ?_; rintro e w1 ⟨rfl, rfl⟩)
    go_returns
    exact ⟨ret_bool (cv_head (.inr (.inr (by rw [HN.out]; exact q3)))).symm, HB0.out⟩
  have Q1 := hid_ q1
  have Q2 := hid_ q2
  go_enter Try.func16, Try.ntmps16
  go_wp2_with (go_at_call 45; refine (l1In_any _ _ _ _).mono ?_; rintro e w1 ⟨rfl, rfl⟩)
  clear q1 q2
  obtain ⟨wb, hwb⟩ : ∃ wb, w.alloc (.cells #[.slice A n c, .int .i64 m] 29) = wb := ⟨_, rfl⟩
  have hbs : w.heap.size < wb.heap.size := by rw [← hwb]; simp
  rw [hwb] at HR HQ0 HB0 ⊢
  clear hwb
  go_loopw [5] (fun v wr => ∃ k : Nat, k ≤ n ∧ v = .int .i64 k ∧ Below wb.heap.size wb wr ∧ ∀ i, i < k → goodL size L i = true) (fun v _ => n - (intOf v).toNat)
  case atStart => exact ⟨0, Nat.zero_le _, rfl, Below.refl _ _, fun i hi => absurd hi (by omega)⟩
  case round =>
    obtain ⟨k, hk, rfl, hb, hid⟩ := hrel
    have HI := hid_ hid; clear hid
    have BBk := hid_ (HB0.out.trans (hb.mono HB0.out.size))
    have y0 : wr.cell? ⟨w.heap.size, 0, none⟩ = some (.slice A n c) := (hb.cell hbs).trans HQ0.out
    by_cases hlt : k < n
    · have hlt' : k < L.length := by rw [HN.out]; exact hlt
      obtain ⟨b, o, rfl, h0, h1, h2⟩ := (HR.out.below hb).ln k hlt HN.out
      cases q1 : inB L[k].at_ 0 (size - 1)
      · go_wp2_with (go_at_call 45; refine (l1In_any _ _ _ _).mono ?_; rintro e w1 ⟨rfl, rfl⟩)
        go_returns
        exact ⟨ret_bool (cv_at hlt' (by rw [goodL_eq size L k hlt', lnOk, q1]; rfl)).symm, BBk.out⟩
      · cases q2 : inB L[k].value 0 255
        · go_wp2_with (go_at_call 45; refine (l1In_any _ _ _ _).mono ?_; rintro e w1 ⟨rfl, rfl⟩)
          go_returns
          exact ⟨ret_bool (cv_at hlt' (by rw [goodL_eq size L k hlt', lnOk, q1, q2]; rfl)).symm, BBk.out⟩
        · go_wp2_with (go_at_call 45; refine (l1In_any _ _ _ _).mono ?_; rintro e w1 ⟨rfl, rfl⟩)
          obtain ⟨wo, hwo⟩ : ∃ wo : World, wo = wr := ⟨_, rfl⟩
          subst hwo
          clear h0 h1 h2
          have Y0 := hid_ y0; clear y0
          have hws := hb.size
          go_loopw [6] (fun v wr => ∃ j : Nat, j ≤ k ∧ v = .int .i64 j ∧ Below wo.heap.size wo wr ∧ ∀ f ∈ L.take j, f.at_ ≠ L[k].at_) (fun v _ => k - (intOf v).toNat)
          case atStart => exact ⟨0, Nat.zero_le _, rfl, Below.refl _ _, fun f hf => by simp at hf⟩
          case round =>
            obtain ⟨j, hj, rfl, hbi, hin⟩ := hrel
            have HJ := hid_ hin; clear hin
            have hbb := hb.trans (hbi.mono hb.size)
            have BBj := hid_ (BBk.out.trans (hbi.mono BBk.out.size))
            have y1 := (hbi.cell (cell_lt Y0.out)).trans Y0.out
            by_cases hjk : j < k
            · obtain ⟨b1, o1, he1, h0, _, _⟩ := (HR.out.below hbb).ln k hlt HN.out
              obtain ⟨b2, o2, he2, g0, _, _⟩ := (HR.out.below hbb).ln j (by omega) HN.out
              injection he1 with he1; injection he1 with hx hy; subst hx; subst hy
              injection he2 with he2; injection he2 with hx hy; subst hx; subst hy
              have hi1 : (j : Int) < (n : Int) := by omega
              have hi2 : (k : Int) < (n : Int) := by omega
              go_wp2
              go_quiet (fail)
              all_goals go_wp2
              all_goals first
                | (go_returns
                   refine ⟨ret_bool (cv_at hlt' ?_).symm, bdN BBj.out _⟩
                   have he : L[j].at_ = L[k].at_ := by simpa using ‹(L[j].at_ == L[k].at_) = true›
                   have hm : ¬ (∀ f ∈ L.take k, f.at_ ≠ L[k].at_) := fun h => h L[j] (List.mem_take_iff_getElem.2 ⟨j, by omega, rfl⟩) he
                   rw [goodL_eq size L k hlt', Bool.and_eq_false_iff]
                   right
                   rw [← lnAt_neg _ _ 0] at hm
                   simpa using hm)
                | (go_roundw
                   case rel =>
                     have he : L[j].at_ ≠ L[k].at_ := by simpa using ‹(L[j].at_ == L[k].at_) = false›
                     refine ⟨j + 1, by omega, by go_num, bdN hbi _, ?_⟩
                     rw [List.take_succ_eq_append_getElem (by omega)]
                     intro f hf
                     rcases List.mem_append.1 hf with hf | hf
                     · exact HJ.out f hf
                     · simp only [List.mem_singleton] at hf; subst hf; exact he
                   case measure => simp [intOf]; omega)
            · go_wp2
              go_roundw
              case rel =>
                refine ⟨k + 1, by omega, by go_num, hbb, fun i hi => ?_⟩
                by_cases e : i = k
                · subst e
                  have hj2 : j = i := by omega
                  subst hj2
                  rw [goodL_eq size L j hlt', lnOk, q1, q2]
                  have := (lnAt_neg L[j].at_ (L.take j) 0).2 HJ.out
                  simpa using this
                · exact HI.out i (by omega)
              case measure => simp [intOf]; omega
    · go_wp2
      go_returns
      refine ⟨ret_bool ?_, BBk.out⟩
      rw [cv_end Q1.out Q2.out (by rw [HN.out]; omega) (fun i hi => HI.out i (by rw [HN.out] at hi; omega))]
end Go.Proofs.Ytejnieoneknbbaa
