/-
  Signals: how many answers a report takes; the reports.
-/
import Derived.Test.YtjgpmihkmobcoaaSgA
namespace Go.Proofs.Ytjgpmihkmobcoaa
open Go.ChangeShapes Go.WideShapes Go.ChangeAt Go.RowKit Go.BigFrame

theorem cntS_is (l : List Int) (k m : Nat) (g wt : Int) (hk : k < l.length) (hm : k + m ≤ l.length) (hg : (m : Int) ≤ g) (hj : ∀ j (_ : k + j < l.length), j < m → l[k + j] ≤ l[k] + wt) (hx : (m : Int) = g ∨ k + m = l.length ∨ ∃ h : k + m < l.length, l[k] + wt < l[k + m]) :
    cntS g wt (l.drop k) = m := by
  unfold cntS
  rw [drop_head l k hk]
  refine cnt_is 0 _ m _ _ (by omega) (by rw [List.length_drop]; omega) (fun j hj' => ?_) ?_
  · rw [List.getElem_drop]; exact hj j (by omega) hj'
  · rcases hx with h | h | ⟨h1, h2⟩
    · left; omega
    · right; left; rw [List.length_drop]; omega
    · right; right; exact ⟨by rw [List.length_drop]; omega, by rw [List.getElem_drop]; exact h2⟩

set_option maxHeartbeats 1000000 in
theorem group_any (l : List Int) (A : Option Addr) (n c k : Nat) (g wt : Int) (w : World) (hn : l.length = n) (hm : n ≤ 4194304) (hk : k < n) (hg : 1 ≤ g ∧ g ≤ 10) (hw : 0 ≤ wt ∧ wt ≤ 100000) (hbd : ∀ i (hi : i < l.length), 0 ≤ l[i] ∧ l[i] ≤ 100000) (hR : Rd w 1 A n (intC l)) :
    Calls Try.prog 31 #[.slice A n c, .int .i64 k, .int .i64 g, .int .i64 wt] w fun e w' => e = .returned (.int .i64 (cntS g wt (l.drop k))) ∧ Below w.heap.size w w' := by
  have HR := hid_ hR; clear hR
  have HN := hid_ hn; clear hn
  have HB := hid_ hbd; clear hbd
  have hkl : k < l.length := by rw [HN.out]; exact hk
  have bk := HB.out k hkl
  go_enter Try.func31, Try.ntmps31
  go_wp2
  go_loopw [9] (fun v wr => ∃ m : Nat, 1 ≤ m ∧ (m : Int) ≤ g ∧ k + m ≤ n ∧ v = .int .i64 m ∧ Below w.heap.size w wr ∧ ∀ j (_ : k + j < l.length), j < m → l[k + j] ≤ l[k] + wt) (fun v _ => n - (intOf v).toNat)
  case atStart => exact ⟨1, by omega, by omega, by omega, rfl, Below.refl _ _, fun j _ hj => by (obtain rfl : j = 0 := by omega); simp; omega⟩
  case round =>
    obtain ⟨m, h1, hmg, hmn, rfl, hb, hid⟩ := hrel
    have HI := hid_ hid; clear hid
    obtain ⟨b, o, rfl, h0⟩ := (HR.out.below hb).int k hk HN.out
    have z0 := fun m : Later wr => m.cell h0
    clear h0
    have fin : (Ending.returned (.int .i64 (m : Int)) = .returned (.int .i64 (cntS g wt (l.drop k)))) ∨ cntS g wt (l.drop k) ≠ m := by
      by_cases e : cntS g wt (l.drop k) = m
      · left; rw [e]
      · right; exact e
    have hdr : ∀ q, wr.drewN q = wr.drewN q := fun _ => rfl
    by_cases hlt : (m : Int) < g
    · by_cases hlt2 : (k : Int) + (m : Int) < (n : Int)
      · have hkm : k + m < l.length := by rw [HN.out]; omega
        obtain ⟨b', o', e', hx⟩ := (HR.out.below hb).int (k + m) (by omega) HN.out
        injection e' with e1
        injection e1 with e2 e3
        subst e2; subst e3
        have z1 := fun m : Later wr => m.cell hx
        clear hx
        have bm := HB.out (k + m) hkm
        have hi : ((k : Int) + (m : Int)).toNat = k + m := by omega
        by_cases htop : l[k + m] ≤ l[k] + wt
        · go_wp2
          (refine wp_region_later (by kernel_rfl) (by kernel_rfl) ?_
           repeat (go_big_quiet_step (fail))
           refine wpQuiet_nil ?_
           rintro _ ⟨nq, rfl⟩
           have hbq := nq.property)
          go_wp2
          go_roundw
          case rel =>
            refine ⟨m + 1, by omega, by omega, by omega, by go_num, hb.trans (hbq.mono hb.size), fun j hj hj2 => ?_⟩
            by_cases e : j = m
            · subst e; exact htop
            · exact HI.out j hj (by omega)
          case measure => simp [intOf] <;> omega
        · go_wp2
          (refine wp_region_later (by kernel_rfl) (by kernel_rfl) ?_
           repeat (go_big_quiet_step (fail))
           refine wpQuiet_nil ?_
           rintro _ ⟨nq, rfl⟩
           have hbq := nq.property)
          go_wp2
          go_returns
          exact ⟨ret_int (by rw [cntS_is l k m g wt hkl (by omega) hmg HI.out (.inr (.inr ⟨hkm, by omega⟩))]), hb.trans (hbq.mono hb.size)⟩
      · have hd : decide ((k : Int) + (m : Int) < (n : Int)) = false := by simp; omega
        go_wp2
        (refine wp_region_later (by kernel_rfl) (by kernel_rfl) ?_
         repeat (go_big_quiet_step (fail))
         refine wpQuiet_nil ?_
         rintro _ ⟨nq, rfl⟩
         have hbq := nq.property)
        go_wp2
        go_returns
        exact ⟨ret_int (by rw [cntS_is l k m g wt hkl (by rw [HN.out]; omega) hmg HI.out (.inr (.inl (by rw [HN.out]; omega)))]), hb.trans (hbq.mono hb.size)⟩
    · have hd : decide ((m : Int) < g) = false := by simp; omega
      go_wp2
      (refine wp_region_later (by kernel_rfl) (by kernel_rfl) ?_
       repeat (go_big_quiet_step (fail))
       refine wpQuiet_nil ?_
       rintro _ ⟨nq, rfl⟩
       have hbq := nq.property)
      go_wp2
      go_returns
      exact ⟨ret_int (by rw [cntS_is l k m g wt hkl (by rw [HN.out]; omega) hmg HI.out (.inl (by omega))]), hb.trans (hbq.mono hb.size)⟩

/-- the time of a report and how many answers it takes -/
def RetTC (w : World) (t : Int) (m : Int) (e : Ending) (w' : World) : Prop := e = .returned (.tuple #[.int .i64 t, .int .i64 m]) ∧ Below w.heap.size w w'
theorem RetTC.mk_ {w w' : World} {t t' m m' : Int} (ht : t = t') (hm : m = m') (h : Below w.heap.size w w') : RetTC w t' m' (.returned (.tuple #[.int .i64 t, .int .i64 m])) w' := by
  subst ht; subst hm; exact ⟨rfl, h⟩

set_option maxHeartbeats 1000000 in
theorem signalAt_any (l : List Int) (A : Option Addr) (n c : Nat) (g wt : Int) (w : World) (hn : l.length = n) (hm : n ≤ 4194304) (hk : 0 < n) (hg : 1 ≤ g ∧ g ≤ 10) (hw : 0 ≤ wt ∧ wt ≤ 100000) (hbd : ∀ i (hi : i < l.length), 0 ≤ l[i] ∧ l[i] ≤ 100000) (hR : Rd w 1 A n (intC l)) :
    Calls Try.prog 33 #[.slice A n c, .int .i64 g, .int .i64 wt] w (RetTC w (repT g wt l) (cntS g wt l)) := by
  have HR := hid_ hR; clear hR
  have HN := hid_ hn; clear hn
  have HB := hid_ hbd; clear hbd
  have hkl : 0 < l.length := by rw [HN.out]; exact hk
  have bk := HB.out 0 hkl
  obtain ⟨b, o, rfl, h0⟩ := HR.out.int 0 hk HN.out
  rw [Nat.add_zero] at h0
  have hk0 : (0 : Int) < (n : Int) := by omega
  have hhd : l.headD 0 = l[0] := by have := drop_head l 0 hkl; simpa using this
  have HH := hid_ hhd; clear hhd
  go_enter Try.func33, Try.ntmps33
  go_wp2
  go_loopw [9] (fun v wr => ∃ m : Nat, (m : Int) ≤ g ∧ m ≤ n ∧ v = .int .i64 m ∧ wr = w ∧ ∀ j (_ : 0 + j < l.length), j < m → l[0 + j] ≤ l[0] + wt) (fun v _ => n - (intOf v).toNat)
  case atStart => exact ⟨0, by omega, by omega, rfl, rfl, fun j _ hj => absurd hj (by omega)⟩
  case round =>
    obtain ⟨m, hmg, hmn, rfl, rfl, hid⟩ := hrel
    have HI := hid_ hid; clear hid
    have fin : (cntS g wt l = m) → ∀ w', Below wr.heap.size wr w' → m = g → ∀ (hx : m - 1 < l.length), RetTC wr (repT g wt l) (cntS g wt l) (.returned (.tuple #[.int .i64 l[m-1], .int .i64 m])) w' := by
      intro e w' hb hg' hx
      refine RetTC.mk_ ?_ (by rw [e]) hb
      unfold repT
      rw [e, if_pos (by omega), List.getD_eq_getElem?_getD, List.getElem?_eq_getElem hx]
      rfl
    have fin2 : (cntS g wt l = m) → ∀ w', Below wr.heap.size wr w' → ¬ m = g → RetTC wr (repT g wt l) (cntS g wt l) (.returned (.tuple #[.int .i64 (l[0] + wt), .int .i64 m])) w' := by
      intro e w' hb hg'
      refine RetTC.mk_ ?_ (by rw [e]) hb
      unfold repT
      rw [e, if_neg (by omega), HH.out]
    have F1 := hid_ fin; clear fin
    have F2 := hid_ fin2; clear fin2
    by_cases hlt2 : (m : Int) < (n : Int)
    · have hkm : m < l.length := by rw [HN.out]; omega
      obtain ⟨b', o', e', hx⟩ := HR.out.int m (by omega) HN.out
      injection e' with e1
      injection e1 with e2 e3
      subst e2; subst e3
      by_cases hlt : (m : Int) < g
      · have bm := HB.out m hkm
        have hgm : ((m : Int) == g) = false := by simp; omega
        by_cases htop : l[m] ≤ l[0] + wt
        · go_wp2
          go_roundw
          case rel =>
            refine ⟨m + 1, by omega, by omega, by go_num, trivial, fun j hj hj2 => ?_⟩
            by_cases e : j = m
            · subst e; simpa using htop
            · exact HI.out j hj (by omega)
          case measure => simp [intOf] <;> omega
        · have hcnt : cntS g wt l = m := by
            have := cntS_is l 0 m g wt hkl (by omega) hmg HI.out (.inr (.inr ⟨by omega, by simpa using htop⟩))
            simpa using this
          have HC := hid_ hcnt; clear hcnt
          go_wp2
          go_returns
          exact F2.out HC.out _ (Below.refl _ _) (by omega)
      · have hgm : (m : Int) = g := by omega
        have hcnt : cntS g wt l = m := by
          have := cntS_is l 0 m g wt hkl (by omega) hmg HI.out (.inl (by omega))
          simpa using this
        have HC := hid_ hcnt; clear hcnt
        obtain ⟨b2, o2, e2, hy⟩ := HR.out.int (m - 1) (by omega) HN.out
        injection e2 with e3
        injection e3 with e4 e5
        subst e4; subst e5
        have hm1 : ((m : Int) - 1).toNat = m - 1 := by omega
        have hgm' : ((m : Int) == g) = true := by simp [hgm]
        have HG := hid_ hgm; clear hgm
        go_wp2
        go_returns
        exact F1.out HC.out _ (Below.refl _ _) HG.out _
    · have hcnt : cntS g wt l = m := by
        have := cntS_is l 0 m g wt hkl (by rw [HN.out]; omega) hmg HI.out (.inr (.inl (by rw [HN.out]; omega)))
        simpa using this
      have HC := hid_ hcnt; clear hcnt
      have hpos : 0 < m := by omega
      have hml : m - 1 < l.length := by rw [HN.out]; omega
      obtain ⟨b2, o2, e2, hy⟩ := HR.out.int (m - 1) (by omega) HN.out
      injection e2 with e3
      injection e3 with e4 e5
      subst e4; subst e5
      have hm1 : ((m : Int) - 1).toNat = m - 1 := by omega
      by_cases hgm : (m : Int) = g
      · have hgm' : ((m : Int) == g) = true := by simp [hgm]
        have HG := hid_ hgm; clear hgm
        go_wp2
        go_returns
        exact F1.out HC.out _ (Below.refl _ _) HG.out _
      · have hgm' : ((m : Int) == g) = false := by simp [hgm]
        go_wp2
        go_returns
        exact F2.out HC.out _ (Below.refl _ _) hgm

set_option maxHeartbeats 1000000 in
theorem are_any (l : List Int) (A : Option Addr) (n c : Nat) (g wt : Int) (w : World) (hn : l.length = n) (hm : n ≤ 4194304) (hc : n ≤ c) (hcm : c ≤ maxLen) (hR : Rd w 1 A n (intC l)) :
    Calls Try.prog 32 #[.slice A n c, .int .i64 g, .int .i64 wt] w fun e w' => e = .returned (.bool (sgOk l g wt)) ∧ Below w.heap.size w w' := by
  have HR := hid_ hR; clear hR
  have HN := hid_ hn; clear hn
  have HC := hid_ hcm; clear hcm
  cases q0 : tvB l
  · go_enter Try.func32, Try.ntmps32
    go_wp2_with (first | (go_at_call 12; refine (implTV_any l A n c _ HN.out (by omega) hc HC.out HR.out).mono ?_; rintro e w1 ⟨rfl, hb1⟩) | (go_at_call 35; refine (iwithin_any _ _ _ _).mono ?_; rintro e w2 ⟨rfl, rfl⟩))
    go_returns
    exact ⟨ret_bool (by unfold sgOk; rw [q0]; rfl), hb1⟩
  · cases q1 : inB g 1 10
    all_goals
      go_enter Try.func32, Try.ntmps32
      go_wp2_with (first | (go_at_call 12; refine (implTV_any l A n c _ HN.out (by omega) hc HC.out HR.out).mono ?_; rintro e w1 ⟨rfl, hb1⟩) | (go_at_call 35; refine (iwithin_any _ _ _ _).mono ?_; rintro e w2 ⟨rfl, rfl⟩))
      go_returns
      exact ⟨ret_bool (by unfold sgOk; rw [q0, q1]; simp), hb1⟩

theorem sgOk_parts {l : List Int} {g wt : Int} (h : sgOk l g wt = true) : tvB l = true ∧ inB g 1 10 = true ∧ inB wt 0 100000 = true := by
  unfold sgOk at h; simp only [Bool.and_eq_true] at h; exact ⟨h.1.1, h.1.2, h.2⟩
theorem sgOk_not {l : List Int} {g wt : Int} (h : sgOk l g wt = false) : tvB l = false ∨ (tvB l = true ∧ inB g 1 10 = false) ∨ (tvB l = true ∧ inB g 1 10 = true ∧ inB wt 0 100000 = false) := by
  unfold sgOk at h
  cases q0 : tvB l <;> cases q1 : inB g 1 10 <;> cases q2 : inB wt 0 100000 <;> simp_all
theorem tvB_bd {l : List Int} (h : tvB l = true) : (∀ i (hi : i < l.length), 0 ≤ l[i] ∧ l[i] ≤ 100000) ∧ l.length ≤ 60 := by
  unfold tvB at h
  simp only [Bool.and_eq_true, decide_eq_true_eq] at h
  exact ⟨fun i hi => allB_get h.1.1 i hi, h.2⟩
end Go.Proofs.Ytjgpmihkmobcoaa
