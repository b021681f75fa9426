/-
  Tags: a tag comes back, as the reference has it; tags held against each other.
-/
import Derived.Test.YtddmakhfdkljfaaTgB
namespace Go.Proofs.Ytddmakhfdkljfaa
open Go.ChangeShapes Go.WideShapes Go.ChangeAt Go.RowKit Go.BigFrame

set_option maxHeartbeats 2000000 in
theorem specRet_any (l : List Bool) (A : Option Addr) (n c : Nat) (t : Int) (w : World) (hn : l.length = n) (hm : n ≤ 1048576) (hR : Rd w 1 A n (boC l)) :
    Calls Try.prog 8 #[.agg #[.slice A n c], .int .i64 t] w (RTg2 w (retL l t) (retB l t)) := by
  have HN := hid_ hn; clear hn
  have HR := hid_ ((hR.alloc (.cells #[.slice A n c] 25)).alloc (.cells #[.slice none 0 0] 25)); clear hR
  have HCS := hid_ (ret_cases l t)
  by_cases h0 : 16 < n
  · have h0' : 16 < l.length := by rw [HN.out]; exact h0
    obtain ⟨_, e1, e2⟩ := HCS.out.resolve_right (by rintro (⟨h, _⟩ | ⟨h, _⟩) <;> exact h h0')
    clear h0'
    have E1 := hid_ e1; have E2 := hid_ e2; clear e1 e2
    have hz : (16 : Int) < (n : Int) := by omega
    go_enter Try.func8, Try.ntmps8
    go_wp2
    refine bodyPost_ret (v := .tuple #[.agg #[.slice none 0 0], .bool false]) (by simp [results, Try.results8, go_sem]) rfl (RTg2.of (xs := []) (World.ownsRow_nil _ _ _ _) ?_ E1.out.symm E2.out.symm)
    go_grown
  · have HC0 := hid_ (HCS.out.resolve_left (by rintro ⟨h, _⟩; rw [HN.out] at h; exact h0 h))
    clear HCS
    have hz : (n : Int) ≤ 16 := by omega
    go_enter Try.func8, Try.ntmps8
    go_wp2_with ((at_builtin; refine wpList_append_rd _ rfl _ _ 23 rfl (w.heap.size + 2) 4 (.bool false) 1 1 Try.underlying23 bo_info rfl (by decide) (by decide) _ _ _ (own_empty_at ((w.alloc (.cells #[.slice A n c] 25)).alloc (.cells #[.slice none 0 0] 25)) 4 1 (w.heap.size + 2) (by simp)) rfl _ _ _ _ (HR.out.alloc _) rfl (boC_one l) (by omega) (by simp) ?_; intro v' w' ho' hg'); have ho := own_eq ho' (show 0 + n = n by omega) (show [] ++ boC l = boC l by simp); clear ho'; obtain ⟨A1, c1, rfl, hc1, hcm1⟩ := own_shape ho; have HO1 := hid_ ho; have HG1 := hid_ hg'; have HC1 := hid_ hcm1; clear ho hg' hcm1)
    have hs1 := HG1.out.size
    simp only [World.size_alloc] at hs1
    have r0 : w'.cell? ⟨w.heap.size + 1, 0, none⟩ = some (.slice none 0 0) := by
      rw [World.cell?_of_block (w := ((w.alloc (.cells #[.slice A n c] 25)).alloc (.cells #[.slice none 0 0] 25)).alloc (.cells #[] 4)) (HG1.out.block _ (by simp) (by simp [Value.ownBlock]))]
      simp [go_sem]
    have f0 : w'.frozen? ⟨w.heap.size + 1, 0, none⟩ = false := by
      rw [World.frozen?_of_block (w := ((w.alloc (.cells #[.slice A n c] 25)).alloc (.cells #[.slice none 0 0] 25)).alloc (.cells #[] 4)) (HG1.out.block _ (by simp) (by simp [Value.ownBlock]))]
      simp [go_sem]
    have hl1 : w.heap.size + 1 < w'.heap.size := by omega
    have HBB := hid_ (below_push ((((Below.refl w.heap.size w).alloc (Nat.le_refl _) (.cells #[.slice A n c] 25)).alloc (by simp) (.cells #[.slice none 0 0] 25)).alloc (by simp; omega) (.cells #[] 4)) (own_base (own_empty_at ((w.alloc (.cells #[.slice A n c] 25)).alloc (.cells #[.slice none 0 0] 25)) 4 1 (w.heap.size + 2) (by simp)) (by omega)) HG1.out (by simp; omega))
    clear HG1
    have hnb : (Value.slice A1 n c1).ownBlock ≠ some (w.heap.size + 1) := fun e => by have := (HO1.out.lt _ e).1; omega
    have HR1 := hid_ (own_rd HO1.out)
    rcases HC0.out with ⟨_, q, e1, e2⟩ | ⟨_, k, hk, ek, q, hh⟩
    · rw [HN.out] at q
      have E1 := hid_ e1; have E2 := hid_ e2; clear e1 e2 HC0
      go_wp2_with (go_at_call 20; refine (l1In_any _ _ _ _).mono ?_; rintro e w2 ⟨rfl, rfl⟩)
      refine bodyPost_ret (v := .tuple #[.agg #[.slice A1 n c1], .bool false]) (by simp [results, Try.results8, go_sem, r0, f0, hl1]) rfl (RTg2.of (xs := l) ?_ ?_ E1.out.symm E2.out.symm)
      · exact own_base ((own_set HO1.out hnb).alloc _) (by omega)
      · exact (HBB.out.setCell (by simp) _).alloc (by simp; omega) _
    · rw [HN.out] at q
      subst ek
      have hkn : k < n := by rw [← HN.out]; exact hk
      obtain ⟨gb, rfl, hB, hgl, hcells, hfz⟩ := own_block HO1.out (by omega)
      have hx := hcells k _ (boC_get l k hk)
      have y0 := hfz k
      clear hcells hfz
      have hne1 : gb ≠ w.heap.size + 1 := by omega
      have hne2 : gb ≠ w'.heap.size := by omega
      have hkz : (k : Int) < (n : Int) := by omega
      rcases hh with ⟨ql, e1, e2⟩ | ⟨ql, e1, e2⟩
      · rw [ql] at hx
        have E1 := hid_ e1; have E2 := hid_ e2; clear e1 e2 ql HC0
        go_wp2_with (go_at_call 20; refine (l1In_any _ _ _ _).mono ?_; rintro e w2 ⟨rfl, rfl⟩)
        refine bodyPost_ret (v := .tuple #[.agg #[.slice (some ⟨gb, 0, none⟩) n c1], .bool false]) (by simp [results, Try.results8, go_sem, r0, f0, hl1]) rfl (RTg2.of (xs := l) ?_ ?_ E1.out.symm E2.out.symm)
        · exact own_base ((own_set HO1.out hnb).alloc _) (by omega)
        · exact (HBB.out.setCell (by simp) _).alloc (by simp; omega) _
      · rw [ql] at hx
        have E1 := hid_ e1; have E2 := hid_ e2; clear e1 e2 ql HC0
        go_wp2_with (go_at_call 20; refine (l1In_any _ _ _ _).mono ?_; rintro e w2 ⟨rfl, rfl⟩)
        refine bodyPost_ret (v := .tuple #[.agg #[.slice (some ⟨gb, 0, none⟩) n c1], .bool true]) (by simp [results, Try.results8, go_sem, r0, f0, hl1]) rfl (RTg2.of (xs := l.set k false) ?_ ?_ E1.out.symm E2.out.symm)
        · have s1 := HO1.out.stored k (.bool false)
          exact own_base ((own_set (own_eq s1.1 rfl (boC_set l k false)) hnb).alloc _) (by omega)
        · exact ((HBB.out.setCell (by simp; omega) _).setCell (by simp) _).alloc (by simp; omega) _

set_option maxHeartbeats 1000000 in
theorem sameTags_any (fl gl : List Bool) (A A' : Option Addr) (n n' c c' : Nat) (w : World) (hn : fl.length = n) (hn' : gl.length = n') (hm : n ≤ 1048576) (hm' : n' ≤ 1048576) (hR : Rd w 1 A n (boC fl)) (hR' : Rd w 1 A' n' (boC gl)) :
    Calls Try.prog 9 #[.agg #[.slice A n c], .agg #[.slice A' n' c']] w fun e w' => e = .returned (.bool (decide (fl = gl))) ∧ Below w.heap.size w w' := by
  have HR := hid_ ((hR.alloc (.cells #[.slice A n c] 25)).alloc (.cells #[.slice A' n' c'] 25)); clear hR
  have HR' := hid_ ((hR'.alloc (.cells #[.slice A n c] 25)).alloc (.cells #[.slice A' n' c'] 25)); clear hR'
  have HN := hid_ hn; clear hn
  have HN' := hid_ hn'; clear hn'
  go_enter Try.func9, Try.ntmps9
  by_cases hnn : n = n'
  · subst hnn
    go_wp2
    obtain ⟨W, hW⟩ : ∃ W, W = (w.alloc (.cells #[.slice A n c] 25)).alloc (.cells #[.slice A' n c'] 25) := ⟨_, rfl⟩
    rw [← hW] at HR HR' ⊢
    have a0 : W.cell? ⟨w.heap.size, 0, none⟩ = some (.slice A n c) := by rw [hW]; simp [go_sem]
    have a1 : W.cell? ⟨w.heap.size + 1, 0, none⟩ = some (.slice A' n c') := by rw [hW]; simp [go_sem]
    have HBB := hid_ (show Below w.heap.size w W by rw [hW]; exact ((Below.refl _ _).alloc (Nat.le_refl _) _).alloc (by simp) _)
    clear hW
    go_loopw [5] (fun v wr => ∃ k : Nat, k ≤ n ∧ v = .int .i64 k ∧ Below W.heap.size W wr ∧ fl.take k = gl.take k) (fun v _ => n - (intOf v).toNat)
    case atStart => exact ⟨0, Nat.zero_le _, rfl, Below.refl _ _, by simp⟩
    case round =>
      obtain ⟨k, hk, rfl, hb, hid⟩ := hrel
      have HI := hid_ hid; clear hid
      have b0 := (hb.cell (cell_lt a0)).trans a0
      have b1 := (hb.cell (cell_lt a1)).trans a1
      by_cases hlt : k < n
      · have hlt' : k < fl.length := by rw [HN.out]; exact hlt
        have hlt2 : k < gl.length := by rw [HN'.out]; exact hlt
        obtain ⟨b, o, rfl, h0⟩ := (HR.out.below hb).bo k hlt HN.out
        obtain ⟨b', o', rfl, h0'⟩ := (HR'.out.below hb).bo k hlt HN'.out
        have hlz : (k : Int) < (n : Int) := by omega
        go_wp2
        go_quiet (fail)
        all_goals go_wp2
        all_goals first
          | (go_returns
             refine ⟨ret_bool ?_, HBB.out.trans ((bdN hb _).mono HBB.out.size)⟩
             have hne : ¬ fl[k] = gl[k] := by simpa using ‹(fl[k] != gl[k]) = true›
             exact (decide_eq_false (fun e => hne (by simp [e]))).symm)
          | (go_roundw
             case rel =>
               have he : fl[k] = gl[k] := by simpa using ‹(fl[k] != gl[k]) = false›
               exact ⟨k + 1, by omega, by go_num, bdN hb _, by rw [List.take_succ_eq_append_getElem hlt', List.take_succ_eq_append_getElem hlt2, HI.out, he]⟩
             case measure => exact meas_ hlt)
      · go_wp2
        go_returns
        refine ⟨ret_bool ?_, HBB.out.trans (hb.mono HBB.out.size)⟩
        have := HI.out
        rw [List.take_of_length_le (by rw [HN.out]; omega), List.take_of_length_le (by rw [HN'.out]; omega)] at this
        simp [this]
  · go_wp2
    go_returns
    refine ⟨ret_bool ?_, by go_grown⟩
    have : fl ≠ gl := fun e => hnn (by rw [← HN.out, ← HN'.out, e])
    simp [this]
end Go.Proofs.Ytddmakhfdkljfaa
