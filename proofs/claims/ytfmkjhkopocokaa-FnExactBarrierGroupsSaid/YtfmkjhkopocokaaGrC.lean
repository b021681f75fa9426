/-
  Slices of slices: marking them, and whether they have kept their marks.
-/
import Derived.Test.YtfmkjhkopocokaaGrB
namespace Go.Proofs.Ytfmkjhkopocokaa
open Go.ChangeShapes Go.WideShapes Go.ChangeAt Go.RowKit Go.BigFrame

theorem OwnGs.at_ {w : World} {B c n : Nat} {A : Option Addr} {gs : List (List Int)} {vs : List Value} (h : OwnGs w B (.slice A n c) gs vs) (hn : gs.length = n) (j : Nat) (hj : j < gs.length) :
    ∃ b o Aj cj, A = some ⟨b, o, none⟩ ∧ w.cell? ⟨b, o + j, none⟩ = some (.slice Aj gs[j].length cj) ∧ (∃ hj' : j < vs.length, vs[j] = .slice Aj gs[j].length cj) ∧ w.ownsRow B 3 1 (.slice Aj gs[j].length cj) gs[j].length (intC gs[j]) := by
  subst hn
  have hj' : j < vs.length := by rw [h.len]; exact hj
  have hi := h.inner j hj hj'
  obtain ⟨Aj, cj, e, h1, h2⟩ := own_shape hi
  obtain ⟨b, o, e2, hc⟩ := (own_rd h.row).2 (by omega)
  rw [e] at hi
  exact ⟨b, o, Aj, cj, e2, hc j _ (by rw [List.getElem?_eq_getElem hj', e]), ⟨hj', e⟩, hi⟩

/-- j rows have been marked -/
def MkAt (w : World) (B : Nat) (v0 : Value) (K : Int) (gs : List (List Int)) (vs : List Value) (q v : Value) (wr : World) : Prop :=
  ∃ (j : Nat) (ys : List (List Int)), j ≤ gs.length ∧ v = .int .i64 j ∧ q = .int .i64 (K + offs gs j) ∧ ys.length = gs.length ∧ OwnGs wr B v0 ys vs ∧ GbRows w wr vs ∧ (∀ i (hi : i < ys.length), ys[i].length = (rowAt gs i).length) ∧ ∀ i (hi : i < ys.length), i < j → ys[i] = marksI (K + offs gs i) (rowAt gs i).length

set_option maxHeartbeats 1000000 in
theorem markIntSS_any (gs : List (List Int)) (vs : List Value) (A : Option Addr) (n c B : Nat) (K : Int) (w : World) (hn : gs.length = n) (hm : n ≤ 12) (hr : ∀ g ∈ gs, g.length ≤ 12) (h0 : 0 ≤ K) (hk : K ≤ 1099511000000) (hR : OwnGs w B (.slice A n c) gs vs) :
    Calls Try.prog 25 #[.slice A n c, .int .i64 K] w fun e w' => e = .returned (.int .i64 (K + offs gs gs.length)) ∧ OwnGs w' B (.slice A n c) (marksG K gs) vs ∧ GbRows w w' vs := by
  have HR := hid_ hR; clear hR
  have HN := hid_ hn; clear hn
  have HOF := hid_ (offs_le gs 12 hr)
  have HRW := hid_ hr; clear hr
  go_enter Try.func25, Try.ntmps25
  go_wp2
  go_loopw [1, 5] (fun q v wr => MkAt w B (.slice A n c) K gs vs q v wr) (fun _ v _ => n - (intOf v).toNat)
  case atStart => exact ⟨0, gs, Nat.zero_le _, rfl, by simp [offs], rfl, HR.out, GbRows.refl _ _, fun i hi => by rw [rowAt_get gs i hi], fun i hi h => absurd h (by omega)⟩
  case round =>
    unfold MkAt at hrel
    obtain ⟨j, ys, hj, rfl, rfl, hyl, ho, hg, hl, hd⟩ := hrel
    have HO := hid_ ho; clear ho
    have HG := hid_ hg; clear hg
    have HL := hid_ hl; clear hl
    have HD := hid_ hd; clear hd
    have HYL := hid_ hyl; clear hyl
    by_cases hlt : j < n
    · have hjy : j < ys.length := by rw [HYL.out, HN.out]; exact hlt
      have hjg : j < gs.length := by rw [HN.out]; exact hlt
      obtain ⟨b, o, Aj, cj, rfl, hcell, ⟨hjv, hve⟩, hin⟩ := HO.out.at_ (HYL.out.trans HN.out) j hjy
      have hle : ys[j].length = gs[j].length := by rw [HL.out j hjy, rowAt_get gs j hjg]
      have hofs := offs_succ gs j hjg
      have hofb := HOF.out j
      have h12 := HRW.out gs[j] (List.getElem_mem _)
      obtain ⟨m, hmj⟩ : ∃ m, gs[j].length = m := ⟨_, rfl⟩
      obtain ⟨F, hF⟩ : ∃ F, offs gs j = F := ⟨_, rfl⟩
      have HLE := hid_ hle; clear hle
      have HVE := hid_ hve; clear hve
      have HIN := hid_ hin; clear hin
      obtain ⟨m', hm'⟩ : ∃ m', ys[j].length = m' := ⟨_, rfl⟩
      rw [hm'] at hcell HIN HVE HLE
      have hmm : m' = m := by rw [HLE.out, hmj]
      subst hmm
      have hm12 : m' ≤ 12 := by rw [← hmj]; exact h12
      rw [hmj] at hofs
      rw [hF] at hofs hofb
      have HOS := hid_ hofs; clear hofs
      have HF := hid_ hF
      have HMJ := hid_ hmj; clear hmj
      have HM' := hid_ hm'; clear hm'
      clear h12 HLE
      go_wp2_with fail
      rw [hF]
      clear hF
      refine (markIntS_any Aj m' cj B (K + (F : Int)) (intC ys[j]) _ (by omega) (by omega) (by omega) HIN.out).mono ?_
      rintro e w2 ⟨rfl, ho2, hg2⟩
      have HO2 := hid_ ho2; clear ho2
      have HG2 := hid_ hg2; clear hg2
      go_wp2
      go_roundw
      case rel =>
        have hmk := HO.out.mark (w' := w2) j hjy hjv (g' := marksI (K + (F : Int)) m') (by rw [marksI_length, HM'.out]) (by rw [HVE.out, HM'.out]; exact HO2.out) (by rw [HVE.out]; exact HG2.out)
        refine ⟨j + 1, ys.set j (marksI (K + (F : Int)) m'), by rw [HN.out]; omega, by go_num, ?_, by rw [List.length_set]; exact HYL.out, hmk, HG.out.step j hjv (by rw [HVE.out]; exact HG2.out), fun i hi => ?_, fun i hi h => ?_⟩
        · congr 1; rw [HOS.out]; omega
        · rw [List.length_set] at hi
          rw [List.getElem_set]
          split
          · rename_i e; subst e; rw [marksI_length, rowAt_get gs _ hjg, HMJ.out]
          · exact HL.out i hi
        · rw [List.length_set] at hi
          rw [List.getElem_set]
          split
          · rename_i e; subst e; rw [rowAt_get gs _ hjg, HMJ.out, HF.out]
          · rename_i e; exact HD.out i hi (by omega)
      case measure => exact meas_ hlt
    · have e : j = gs.length := by have := HN.out; omega
      go_wp2
      go_returns
      refine ⟨ret_int (by rw [e]), ?_, HG.out⟩
      have hys : ys = marksG K gs := by
        apply List.ext_getElem
        · rw [marksG_length]; exact HYL.out
        · intro i h1 h2
          rw [marksG_get K gs i (by rw [← HYL.out]; exact h1), HD.out i h1 (by rw [e, ← HYL.out]; exact h1), rowAt_get gs i (by rw [← HYL.out]; exact h1)]
      rw [← hys]; exact HO.out

set_option maxHeartbeats 1000000 in
theorem heldIntSS_any (gs : List (List Int)) (vs : List Value) (A : Option Addr) (n c B : Nat) (K : Int) (w : World) (hn : gs.length = n) (hm : n ≤ 12) (hr : ∀ g ∈ gs, g.length ≤ 12) (h0 : 0 ≤ K) (hk : K ≤ 1099511000000) (hR : OwnGs w B (.slice A n c) (marksG K gs) vs) :
    Calls Try.prog 26 #[.slice A n c, .int .i64 K] w fun e w' => e = .returned (.int .i64 (K + offs gs gs.length)) ∧ w = w' := by
  have HR := hid_ hR; clear hR
  have HN := hid_ hn; clear hn
  have HOF := hid_ (offs_le gs 12 hr)
  have HRW := hid_ hr; clear hr
  go_enter Try.func26, Try.ntmps26
  go_wp2
  go_loop [1, 5] (fun q v => ∃ j : Nat, j ≤ n ∧ v = .int .i64 j ∧ q = .int .i64 (K + offs gs j)) (fun _ v => n - (intOf v).toNat)
  case atStart => exact ⟨0, Nat.zero_le _, rfl, by simp [offs]⟩
  case round =>
    obtain ⟨j, hj, rfl, rfl⟩ := hrel
    by_cases hlt : j < n
    · have hjg : j < gs.length := by rw [HN.out]; exact hlt
      have hjy : j < (marksG K gs).length := by rw [marksG_length]; exact hjg
      obtain ⟨b, o, Aj, cj, rfl, hcell, _, hin⟩ := HR.out.at_ ((marksG_length K gs).trans HN.out) j hjy
      have hofs := offs_succ gs j hjg
      have hofb := HOF.out j
      have h12 := HRW.out gs[j] (List.getElem_mem _)
      rw [marksG_get K gs j hjg, marksI_length] at hcell hin
      obtain ⟨m, hmj⟩ : ∃ m, gs[j].length = m := ⟨_, rfl⟩
      rw [hmj] at hcell hin hofs h12
      clear hmj
      obtain ⟨F, hF⟩ : ∃ F, offs gs j = F := ⟨_, rfl⟩
      rw [hF] at hofs hofb hin
      have HOS := hid_ hofs; clear hofs
      have HIN := hid_ (own_rd hin); clear hin
      go_wp2_with fail
      try rw [hF]
      clear hF
      refine (heldIntS_any Aj m cj (K + (F : Int)) _ (by omega) (by omega) (by omega) HIN.out).mono ?_
      rintro e w2 ⟨rfl, rfl⟩
      have hnn : ¬ (K + (F : Int) + (m : Int) < 0) := by omega
      go_wp2
      go_round
      case rel => exact ⟨j + 1, by omega, by go_num, by congr 1; rw [HOS.out]; omega⟩
      case measure => exact meas_ hlt
    · have e : j = gs.length := by have := HN.out; omega
      go_wp2
      go_returns
      exact ⟨ret_int (by first | rfl | rw [e]), rfl⟩
end Go.Proofs.Ytfmkjhkopocokaa
