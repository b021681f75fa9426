/-
  The library's stable sort, walked: the merge in place, whole.
-/
import Derived.Test.YtfelfopcmkeimaaScD
namespace Go.Proofs.Ytfelfopcmkeimaa
open Go.ChangeShapes Go.WideShapes Go.ChangeAt Go.RowKit Go.BigFrame

theorem Rot.triv (X : List Int) {s m e : Nat} (h : s ≤ m ∧ m ≤ e ∧ (s = m ∨ m = e)) : Rot X X s m e :=
  ⟨rfl, fun p => by
    unfold rotT
    split
    · rfl
    · split
      · congr 1; omega
      · congr 1; omega, List.Perm.refl _⟩
theorem srt_half {l : List Rq} {Y : List Int} {a s mid : Nat} (h1 : Srt l Y a s) (h2 : Srt l Y s mid) (h : s ≤ a ∨ mid ≤ s) : Srt l Y a mid := by
  intro i j i1 i2 i3
  rcases h with h | h
  · exact h2 i j (by omega) i2 i3
  · exact h1 i j i1 i2 (by omega)
def SrchM (l : List Rq) (B g n c s0 r0 q : Nat) (X : List Int) (w0 : World) (vi vj : Value) (wr : World) : Prop :=
  ∃ s r : Nat, vi = .int .i64 s ∧ vj = .int .i64 r ∧ s0 ≤ s ∧ s ≤ r ∧ r ≤ r0 ∧ Row wr B g n c X ∧ w0.grownBy wr (some g) ∧ (s = s0 ∨ lx l (gd X (s - 1)) (gd X (q - s))) ∧ (r = r0 ∨ lx l (gd X (q - 1 - r)) (gd X r))
theorem mcut {l : List Rq} {X : List Int} {a m b mid q s0 r0 s : Nat} (h1 : a < m) (h2 : m < b) (h3 : mid = (a + b) / 2) (hq : mid + m = q) (h0 : (mid < m ∧ s0 + b = q ∧ r0 = mid) ∨ (m ≤ mid ∧ s0 = a ∧ r0 = m)) (hs0 : s0 ≤ s) (hr0 : s ≤ r0)
    (hlo : s = s0 ∨ lx l (gd X (s - 1)) (gd X (q - s))) (hhi : s = r0 ∨ lx l (gd X (q - 1 - s)) (gd X s)) : MCut l X a m b mid s (q - s) := by
  refine ⟨by omega, by omega, by omega, by omega, by omega, ?_, ?_⟩
  · rcases hlo with h | h
    · rcases h0 with h0 | h0
      · right; left; omega
      · left; omega
    · exact .inr (.inr h)
  · rcases hhi with h | h
    · rcases h0 with h0 | h0
      · right; left; omega
      · left; omega
    · refine .inr (.inr ?_)
      rwa [show q - s - 1 = q - 1 - s by omega]

set_option maxHeartbeats 8000000 in
set_option maxRecDepth 100000 in
theorem symMerge_any (l : List Rq) (B g n c lb : Nat) (w0 : World) (hC : CmpOk l g n lb w0) (hn : n ≤ 1000) : ∀ (sz a m b : Nat) (X : List Int) (w : World), b - a ≤ sz → a < m → m < b → b ≤ n → w0.grownBy w (some g) → Row w B g n c X → Ix X n → MPre l X a m b →
    Calls Try.prog 70 #[.slice (some ⟨g, 0, none⟩) n c, .int .i64 a, .int .i64 m, .int .i64 b, .func (.func 59) #[] #[.pointer (some ⟨lb, 0, none⟩)]] w (SortAns l B g n c a b X w0) := by
  intro sz
  induction sz with
  | zero => intro a m b X w h1 h2 h3; omega
  | succ sz ih =>
    intro a m b X w hsz ham hmb hbn h0 ho hv hp
    by_cases e1 : m = a + 1
    · subst e1
      rw [show ((a + 1 : Nat) : Int) = (a : Int) + 1 by omega]
      exact merge1_any l B g n c lb a b X w0 w hC h0 ho hv hmb hbn hn hp
    by_cases e2 : b = m + 1
    · subst e2
      rw [show ((m + 1 : Nat) : Int) = (m : Int) + 1 by omega]
      exact merge2_any l B g n c lb a m X w0 w hC h0 ho hv (by omega) hbn hn hp
    have IH := hid_ ih; clear ih
    have HC := hid_ hC; clear hC
    have H0 := hid_ h0; clear h0
    have HO0 := hid_ ho; clear ho
    have HV := hid_ hv; clear hv
    have HP := hid_ hp; clear hp
    have z1 : ((m : Int) - (a : Int) == 1) = false := by rw [beq_eq_false_iff_ne]; omega
    have z2 : ((b : Int) - (m : Int) == 1) = false := by rw [beq_eq_false_iff_ne]; omega
    clear e1 e2
    obtain ⟨mid, hmid⟩ : ∃ mid, mid = (a + b) / 2 := ⟨_, rfl⟩
    have hm1 : a < mid := by omega
    have hm2 : mid < b := by omega
    obtain ⟨q, hq⟩ : ∃ q, mid + m = q := ⟨_, rfl⟩
    obtain ⟨p, hp1⟩ : ∃ p, q = p + 1 := ⟨q - 1, by omega⟩
    have r1 : ((a : Int) + (b : Int)) / 2 = (mid : Int) := by omega
    have r2 : (mid : Int) + (m : Int) = (q : Int) := by omega
    have r3 : (q : Int) - 1 = (p : Int) := by omega
    obtain ⟨s0, r0, h0⟩ : ∃ s0 r0 : Nat, (mid < m ∧ s0 + b = q ∧ r0 = mid) ∨ (m ≤ mid ∧ s0 = a ∧ r0 = m) := by
      by_cases h : mid < m
      · exact ⟨q - b, mid, .inl ⟨h, by omega, rfl⟩⟩
      · exact ⟨a, m, .inr ⟨by omega, rfl, rfl⟩⟩
    have HMC := hid_ (fun s => mcut (l := l) (X := X) (s := s) ham hmb hmid hq h0)
    have HQ := hid_ hq
    have HP1 := hid_ hp1
    have HMID := hid_ hmid
    have b1 : a ≤ s0 := by omega
    have b2 : s0 ≤ r0 := by omega
    have b3 : r0 ≤ mid := by omega
    have b4 : r0 ≤ m := by omega
    have b5 : mid + m - b ≤ s0 := by omega
    have b6 : mid + m ≤ q := by omega
    have b7 : q ≤ mid + m := by omega
    have b8 : q ≤ p + 1 := by omega
    have b9 : p + 1 ≤ q := by omega
    have H0c := hid_ h0
    clear hmid hq hp1
    have key : (mid < m ∧ s0 + b = q ∧ r0 = mid) ∨ (m ≤ mid ∧ s0 = a ∧ r0 = m) := h0
    clear h0 b1 b2 b3 b4 b5
    rcases key with ⟨k1, k2, k4⟩ | ⟨k1, k2, k4⟩
    · obtain rfl : mid = r0 := k4.symm
      have k3 : (q : Int) - (b : Int) = (s0 : Int) := by omega
      have b1 : a ≤ s0 := by omega
      have b2 : s0 ≤ mid := by omega
      clear k2
      go_enter Try.func70, Try.ntmps70
      go_wp2
      go_loopw [20, 21] (fun vi vj wr => SrchM l B g n c s0 mid q X w0 vi vj wr) (fun vi vj _ => (intOf vj).toNat - (intOf vi).toNat)
      case atStart => unfold SrchM; exact ⟨s0, mid, rfl, rfl, by omega, by omega, by omega, HO0.out, H0.out, .inl rfl, .inl rfl⟩
      case round =>
        clear HO0 H0
        unfold SrchM at hrel
        obtain ⟨s, r, rfl, rfl, hs0, hsr, hr0, ho, hg, hlo, hhi⟩ := hrel
        have HLO := hid_ hlo; clear hlo
        have HHI := hid_ hhi; clear hhi
        have HO := hid_ ho; clear ho
        have HG := hid_ hg; clear hg
        by_cases hlt : s < r
        · obtain ⟨h, hh⟩ : ∃ h, (s + r) / 2 = h := ⟨_, rfl⟩
          have h1 : s ≤ h := by omega
          have h2 : h < r := by omega
          have hdiv : ((s : Int) + (r : Int)) / 2 = (h : Int) := by omega
          have hltz : (s : Int) < (r : Int) := by omega
          obtain ⟨d, hd⟩ : ∃ d, p - h = d := ⟨_, rfl⟩
          have hdz : (p : Int) - (h : Int) = (d : Int) := by omega
          have hdn : d < b := by omega
          have hdm : m ≤ d := by omega
          have hhm : h < m := by omega
          have hha : a ≤ h := by omega
          have hhn : (h : Int) < (n : Int) := by omega
          have han : (d : Int) < (n : Int) := by omega
          have HD := hid_ (show q - (h + 1) = d ∧ q - 1 - h = d by omega)
          clear hd hh
          obtain ⟨ch, _⟩ := HO.out.cell h (by omega)
          obtain ⟨ca, _⟩ := HO.out.cell d (by omega)
          have hxh := HV.out.2 h (by omega)
          have hxa := HV.out.2 d (by omega)
          have HCR := hid_ (HP.out.cross h d hha hhm hdm hdn)
          obtain ⟨kv, hk, hc⟩ := cmp_at HC.out HG.out hxa hxh
          have HKV := hid_ hk; have hc := hid_ hc; clear hk
          obtain ⟨xh, hxh'⟩ : ∃ x, gd X h = x := ⟨_, rfl⟩
          obtain ⟨xa, hxa'⟩ : ∃ x, gd X d = x := ⟨_, rfl⟩
          rw [hxh'] at ch hxh hc HKV HCR
          rw [hxa'] at ca hxa hc HKV HCR
          have HXH := hid_ hxh'; clear hxh'
          have HXA := hid_ hxa'; clear hxa'
          by_cases hlv : kv < 0
          · have HN := hid_ (dec_t HKV.out hlv)
            have hnd := nd_t hlv
            go_wp2_with fail
            go_quiet ((go_at_call 59; exact Calls.quiet_of (hc.out _)))
            go_wp2
            go_roundw
            case rel => unfold SrchM; exact ⟨s, h, rfl, rfl, hs0, h1, by omega, HO.out.drewN nq, gb_drewN HG.out nq, HLO.out, .inr (by rw [HD.out.2, HXH.out, HXA.out]; exact .inl HN.out)⟩
            case measure => simp only [intOf]; omega
          · have HN := hid_ (dec_f HKV.out hlv)
            have hnd := nd_f hlv
            go_wp2_with fail
            go_quiet ((go_at_call 59; exact Calls.quiet_of (hc.out _)))
            go_wp2
            go_roundw
            case rel => unfold SrchM; exact ⟨h + 1, r, by go_num, rfl, by omega, by omega, hr0, HO.out.drewN nq, gb_drewN HG.out nq, .inr (by rw [Nat.add_sub_cancel, HD.out.1, HXH.out, HXA.out]; have h1 := HN.out; have h2 := HCR.out; unfold lx; omega), HHI.out⟩
            case measure => simp only [intOf]; omega
        · obtain rfl : s = r := by omega
          have hlt0 : ¬ ((s : Int) < (s : Int)) := by omega
          have HCUT := HMC.out s hs0 hr0 HLO.out HHI.out
          clear HMC H0c
          have u1 := HCUT.as_
          have u2 := HCUT.sm
          have u3 := HCUT.me
          have u4 := HCUT.eb
          obtain ⟨e, he⟩ : ∃ e, q - s = e := ⟨_, rfl⟩
          rw [he] at HCUT u3 u4
          have HCUT := hid_ HCUT
          have he1 : (q : Int) - (s : Int) = (e : Int) := by omega
          have he2 : s + e ≤ q := by omega
          have he3 : q ≤ s + e := by omega
          have HE := hid_ he; clear he
          by_cases w1 : s < m
          · by_cases w2 : m < e
            · have w1z : (s : Int) < (m : Int) := by omega
              have w2z : (m : Int) < (e : Int) := by omega
              have w3 : s < mid := by omega
              have w4 : mid < e := by omega
              have w3z : (s : Int) < (mid : Int) := by omega
              have w4z : (mid : Int) < (e : Int) := by omega
              by_cases w5 : a < s
              · have w5z : (a : Int) < (s : Int) := by omega
                by_cases w6 : e < b
                · have w6z : (e : Int) < (b : Int) := by omega
                  go_wp2_with fail
                  refine (rotate_any B g n c s m e X _ w0 _ HG.out HO.out (by omega) (by omega) (by omega) hn).mono ?_
                  rintro e1 w1 ⟨rfl, Y, ho1, hg1, hr1⟩
                  have HO1 := hid_ ho1; clear ho1
                  have HG1 := hid_ hg1; clear hg1
                  have HR1 := hid_ hr1; clear hr1
                  have HX1 := hid_ (HV.out.kept (HR1.out.kept (by omega) (by omega)) (by omega))
                  have CR := hid_ (cut_rot HP.out HCUT.out HR1.out)
                  have MP1 := hid_ (show MPre l Y a s mid from ⟨CR.out.1, CR.out.2.1, CR.out.2.2.2.2.1⟩)
                  go_wp2_with fail
                  refine (IH.out a s mid Y _ (by omega) (by omega) (by omega) (by omega) HG1.out HO1.out HX1.out MP1.out).mono ?_
                  rintro e1 w_1 ⟨rfl, Z, ho_1, hg_1, hk_1, hs_1⟩
                  have HOn1 := hid_ ho_1; clear ho_1
                  have HGn1 := hid_ hg_1; clear hg_1
                  have HKn1 := hid_ hk_1; clear hk_1
                  have HSn1 := hid_ hs_1; clear hs_1
                  have HX2 := hid_ (HX1.out.kept HKn1.out (by omega))
                  have HO2 := HOn1
                  have HG2 := HGn1
                  have MP2 := hid_ (show MPre l Z mid e b from ⟨HKn1.out.srt CR.out.2.2.1 (by omega), HKn1.out.srt CR.out.2.2.2.1 (by omega), fun i j h1 h2 h3 h4 => by rw [HKn1.out.out i (by omega), HKn1.out.out j (by omega)]; exact CR.out.2.2.2.2.2.1 i j h1 h2 h3 h4⟩)
                  go_wp2_with fail
                  refine (IH.out mid e b Z _ (by omega) (by omega) (by omega) (by omega) HG2.out HO2.out HX2.out MP2.out).mono ?_
                  rintro e2 w_2 ⟨rfl, V, ho_2, hg_2, hk_2, hs_2⟩
                  have HOn2 := hid_ ho_2; clear ho_2
                  have HGn2 := hid_ hg_2; clear hg_2
                  have HKn2 := hid_ hk_2; clear hk_2
                  have HSn2 := hid_ hs_2; clear hs_2
                  have HEND := hid_ (merge_join (by omega) (by omega) CR.out.2.2.2.2.2.2 HKn1.out HSn1.out HKn2.out HSn2.out)
                  go_wp2
                  go_returns
                  exact ⟨rfl, V, HOn2.out, HGn2.out, ((HR1.out.kept (by omega) (by omega)).wider (by omega) (by omega)).trans HEND.out.1, HEND.out.2⟩
                · have w6z : ¬ ((e : Int) < (b : Int)) := by omega
                  go_wp2_with fail
                  refine (rotate_any B g n c s m e X _ w0 _ HG.out HO.out (by omega) (by omega) (by omega) hn).mono ?_
                  rintro e1 w1 ⟨rfl, Y, ho1, hg1, hr1⟩
                  have HO1 := hid_ ho1; clear ho1
                  have HG1 := hid_ hg1; clear hg1
                  have HR1 := hid_ hr1; clear hr1
                  have HX1 := hid_ (HV.out.kept (HR1.out.kept (by omega) (by omega)) (by omega))
                  have CR := hid_ (cut_rot HP.out HCUT.out HR1.out)
                  have MP1 := hid_ (show MPre l Y a s mid from ⟨CR.out.1, CR.out.2.1, CR.out.2.2.2.2.1⟩)
                  go_wp2_with fail
                  refine (IH.out a s mid Y _ (by omega) (by omega) (by omega) (by omega) HG1.out HO1.out HX1.out MP1.out).mono ?_
                  rintro e1 w_1 ⟨rfl, Z, ho_1, hg_1, hk_1, hs_1⟩
                  have HOn1 := hid_ ho_1; clear ho_1
                  have HGn1 := hid_ hg_1; clear hg_1
                  have HKn1 := hid_ hk_1; clear hk_1
                  have HSn1 := hid_ hs_1; clear hs_1
                  have HX2 := hid_ (HX1.out.kept HKn1.out (by omega))
                  have HO2 := HOn1
                  have HG2 := HGn1
                  obtain ⟨V, HOn2, HGn2, HKn2, HSn2⟩ : ∃ V, Hid (Row _ B g n c V) ∧ Hid (w0.grownBy _ (some g)) ∧ Hid (Kept Z V mid b) ∧ Hid (Srt l V mid b) := ⟨Z, HO2, HG2, Kept.refl _ _ _, srt_half (HKn1.out.srt CR.out.2.2.1 (by omega)) (HKn1.out.srt CR.out.2.2.2.1 (by omega)) (by omega)⟩
                  have HEND := hid_ (merge_join (by omega) (by omega) CR.out.2.2.2.2.2.2 HKn1.out HSn1.out HKn2.out HSn2.out)
                  go_wp2
                  go_returns
                  exact ⟨rfl, V, HOn2.out, HGn2.out, ((HR1.out.kept (by omega) (by omega)).wider (by omega) (by omega)).trans HEND.out.1, HEND.out.2⟩
              · have w5z : ¬ ((a : Int) < (s : Int)) := by omega
                by_cases w6 : e < b
                · have w6z : (e : Int) < (b : Int) := by omega
                  go_wp2_with fail
                  refine (rotate_any B g n c s m e X _ w0 _ HG.out HO.out (by omega) (by omega) (by omega) hn).mono ?_
                  rintro e1 w1 ⟨rfl, Y, ho1, hg1, hr1⟩
                  have HO1 := hid_ ho1; clear ho1
                  have HG1 := hid_ hg1; clear hg1
                  have HR1 := hid_ hr1; clear hr1
                  have HX1 := hid_ (HV.out.kept (HR1.out.kept (by omega) (by omega)) (by omega))
                  have CR := hid_ (cut_rot HP.out HCUT.out HR1.out)
                  obtain ⟨Z, HOn1, HGn1, HKn1, HSn1⟩ : ∃ Z, Hid (Row _ B g n c Z) ∧ Hid (w0.grownBy _ (some g)) ∧ Hid (Kept Y Z a mid) ∧ Hid (Srt l Z a mid) := ⟨Y, HO1, HG1, Kept.refl _ _ _, srt_half CR.out.1 CR.out.2.1 (by omega)⟩
                  have HX2 := hid_ (HX1.out.kept HKn1.out (by omega))
                  have HO2 := HOn1
                  have HG2 := HGn1
                  have MP2 := hid_ (show MPre l Z mid e b from ⟨HKn1.out.srt CR.out.2.2.1 (by omega), HKn1.out.srt CR.out.2.2.2.1 (by omega), fun i j h1 h2 h3 h4 => by rw [HKn1.out.out i (by omega), HKn1.out.out j (by omega)]; exact CR.out.2.2.2.2.2.1 i j h1 h2 h3 h4⟩)
                  go_wp2_with fail
                  refine (IH.out mid e b Z _ (by omega) (by omega) (by omega) (by omega) HG2.out HO2.out HX2.out MP2.out).mono ?_
                  rintro e2 w_2 ⟨rfl, V, ho_2, hg_2, hk_2, hs_2⟩
                  have HOn2 := hid_ ho_2; clear ho_2
                  have HGn2 := hid_ hg_2; clear hg_2
                  have HKn2 := hid_ hk_2; clear hk_2
                  have HSn2 := hid_ hs_2; clear hs_2
                  have HEND := hid_ (merge_join (by omega) (by omega) CR.out.2.2.2.2.2.2 HKn1.out HSn1.out HKn2.out HSn2.out)
                  go_wp2
                  go_returns
                  exact ⟨rfl, V, HOn2.out, HGn2.out, ((HR1.out.kept (by omega) (by omega)).wider (by omega) (by omega)).trans HEND.out.1, HEND.out.2⟩
                · have w6z : ¬ ((e : Int) < (b : Int)) := by omega
                  go_wp2_with fail
                  refine (rotate_any B g n c s m e X _ w0 _ HG.out HO.out (by omega) (by omega) (by omega) hn).mono ?_
                  rintro e1 w1 ⟨rfl, Y, ho1, hg1, hr1⟩
                  have HO1 := hid_ ho1; clear ho1
                  have HG1 := hid_ hg1; clear hg1
                  have HR1 := hid_ hr1; clear hr1
                  have HX1 := hid_ (HV.out.kept (HR1.out.kept (by omega) (by omega)) (by omega))
                  have CR := hid_ (cut_rot HP.out HCUT.out HR1.out)
                  obtain ⟨Z, HOn1, HGn1, HKn1, HSn1⟩ : ∃ Z, Hid (Row _ B g n c Z) ∧ Hid (w0.grownBy _ (some g)) ∧ Hid (Kept Y Z a mid) ∧ Hid (Srt l Z a mid) := ⟨Y, HO1, HG1, Kept.refl _ _ _, srt_half CR.out.1 CR.out.2.1 (by omega)⟩
                  have HX2 := hid_ (HX1.out.kept HKn1.out (by omega))
                  have HO2 := HOn1
                  have HG2 := HGn1
                  obtain ⟨V, HOn2, HGn2, HKn2, HSn2⟩ : ∃ V, Hid (Row _ B g n c V) ∧ Hid (w0.grownBy _ (some g)) ∧ Hid (Kept Z V mid b) ∧ Hid (Srt l V mid b) := ⟨Z, HO2, HG2, Kept.refl _ _ _, srt_half (HKn1.out.srt CR.out.2.2.1 (by omega)) (HKn1.out.srt CR.out.2.2.2.1 (by omega)) (by omega)⟩
                  have HEND := hid_ (merge_join (by omega) (by omega) CR.out.2.2.2.2.2.2 HKn1.out HSn1.out HKn2.out HSn2.out)
                  go_wp2
                  go_returns
                  exact ⟨rfl, V, HOn2.out, HGn2.out, ((HR1.out.kept (by omega) (by omega)).wider (by omega) (by omega)).trans HEND.out.1, HEND.out.2⟩
            · have w1z : (s : Int) < (m : Int) := by omega
              have w2z : ¬ ((m : Int) < (e : Int)) := by omega
              have w3z : ¬ ((s : Int) < (mid : Int)) := by omega
              have w5z : (a : Int) < (s : Int) := by omega
              have w4z : (mid : Int) < (e : Int) := by omega
              have w6z : (e : Int) < (b : Int) := by omega
              obtain ⟨Y, HO1, HG1, HR1⟩ : ∃ Y, Hid (Row wr B g n c Y) ∧ Hid (w0.grownBy wr (some g)) ∧ Hid (Rot X Y s m e) := ⟨X, HO, HG, Rot.triv X (by omega)⟩
              have HX1 := hid_ (HV.out.kept (HR1.out.kept (by omega) (by omega)) (by omega))
              have CR := hid_ (cut_rot HP.out HCUT.out HR1.out)
              obtain ⟨Z, HOn1, HGn1, HKn1, HSn1⟩ : ∃ Z, Hid (Row _ B g n c Z) ∧ Hid (w0.grownBy _ (some g)) ∧ Hid (Kept Y Z a mid) ∧ Hid (Srt l Z a mid) := ⟨Y, HO1, HG1, Kept.refl _ _ _, srt_half CR.out.1 CR.out.2.1 (by omega)⟩
              have HX2 := hid_ (HX1.out.kept HKn1.out (by omega))
              have HO2 := HOn1
              have HG2 := HGn1
              have MP2 := hid_ (show MPre l Z mid e b from ⟨HKn1.out.srt CR.out.2.2.1 (by omega), HKn1.out.srt CR.out.2.2.2.1 (by omega), fun i j h1 h2 h3 h4 => by rw [HKn1.out.out i (by omega), HKn1.out.out j (by omega)]; exact CR.out.2.2.2.2.2.1 i j h1 h2 h3 h4⟩)
              go_wp2_with fail
              refine (IH.out mid e b Z _ (by omega) (by omega) (by omega) (by omega) HG2.out HO2.out HX2.out MP2.out).mono ?_
              rintro e2 w_2 ⟨rfl, V, ho_2, hg_2, hk_2, hs_2⟩
              have HOn2 := hid_ ho_2; clear ho_2
              have HGn2 := hid_ hg_2; clear hg_2
              have HKn2 := hid_ hk_2; clear hk_2
              have HSn2 := hid_ hs_2; clear hs_2
              have HEND := hid_ (merge_join (by omega) (by omega) CR.out.2.2.2.2.2.2 HKn1.out HSn1.out HKn2.out HSn2.out)
              go_wp2
              go_returns
              exact ⟨rfl, V, HOn2.out, HGn2.out, ((HR1.out.kept (by omega) (by omega)).wider (by omega) (by omega)).trans HEND.out.1, HEND.out.2⟩
          · exfalso; omega
    · obtain rfl : a = s0 := k2.symm
      obtain rfl : m = r0 := k4.symm
      go_enter Try.func70, Try.ntmps70
      go_wp2
      go_loopw [20, 21] (fun vi vj wr => SrchM l B g n c a m q X w0 vi vj wr) (fun vi vj _ => (intOf vj).toNat - (intOf vi).toNat)
      case atStart => unfold SrchM; exact ⟨a, m, rfl, rfl, by omega, by omega, by omega, HO0.out, H0.out, .inl rfl, .inl rfl⟩
      case round =>
        clear HO0 H0
        unfold SrchM at hrel
        obtain ⟨s, r, rfl, rfl, hs0, hsr, hr0, ho, hg, hlo, hhi⟩ := hrel
        have HLO := hid_ hlo; clear hlo
        have HHI := hid_ hhi; clear hhi
        have HO := hid_ ho; clear ho
        have HG := hid_ hg; clear hg
        by_cases hlt : s < r
        · obtain ⟨h, hh⟩ : ∃ h, (s + r) / 2 = h := ⟨_, rfl⟩
          have h1 : s ≤ h := by omega
          have h2 : h < r := by omega
          have hdiv : ((s : Int) + (r : Int)) / 2 = (h : Int) := by omega
          have hltz : (s : Int) < (r : Int) := by omega
          obtain ⟨d, hd⟩ : ∃ d, p - h = d := ⟨_, rfl⟩
          have hdz : (p : Int) - (h : Int) = (d : Int) := by omega
          have hdn : d < b := by omega
          have hdm : m ≤ d := by omega
          have hhm : h < m := by omega
          have hha : a ≤ h := by omega
          have hhn : (h : Int) < (n : Int) := by omega
          have han : (d : Int) < (n : Int) := by omega
          have HD := hid_ (show q - (h + 1) = d ∧ q - 1 - h = d by omega)
          clear hd hh
          obtain ⟨ch, _⟩ := HO.out.cell h (by omega)
          obtain ⟨ca, _⟩ := HO.out.cell d (by omega)
          have hxh := HV.out.2 h (by omega)
          have hxa := HV.out.2 d (by omega)
          have HCR := hid_ (HP.out.cross h d hha hhm hdm hdn)
          obtain ⟨kv, hk, hc⟩ := cmp_at HC.out HG.out hxa hxh
          have HKV := hid_ hk; have hc := hid_ hc; clear hk
          obtain ⟨xh, hxh'⟩ : ∃ x, gd X h = x := ⟨_, rfl⟩
          obtain ⟨xa, hxa'⟩ : ∃ x, gd X d = x := ⟨_, rfl⟩
          rw [hxh'] at ch hxh hc HKV HCR
          rw [hxa'] at ca hxa hc HKV HCR
          have HXH := hid_ hxh'; clear hxh'
          have HXA := hid_ hxa'; clear hxa'
          by_cases hlv : kv < 0
          · have HN := hid_ (dec_t HKV.out hlv)
            have hnd := nd_t hlv
            go_wp2_with fail
            go_quiet ((go_at_call 59; exact Calls.quiet_of (hc.out _)))
            go_wp2
            go_roundw
            case rel => unfold SrchM; exact ⟨s, h, rfl, rfl, hs0, h1, by omega, HO.out.drewN nq, gb_drewN HG.out nq, HLO.out, .inr (by rw [HD.out.2, HXH.out, HXA.out]; exact .inl HN.out)⟩
            case measure => simp only [intOf]; omega
          · have HN := hid_ (dec_f HKV.out hlv)
            have hnd := nd_f hlv
            go_wp2_with fail
            go_quiet ((go_at_call 59; exact Calls.quiet_of (hc.out _)))
            go_wp2
            go_roundw
            case rel => unfold SrchM; exact ⟨h + 1, r, by go_num, rfl, by omega, by omega, hr0, HO.out.drewN nq, gb_drewN HG.out nq, .inr (by rw [Nat.add_sub_cancel, HD.out.1, HXH.out, HXA.out]; have h1 := HN.out; have h2 := HCR.out; unfold lx; omega), HHI.out⟩
            case measure => simp only [intOf]; omega
        · obtain rfl : s = r := by omega
          have hlt0 : ¬ ((s : Int) < (s : Int)) := by omega
          have HCUT := HMC.out s hs0 hr0 HLO.out HHI.out
          clear HMC H0c
          have u1 := HCUT.as_
          have u2 := HCUT.sm
          have u3 := HCUT.me
          have u4 := HCUT.eb
          obtain ⟨e, he⟩ : ∃ e, q - s = e := ⟨_, rfl⟩
          rw [he] at HCUT u3 u4
          have HCUT := hid_ HCUT
          have he1 : (q : Int) - (s : Int) = (e : Int) := by omega
          have he2 : s + e ≤ q := by omega
          have he3 : q ≤ s + e := by omega
          have HE := hid_ he; clear he
          by_cases w1 : s < m
          · by_cases w2 : m < e
            · have w1z : (s : Int) < (m : Int) := by omega
              have w2z : (m : Int) < (e : Int) := by omega
              have w3 : s < mid := by omega
              have w4 : mid < e := by omega
              have w3z : (s : Int) < (mid : Int) := by omega
              have w4z : (mid : Int) < (e : Int) := by omega
              by_cases w5 : a < s
              · have w5z : (a : Int) < (s : Int) := by omega
                by_cases w6 : e < b
                · have w6z : (e : Int) < (b : Int) := by omega
                  go_wp2_with fail
                  refine (rotate_any B g n c s m e X _ w0 _ HG.out HO.out (by omega) (by omega) (by omega) hn).mono ?_
                  rintro e1 w1 ⟨rfl, Y, ho1, hg1, hr1⟩
                  have HO1 := hid_ ho1; clear ho1
                  have HG1 := hid_ hg1; clear hg1
                  have HR1 := hid_ hr1; clear hr1
                  have HX1 := hid_ (HV.out.kept (HR1.out.kept (by omega) (by omega)) (by omega))
                  have CR := hid_ (cut_rot HP.out HCUT.out HR1.out)
                  have MP1 := hid_ (show MPre l Y a s mid from ⟨CR.out.1, CR.out.2.1, CR.out.2.2.2.2.1⟩)
                  go_wp2_with fail
                  refine (IH.out a s mid Y _ (by omega) (by omega) (by omega) (by omega) HG1.out HO1.out HX1.out MP1.out).mono ?_
                  rintro e1 w_1 ⟨rfl, Z, ho_1, hg_1, hk_1, hs_1⟩
                  have HOn1 := hid_ ho_1; clear ho_1
                  have HGn1 := hid_ hg_1; clear hg_1
                  have HKn1 := hid_ hk_1; clear hk_1
                  have HSn1 := hid_ hs_1; clear hs_1
                  have HX2 := hid_ (HX1.out.kept HKn1.out (by omega))
                  have HO2 := HOn1
                  have HG2 := HGn1
                  have MP2 := hid_ (show MPre l Z mid e b from ⟨HKn1.out.srt CR.out.2.2.1 (by omega), HKn1.out.srt CR.out.2.2.2.1 (by omega), fun i j h1 h2 h3 h4 => by rw [HKn1.out.out i (by omega), HKn1.out.out j (by omega)]; exact CR.out.2.2.2.2.2.1 i j h1 h2 h3 h4⟩)
                  go_wp2_with fail
                  refine (IH.out mid e b Z _ (by omega) (by omega) (by omega) (by omega) HG2.out HO2.out HX2.out MP2.out).mono ?_
                  rintro e2 w_2 ⟨rfl, V, ho_2, hg_2, hk_2, hs_2⟩
                  have HOn2 := hid_ ho_2; clear ho_2
                  have HGn2 := hid_ hg_2; clear hg_2
                  have HKn2 := hid_ hk_2; clear hk_2
                  have HSn2 := hid_ hs_2; clear hs_2
                  have HEND := hid_ (merge_join (by omega) (by omega) CR.out.2.2.2.2.2.2 HKn1.out HSn1.out HKn2.out HSn2.out)
                  go_wp2
                  go_returns
                  exact ⟨rfl, V, HOn2.out, HGn2.out, ((HR1.out.kept (by omega) (by omega)).wider (by omega) (by omega)).trans HEND.out.1, HEND.out.2⟩
                · have w6z : ¬ ((e : Int) < (b : Int)) := by omega
                  go_wp2_with fail
                  refine (rotate_any B g n c s m e X _ w0 _ HG.out HO.out (by omega) (by omega) (by omega) hn).mono ?_
                  rintro e1 w1 ⟨rfl, Y, ho1, hg1, hr1⟩
                  have HO1 := hid_ ho1; clear ho1
                  have HG1 := hid_ hg1; clear hg1
                  have HR1 := hid_ hr1; clear hr1
                  have HX1 := hid_ (HV.out.kept (HR1.out.kept (by omega) (by omega)) (by omega))
                  have CR := hid_ (cut_rot HP.out HCUT.out HR1.out)
                  have MP1 := hid_ (show MPre l Y a s mid from ⟨CR.out.1, CR.out.2.1, CR.out.2.2.2.2.1⟩)
                  go_wp2_with fail
                  refine (IH.out a s mid Y _ (by omega) (by omega) (by omega) (by omega) HG1.out HO1.out HX1.out MP1.out).mono ?_
                  rintro e1 w_1 ⟨rfl, Z, ho_1, hg_1, hk_1, hs_1⟩
                  have HOn1 := hid_ ho_1; clear ho_1
                  have HGn1 := hid_ hg_1; clear hg_1
                  have HKn1 := hid_ hk_1; clear hk_1
                  have HSn1 := hid_ hs_1; clear hs_1
                  have HX2 := hid_ (HX1.out.kept HKn1.out (by omega))
                  have HO2 := HOn1
                  have HG2 := HGn1
                  obtain ⟨V, HOn2, HGn2, HKn2, HSn2⟩ : ∃ V, Hid (Row _ B g n c V) ∧ Hid (w0.grownBy _ (some g)) ∧ Hid (Kept Z V mid b) ∧ Hid (Srt l V mid b) := ⟨Z, HO2, HG2, Kept.refl _ _ _, srt_half (HKn1.out.srt CR.out.2.2.1 (by omega)) (HKn1.out.srt CR.out.2.2.2.1 (by omega)) (by omega)⟩
                  have HEND := hid_ (merge_join (by omega) (by omega) CR.out.2.2.2.2.2.2 HKn1.out HSn1.out HKn2.out HSn2.out)
                  go_wp2
                  go_returns
                  exact ⟨rfl, V, HOn2.out, HGn2.out, ((HR1.out.kept (by omega) (by omega)).wider (by omega) (by omega)).trans HEND.out.1, HEND.out.2⟩
              · have w5z : ¬ ((a : Int) < (s : Int)) := by omega
                by_cases w6 : e < b
                · have w6z : (e : Int) < (b : Int) := by omega
                  go_wp2_with fail
                  refine (rotate_any B g n c s m e X _ w0 _ HG.out HO.out (by omega) (by omega) (by omega) hn).mono ?_
                  rintro e1 w1 ⟨rfl, Y, ho1, hg1, hr1⟩
                  have HO1 := hid_ ho1; clear ho1
                  have HG1 := hid_ hg1; clear hg1
                  have HR1 := hid_ hr1; clear hr1
                  have HX1 := hid_ (HV.out.kept (HR1.out.kept (by omega) (by omega)) (by omega))
                  have CR := hid_ (cut_rot HP.out HCUT.out HR1.out)
                  obtain ⟨Z, HOn1, HGn1, HKn1, HSn1⟩ : ∃ Z, Hid (Row _ B g n c Z) ∧ Hid (w0.grownBy _ (some g)) ∧ Hid (Kept Y Z a mid) ∧ Hid (Srt l Z a mid) := ⟨Y, HO1, HG1, Kept.refl _ _ _, srt_half CR.out.1 CR.out.2.1 (by omega)⟩
                  have HX2 := hid_ (HX1.out.kept HKn1.out (by omega))
                  have HO2 := HOn1
                  have HG2 := HGn1
                  have MP2 := hid_ (show MPre l Z mid e b from ⟨HKn1.out.srt CR.out.2.2.1 (by omega), HKn1.out.srt CR.out.2.2.2.1 (by omega), fun i j h1 h2 h3 h4 => by rw [HKn1.out.out i (by omega), HKn1.out.out j (by omega)]; exact CR.out.2.2.2.2.2.1 i j h1 h2 h3 h4⟩)
                  go_wp2_with fail
                  refine (IH.out mid e b Z _ (by omega) (by omega) (by omega) (by omega) HG2.out HO2.out HX2.out MP2.out).mono ?_
                  rintro e2 w_2 ⟨rfl, V, ho_2, hg_2, hk_2, hs_2⟩
                  have HOn2 := hid_ ho_2; clear ho_2
                  have HGn2 := hid_ hg_2; clear hg_2
                  have HKn2 := hid_ hk_2; clear hk_2
                  have HSn2 := hid_ hs_2; clear hs_2
                  have HEND := hid_ (merge_join (by omega) (by omega) CR.out.2.2.2.2.2.2 HKn1.out HSn1.out HKn2.out HSn2.out)
                  go_wp2
                  go_returns
                  exact ⟨rfl, V, HOn2.out, HGn2.out, ((HR1.out.kept (by omega) (by omega)).wider (by omega) (by omega)).trans HEND.out.1, HEND.out.2⟩
                · have w6z : ¬ ((e : Int) < (b : Int)) := by omega
                  go_wp2_with fail
                  refine (rotate_any B g n c s m e X _ w0 _ HG.out HO.out (by omega) (by omega) (by omega) hn).mono ?_
                  rintro e1 w1 ⟨rfl, Y, ho1, hg1, hr1⟩
                  have HO1 := hid_ ho1; clear ho1
                  have HG1 := hid_ hg1; clear hg1
                  have HR1 := hid_ hr1; clear hr1
                  have HX1 := hid_ (HV.out.kept (HR1.out.kept (by omega) (by omega)) (by omega))
                  have CR := hid_ (cut_rot HP.out HCUT.out HR1.out)
                  obtain ⟨Z, HOn1, HGn1, HKn1, HSn1⟩ : ∃ Z, Hid (Row _ B g n c Z) ∧ Hid (w0.grownBy _ (some g)) ∧ Hid (Kept Y Z a mid) ∧ Hid (Srt l Z a mid) := ⟨Y, HO1, HG1, Kept.refl _ _ _, srt_half CR.out.1 CR.out.2.1 (by omega)⟩
                  have HX2 := hid_ (HX1.out.kept HKn1.out (by omega))
                  have HO2 := HOn1
                  have HG2 := HGn1
                  obtain ⟨V, HOn2, HGn2, HKn2, HSn2⟩ : ∃ V, Hid (Row _ B g n c V) ∧ Hid (w0.grownBy _ (some g)) ∧ Hid (Kept Z V mid b) ∧ Hid (Srt l V mid b) := ⟨Z, HO2, HG2, Kept.refl _ _ _, srt_half (HKn1.out.srt CR.out.2.2.1 (by omega)) (HKn1.out.srt CR.out.2.2.2.1 (by omega)) (by omega)⟩
                  have HEND := hid_ (merge_join (by omega) (by omega) CR.out.2.2.2.2.2.2 HKn1.out HSn1.out HKn2.out HSn2.out)
                  go_wp2
                  go_returns
                  exact ⟨rfl, V, HOn2.out, HGn2.out, ((HR1.out.kept (by omega) (by omega)).wider (by omega) (by omega)).trans HEND.out.1, HEND.out.2⟩
            · have w1z : (s : Int) < (m : Int) := by omega
              have w2z : ¬ ((m : Int) < (e : Int)) := by omega
              have w3z : ¬ ((s : Int) < (mid : Int)) := by omega
              have w5z : (a : Int) < (s : Int) := by omega
              have w4z : (mid : Int) < (e : Int) := by omega
              have w6z : (e : Int) < (b : Int) := by omega
              obtain ⟨Y, HO1, HG1, HR1⟩ : ∃ Y, Hid (Row wr B g n c Y) ∧ Hid (w0.grownBy wr (some g)) ∧ Hid (Rot X Y s m e) := ⟨X, HO, HG, Rot.triv X (by omega)⟩
              have HX1 := hid_ (HV.out.kept (HR1.out.kept (by omega) (by omega)) (by omega))
              have CR := hid_ (cut_rot HP.out HCUT.out HR1.out)
              obtain ⟨Z, HOn1, HGn1, HKn1, HSn1⟩ : ∃ Z, Hid (Row _ B g n c Z) ∧ Hid (w0.grownBy _ (some g)) ∧ Hid (Kept Y Z a mid) ∧ Hid (Srt l Z a mid) := ⟨Y, HO1, HG1, Kept.refl _ _ _, srt_half CR.out.1 CR.out.2.1 (by omega)⟩
              have HX2 := hid_ (HX1.out.kept HKn1.out (by omega))
              have HO2 := HOn1
              have HG2 := HGn1
              have MP2 := hid_ (show MPre l Z mid e b from ⟨HKn1.out.srt CR.out.2.2.1 (by omega), HKn1.out.srt CR.out.2.2.2.1 (by omega), fun i j h1 h2 h3 h4 => by rw [HKn1.out.out i (by omega), HKn1.out.out j (by omega)]; exact CR.out.2.2.2.2.2.1 i j h1 h2 h3 h4⟩)
              go_wp2_with fail
              refine (IH.out mid e b Z _ (by omega) (by omega) (by omega) (by omega) HG2.out HO2.out HX2.out MP2.out).mono ?_
              rintro e2 w_2 ⟨rfl, V, ho_2, hg_2, hk_2, hs_2⟩
              have HOn2 := hid_ ho_2; clear ho_2
              have HGn2 := hid_ hg_2; clear hg_2
              have HKn2 := hid_ hk_2; clear hk_2
              have HSn2 := hid_ hs_2; clear hs_2
              have HEND := hid_ (merge_join (by omega) (by omega) CR.out.2.2.2.2.2.2 HKn1.out HSn1.out HKn2.out HSn2.out)
              go_wp2
              go_returns
              exact ⟨rfl, V, HOn2.out, HGn2.out, ((HR1.out.kept (by omega) (by omega)).wider (by omega) (by omega)).trans HEND.out.1, HEND.out.2⟩
          · have w1z : ¬ ((s : Int) < (m : Int)) := by omega
            have w4z : ¬ ((mid : Int) < (e : Int)) := by omega
            have w5z : (a : Int) < (s : Int) := by omega
            by_cases w3 : s < mid
            · have w3z : (s : Int) < (mid : Int) := by omega
              obtain ⟨Y, HO1, HG1, HR1⟩ : ∃ Y, Hid (Row wr B g n c Y) ∧ Hid (w0.grownBy wr (some g)) ∧ Hid (Rot X Y s m e) := ⟨X, HO, HG, Rot.triv X (by omega)⟩
              have HX1 := hid_ (HV.out.kept (HR1.out.kept (by omega) (by omega)) (by omega))
              have CR := hid_ (cut_rot HP.out HCUT.out HR1.out)
              have MP1 := hid_ (show MPre l Y a s mid from ⟨CR.out.1, CR.out.2.1, CR.out.2.2.2.2.1⟩)
              go_wp2_with fail
              refine (IH.out a s mid Y _ (by omega) (by omega) (by omega) (by omega) HG1.out HO1.out HX1.out MP1.out).mono ?_
              rintro e1 w_1 ⟨rfl, Z, ho_1, hg_1, hk_1, hs_1⟩
              have HOn1 := hid_ ho_1; clear ho_1
              have HGn1 := hid_ hg_1; clear hg_1
              have HKn1 := hid_ hk_1; clear hk_1
              have HSn1 := hid_ hs_1; clear hs_1
              have HX2 := hid_ (HX1.out.kept HKn1.out (by omega))
              have HO2 := HOn1
              have HG2 := HGn1
              obtain ⟨V, HOn2, HGn2, HKn2, HSn2⟩ : ∃ V, Hid (Row _ B g n c V) ∧ Hid (w0.grownBy _ (some g)) ∧ Hid (Kept Z V mid b) ∧ Hid (Srt l V mid b) := ⟨Z, HO2, HG2, Kept.refl _ _ _, srt_half (HKn1.out.srt CR.out.2.2.1 (by omega)) (HKn1.out.srt CR.out.2.2.2.1 (by omega)) (by omega)⟩
              have HEND := hid_ (merge_join (by omega) (by omega) CR.out.2.2.2.2.2.2 HKn1.out HSn1.out HKn2.out HSn2.out)
              go_wp2
              go_returns
              exact ⟨rfl, V, HOn2.out, HGn2.out, ((HR1.out.kept (by omega) (by omega)).wider (by omega) (by omega)).trans HEND.out.1, HEND.out.2⟩
            · have w3z : ¬ ((s : Int) < (mid : Int)) := by omega
              obtain ⟨Y, HO1, HG1, HR1⟩ : ∃ Y, Hid (Row wr B g n c Y) ∧ Hid (w0.grownBy wr (some g)) ∧ Hid (Rot X Y s m e) := ⟨X, HO, HG, Rot.triv X (by omega)⟩
              have HX1 := hid_ (HV.out.kept (HR1.out.kept (by omega) (by omega)) (by omega))
              have CR := hid_ (cut_rot HP.out HCUT.out HR1.out)
              obtain ⟨Z, HOn1, HGn1, HKn1, HSn1⟩ : ∃ Z, Hid (Row _ B g n c Z) ∧ Hid (w0.grownBy _ (some g)) ∧ Hid (Kept Y Z a mid) ∧ Hid (Srt l Z a mid) := ⟨Y, HO1, HG1, Kept.refl _ _ _, srt_half CR.out.1 CR.out.2.1 (by omega)⟩
              have HX2 := hid_ (HX1.out.kept HKn1.out (by omega))
              have HO2 := HOn1
              have HG2 := HGn1
              obtain ⟨V, HOn2, HGn2, HKn2, HSn2⟩ : ∃ V, Hid (Row _ B g n c V) ∧ Hid (w0.grownBy _ (some g)) ∧ Hid (Kept Z V mid b) ∧ Hid (Srt l V mid b) := ⟨Z, HO2, HG2, Kept.refl _ _ _, srt_half (HKn1.out.srt CR.out.2.2.1 (by omega)) (HKn1.out.srt CR.out.2.2.2.1 (by omega)) (by omega)⟩
              have HEND := hid_ (merge_join (by omega) (by omega) CR.out.2.2.2.2.2.2 HKn1.out HSn1.out HKn2.out HSn2.out)
              go_wp2
              go_returns
              exact ⟨rfl, V, HOn2.out, HGn2.out, ((HR1.out.kept (by omega) (by omega)).wider (by omega) (by omega)).trans HEND.out.1, HEND.out.2⟩
end Go.Proofs.Ytfelfopcmkeimaa
