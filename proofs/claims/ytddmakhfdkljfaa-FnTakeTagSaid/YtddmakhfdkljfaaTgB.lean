/-
  Tags: a tag comes back.
-/
import Derived.Test.YtddmakhfdkljfaaTgA
namespace Go.Proofs.Ytddmakhfdkljfaa
open Go.ChangeShapes Go.WideShapes Go.ChangeAt Go.RowKit Go.BigFrame

theorem ret_cases (l : List Bool) (t : Int) : (16 < l.length ∧ retL l t = [] ∧ retB l t = false) ∨ (¬ 16 < l.length ∧ inB t 0 ((l.length : Int) - 1) = false ∧ retL l t = l ∧ retB l t = false) ∨
    (¬ 16 < l.length ∧ ∃ k : Nat, ∃ hk : k < l.length, t = (k : Int) ∧ inB t 0 ((l.length : Int) - 1) = true ∧ ((l[k] = false ∧ retL l t = l ∧ retB l t = false) ∨ (l[k] = true ∧ retL l t = l.set k false ∧ retB l t = true))) := by
  by_cases h : 16 < l.length
  · left; exact ⟨h, by unfold retL; rw [if_pos h], by unfold retB; simp [h]⟩
  · right
    cases q : inB t 0 ((l.length : Int) - 1)
    · left
      have e : retB l t = false := by unfold retB; rw [q]; simp
      exact ⟨h, rfl, by unfold retL; rw [if_neg h, e]; rfl, e⟩
    · right
      have hb := inB_iff.1 q
      obtain ⟨k, rfl⟩ := Int.eq_ofNat_of_zero_le hb.1
      have hk : k < l.length := by omega
      have hg : l.getD (k : Int).toNat false = l[k] := by simp [hk]
      refine ⟨h, k, hk, rfl, rfl, ?_⟩
      cases q2 : l[k]
      · left
        have e : retB l k = false := by unfold retB; rw [hg, q2]; simp
        exact ⟨rfl, by unfold retL; rw [if_neg h, e]; rfl, e⟩
      · right
        have e : retB l k = true := by unfold retB; rw [hg, q2, q]; simp [h]
        exact ⟨rfl, by unfold retL; rw [if_neg h, e]; simp, e⟩

set_option maxHeartbeats 2000000 in
theorem implRet_any (l : List Bool) (A : Option Addr) (n c : Nat) (t : Int) (w : World) (hn : l.length = n) (hm : n ≤ 1048576) (hR : Rd w 1 A n (boC l)) :
    Calls Try.prog 7 #[.agg #[.slice A n c], .int .i64 t] w (RTg2 w (retL l t) (retB l t)) := by
  have HN := hid_ hn; clear hn
  have HR := hid_ ((hR.alloc (.cells #[.slice A n c] 25)).alloc (.cells #[.slice none 0 0] 25)); clear hR
  have HCS := hid_ (ret_cases l t)
  by_cases h0 : 16 < n
  · have h0' : 16 < l.length := by rw [HN.out]; exact h0
    obtain ⟨_, e1, e2⟩ := HCS.out.resolve_right (by rintro (⟨h, _⟩ | ⟨h, _⟩) <;> exact h h0')
    clear h0'
    have E1 := hid_ e1; have E2 := hid_ e2; clear e1 e2
    have hz : (16 : Int) < (n : Int) := by omega
    go_enter Try.func7, Try.ntmps7
    go_wp2
    refine bodyPost_ret (v := .tuple #[.agg #[.slice none 0 0], .bool false]) (by simp [results, Try.results7, go_sem]) rfl (RTg2.of (xs := []) (World.ownsRow_nil _ _ _ _) ?_ E1.out.symm E2.out.symm)
    go_grown
  · have HC0 := hid_ (HCS.out.resolve_left (by rintro ⟨h, _⟩; rw [HN.out] at h; exact h0 h))
    clear HCS
    have hz : (n : Int) ≤ 16 := by omega
    go_enter Try.func7, Try.ntmps7
    go_wp2_with fail
    refine (clone_any l A n c _ HN.out (by omega) HR.out).mono ?_
    rintro e w1 ⟨A1, c1, rfl, hc1, hcm1, ho1, hb1⟩
    have HC1 := hid_ hcm1; clear hcm1
    have HO1 := hid_ ho1; clear ho1
    obtain ⟨hcw, hfw⟩ := bcell hb1
    have hs1 := hb1.size
    simp only [World.size_alloc] at hs1
    have r0 : w1.cell? ⟨w.heap.size + 1, 0, none⟩ = some (.slice none 0 0) := by rw [hcw _ _ (by simp)]; simp [go_sem]
    have f0 : w1.frozen? ⟨w.heap.size + 1, 0, none⟩ = false := by rw [hfw _ _ (by simp)]; simp [go_sem]
    have a0 : w1.cell? ⟨w.heap.size, 0, none⟩ = some (.slice A n c) := by rw [hcw _ _ (by simp; omega)]; simp [go_sem]
    have hl1 : w.heap.size + 1 < w1.heap.size := by omega
    have hl0 : w.heap.size < w1.heap.size := by omega
    clear hcw hfw
    have HBB := hid_ (((((Below.refl w.heap.size w).alloc (Nat.le_refl _) (.cells #[.slice A n c] 25)).alloc (by simp) (.cells #[.slice none 0 0] 25)).trans (hb1.mono (by simp; omega))))
    have HR1 := hid_ (HR.out.below hb1)
    clear hb1
    have hnb : (Value.slice A1 n c1).ownBlock ≠ some (w.heap.size + 1) := fun e => by have := (HO1.out.lt _ e).1; simp only [World.size_alloc] at this; omega
    have hbase : ∀ g, (Value.slice A1 n c1).ownBlock = some g → w.heap.size + 2 ≤ g := fun g e => by have := (HO1.out.lt _ e).1; simp only [World.size_alloc] at this; omega
    rcases HC0.out with ⟨_, q, e1, e2⟩ | ⟨_, k, hk, ek, q, hh⟩
    · rw [HN.out] at q
      have E1 := hid_ e1; have E2 := hid_ e2; clear e1 e2 HC0
      go_wp2_with (go_at_call 19; refine (tiwithin_any _ _ _ _).mono ?_; rintro e w2 ⟨rfl, rfl⟩)
      refine bodyPost_ret (v := .tuple #[.agg #[.slice A1 n c1], .bool false]) (by simp [results, Try.results7, go_sem, r0, f0, hl1]) rfl (RTg2.of (xs := l) ?_ ?_ E1.out.symm E2.out.symm)
      · exact own_base ((own_set HO1.out hnb).alloc _) (by simp; omega)
      · exact (HBB.out.setCell (by simp) _).alloc (by simp; omega) _
    · rw [HN.out] at q
      subst ek
      have hkn : k < n := by rw [← HN.out]; exact hk
      obtain ⟨b, o, rfl, hx⟩ := HR1.out.bo k hkn HN.out
      have hlb := cell_lt hx
      simp only at hlb
      have hkz : (k : Int) < (n : Int) := by omega
      rcases hh with ⟨ql, e1, e2⟩ | ⟨ql, e1, e2⟩
      · rw [ql] at hx
        have E1 := hid_ e1; have E2 := hid_ e2; clear e1 e2 ql HC0
        go_wp2_with (go_at_call 19; refine (tiwithin_any _ _ _ _).mono ?_; rintro e w2 ⟨rfl, rfl⟩)
        refine bodyPost_ret (v := .tuple #[.agg #[.slice A1 n c1], .bool false]) (by simp [results, Try.results7, go_sem, r0, f0, hl1]) rfl (RTg2.of (xs := l) ?_ ?_ E1.out.symm E2.out.symm)
        · exact own_base ((own_set HO1.out hnb).alloc _) (by simp; omega)
        · exact (HBB.out.setCell (by simp) _).alloc (by simp; omega) _
      · rw [ql] at hx
        have E1 := hid_ e1; have E2 := hid_ e2; clear e1 e2 ql HC0
        obtain ⟨gb, rfl, hB, hgl, _, _⟩ := own_block HO1.out (by omega)
        simp only [World.size_alloc] at hB
        obtain ⟨v0, c0, y0⟩ := own_store HO1.out k (by omega)
        have hne1 : gb ≠ w.heap.size + 1 := by omega
        have hne2 : gb ≠ w1.heap.size := by omega
        go_wp2_with (go_at_call 19; refine (tiwithin_any _ _ _ _).mono ?_; rintro e w2 ⟨rfl, rfl⟩)
        refine bodyPost_ret (v := .tuple #[.agg #[.slice (some ⟨gb, 0, none⟩) n c1], .bool true]) (by simp [results, Try.results7, go_sem, r0, f0, hl1]) rfl (RTg2.of (xs := l.set k false) ?_ ?_ E1.out.symm E2.out.symm)
        · have s1 := HO1.out.stored k (.bool false)
          exact own_base ((own_set (own_eq s1.1 rfl (boC_set l k false)) hnb).alloc _) (by simp; omega)
        · exact ((HBB.out.setCell (by simp; omega) _).setCell (by simp) _).alloc (by simp; omega) _
end Go.Proofs.Ytddmakhfdkljfaa
