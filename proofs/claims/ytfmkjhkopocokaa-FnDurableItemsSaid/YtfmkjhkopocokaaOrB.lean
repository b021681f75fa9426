/-
  Orders: as the reference tells them.
-/
import Derived.Test.YtfmkjhkopocokaaOrA
namespace Go.Proofs.Ytfmkjhkopocokaa
open Go.ChangeShapes Go.WideShapes Go.ChangeAt Go.RowKit Go.BigFrame

/-- slices of truth values -/
def boC (l : List Bool) : List Value := l.map Value.bool
theorem boC_length (l : List Bool) : (boC l).length = l.length := by simp [boC]
theorem boC_set (l : List Bool) (k : Nat) (b : Bool) : (boC l).set k (.bool b) = boC (l.set k b) := by simp [boC, List.map_set]
theorem boC_get (l : List Bool) (i : Nat) (hi : i < l.length) : (boC l)[i]? = some (.bool l[i]) := by simp [boC, hi]
theorem boC_rep (n : Nat) : List.replicate n (Value.bool false) = boC (List.replicate n false) := by simp [boC]
theorem made_rep (n : Nat) : (madeCells (Value.bool false).cells (n * 1)).toList = List.replicate n (Value.bool false) := by
  simp only [madeCells, Value.cells, Nat.mul_one]
  apply List.ext_getElem
  · simp
  · intro i h1 h2
    simp [Nat.mod_one]
theorem bo_info : (Try.prog.info? 4).map (fun i => (i.zero, i.size, i.bytes)) = some (some (.bool false), 1, 1) := by kernel_rfl

/-- the marks of the numbers that the first k of the order name -/
def Seen (o : List Int) (n k : Nat) (s : List Bool) : Prop := s.length = n ∧ ∀ i (hi : i < s.length), s[i] = true ↔ (i : Int) ∈ o.take k
theorem Seen.start (o : List Int) (n : Nat) : Seen o n 0 (List.replicate n false) := ⟨by simp, fun i hi => by simp⟩
theorem take_succ_mem {o : List Int} {k : Nat} (hk : k < o.length) (x : Int) : x ∈ o.take (k + 1) ↔ x ∈ o.take k ∨ x = o[k] := by
  rw [← List.take_append_getElem hk, List.mem_append, List.mem_singleton]
theorem Seen.next {o : List Int} {n k y : Nat} {s : List Bool} (h : Seen o n k s) (hk : k < o.length) (hy : o[k] = (y : Int)) : Seen o n (k + 1) (s.set y true) := by
  refine ⟨by rw [List.length_set]; exact h.1, fun i hi => ?_⟩
  rw [List.length_set] at hi
  rw [take_succ_mem hk, hy, List.getElem_set]
  split
  · rename_i e; subst e; simp
  · rename_i e
    rw [h.2 i hi]
    constructor
    · exact fun h => Or.inl h
    · rintro (h | h)
      · exact h
      · exact absurd (by omega : y = i) e
theorem Seen.get {o : List Int} {n k y : Nat} {s : List Bool} (h : Seen o n k s) (hk : k < o.length) (hy : o[k] = (y : Int)) (hyn : y < n) : s[y]'(by rw [h.1]; exact hyn) = decide (o[k] ∈ o.take k) := by
  rw [Bool.eq_iff_iff, h.2 y (by rw [h.1]; exact hyn), hy]; simp

set_option maxHeartbeats 2000000 in
theorem specOrd_any (o : List Int) (A : Option Addr) (n c m : Nat) (w : World) (hn : o.length = n) (hm : n ≤ 1048576) (hR : Rd w 1 A n (intC o)) :
    Calls Try.prog 44 #[.slice A n c, .int .i64 m] w fun e w' => e = .returned (.bool (isOrd m o)) ∧ Below w.heap.size w w' := by
  have HR := hid_ hR; clear hR
  have HN := hid_ hn; clear hn
  by_cases hs : n = m
  · subst hs
    have hD := hid_ (show isOrd n o = (allB o 0 ((n : Int) - 1) && decide o.Nodup) by unfold isOrd; rw [HN.out]; simp)
    obtain ⟨i0, hi, hz0, hz1, hz2⟩ := info_parts bo_info
    go_enter Try.func44, Try.ntmps44
    go_wp2_with (at_make; refine wpList_make_full _ rfl _ _ 67 rfl w.heap.size 4 i0 _ 1 Try.underlying67 hi hz0 hz1 .i64 .i64 _ _ n rfl rfl rfl rfl (by rw [hz2]; omega) (by simp only [maxLen]; omega) (by simp) ?_; intro w1 ho1 hg1)
    have HO1 := hid_ ho1; clear ho1
    have HB1 := hid_ (below_of_gb (B := w.heap.size) hg1 (by simp) (fun _ h => by cases h))
    clear hg1
    clear hi hz0 hz1 hz2
    go_loopw [6] (fun v wr => ∃ (k : Nat) (s : List Bool), k ≤ n ∧ v = .int .i64 k ∧ wr.ownsRow w.heap.size 4 1 (.slice (some ⟨w.heap.size, 0, none⟩) n n) n (boC s) ∧ Below w.heap.size w wr ∧ Seen o n k s ∧ ∀ i (hi' : i < o.length), i < k → (0 ≤ o[i] ∧ o[i] ≤ (n : Int) - 1) ∧ o[i] ∉ o.take i) (fun v _ => n - (intOf v).toNat)
    case atStart => exact ⟨0, _, Nat.zero_le _, rfl, by rw [← boC_rep, ← made_rep]; exact HO1.out, HB1.out, Seen.start o n, fun i _ h => absurd h (by omega)⟩
    case round =>
      obtain ⟨k, s, hk, rfl, ho, hb, hse, hid⟩ := hrel
      have HO := hid_ ho; clear ho
      have HB := hid_ hb; clear hb
      have HS := hid_ hse; clear hse
      have HI := hid_ hid; clear hid
      by_cases hlt : k < n
      · have hlt' : k < o.length := by rw [HN.out]; exact hlt
        obtain ⟨b, ob, rfl, h0⟩ := (HR.out.below HB.out).int k hlt HN.out
        obtain ⟨x, hx⟩ : ∃ x, o[k] = x := ⟨_, rfl⟩
        rw [hx] at h0
        have HX := hid_ hx; clear hx
        cases q : inB x 0 ((n : Int) - 1)
        · go_wp2_with (go_at_call 47; refine (l1In_any _ _ _ _).mono ?_; rintro e w1 ⟨rfl, rfl⟩)
          go_returns
          exact ⟨ret_bool (hD.out.trans (by rw [allB_at hlt' (by rw [HX.out]; exact q)]; rfl)).symm, HB.out⟩
        · have hbd := inB_iff.1 q
          obtain ⟨y, rfl⟩ := Int.eq_ofNat_of_zero_le hbd.1
          have hyn : y < n := by omega
          have hyz : (y : Int) < (n : Int) := by omega
          have hgl := (own_base_lt HO.out).2
          obtain ⟨v0, c0, f0⟩ := own_store HO.out y (by omega)
          have hsl := HS.out.1
          have hg := HS.out.get hlt' HX.out hyn
          have hv := (own_rd HO.out).2 (by omega)
          obtain ⟨b', o', e', hcc⟩ := hv
          injection e' with e'
          injection e' with e1 e2
          subst e1; subst e2
          have hv0 := hcc y _ (boC_get s y (by rw [hsl]; exact hyn))
          rw [Nat.zero_add] at hv0
          clear hcc
          rw [hg, HX.out] at hv0
          have HSL := hid_ hsl; clear hsl hg
          by_cases q2 : (y : Int) ∈ o.take k
          · rw [show decide ((y : Int) ∈ o.take k) = true by simpa using q2] at hv0
            have ev := Option.some.inj (c0.symm.trans hv0)
            subst ev
            clear hv0
            have Q2 := hid_ q2; clear q2
            go_wp2_with (go_at_call 47; refine (l1In_any _ _ _ _).mono ?_; rintro e w1 ⟨rfl, rfl⟩)
            go_returns
            exact ⟨ret_bool (hD.out.trans (by rw [decide_eq_false (nodup_no hlt' (by rw [HX.out]; exact Q2.out))]; simp)).symm, HB.out⟩
          · rw [show decide ((y : Int) ∈ o.take k) = false by simpa using q2] at hv0
            have ev := Option.some.inj (c0.symm.trans hv0)
            subst ev
            clear hv0
            have Q2 := hid_ q2; clear q2
            go_wp2_with (go_at_call 47; refine (l1In_any _ _ _ _).mono ?_; rintro e w1 ⟨rfl, rfl⟩)
            go_roundw
            case rel =>
              have s1 := HO.out.stored y (.bool true)
              rw [boC_set] at s1
              refine ⟨k + 1, _, by omega, by go_num, s1.1, HB.out.setCell (by simp) _, HS.out.next hlt' HX.out, fun i hi' h => ?_⟩
              by_cases e : i = k
              · subst e; rw [HX.out]; exact ⟨hbd, Q2.out⟩
              · exact HI.out i hi' (by omega)
            case measure => exact meas_ hlt
      · go_wp2
        go_returns
        refine ⟨ret_bool (hD.out.trans ?_).symm, HB.out⟩
        rw [decide_eq_true (nodup_yes (fun i hi => (HI.out i hi (by rw [HN.out] at hi; omega)).2)), allB_end (fun i hi => inB_iff.2 (HI.out i hi (by rw [HN.out] at hi; omega)).1)]
        rfl
  · go_enter Try.func44, Try.ntmps44
    go_wp2
    go_returns
    exact ⟨ret_bool (by unfold isOrd; rw [HN.out]; simp [hs]), Below.refl _ _⟩
end Go.Proofs.Ytfmkjhkopocokaa
