/-
  Tags: what the functions compute.
-/
import Derived.Test.YtddmakhfdkljfaaBase
import Derived.Test.YtddmakhfdkljfaaApp
namespace Go.Proofs.Ytddmakhfdkljfaa
open Go.ChangeShapes Go.WideShapes Go.ChangeAt Go.RowKit Go.BigFrame

/-- slices of truth values -/
def boC (l : List Bool) : List Value := l.map Value.bool
theorem boC_length (l : List Bool) : (boC l).length = l.length := by simp [boC]
theorem boC_append (a b : List Bool) : boC (a ++ b) = boC a ++ boC b := by simp [boC]
theorem boC_one (l : List Bool) : ∀ u ∈ boC l, u.oneCell' = true := by
  intro u hu
  obtain ⟨z, _, rfl⟩ := List.mem_map.1 hu
  rfl
theorem boC_set (l : List Bool) (k : Nat) (b : Bool) : (boC l).set k (.bool b) = boC (l.set k b) := by simp [boC, List.map_set]
theorem boC_get (l : List Bool) (i : Nat) (hi : i < l.length) : (boC l)[i]? = some (.bool l[i]) := by simp [boC, hi]
theorem Rd.bo {w : World} {A : Option Addr} {n : Nat} {l : List Bool} (h : Rd w 1 A n (boC l)) (i : Nat) (hi : i < n) (hn : l.length = n) :
    ∃ b o, A = some ⟨b, o, none⟩ ∧ w.cell? ⟨b, o + i, none⟩ = some (.bool (l[i]'(by omega))) := by
  obtain ⟨b, o, e, hc⟩ := h.2 (by omega)
  exact ⟨b, o, e, hc i _ (boC_get l i (by omega))⟩
theorem bo_info : (Try.prog.info? 4).map (fun i => (i.zero, i.size, i.bytes)) = some (some (.bool false), 1, 1) := by kernel_rfl

/-- the place of the first tag that is free, from n on -/
def freeP : Nat → List Bool → Int
  | _, [] => -1
  | n, b :: r => if b = false then n else freeP (n + 1) r
theorem freeP_step (l : List Bool) (k : Nat) (h : k < l.length) : freeP k (l.drop k) = if l[k] = false then (k : Int) else freeP (k + 1) (l.drop (k + 1)) := by
  rw [List.drop_eq_getElem_cons h]; rfl
theorem freeP_cases : ∀ (l : List Bool) (n : Nat), (freeP n l = -1 ∧ ∀ j (hj : j < l.length), l[j] = true) ∨ ∃ k : Nat, ∃ hk : k < l.length, freeP n l = ((n + k : Nat) : Int) ∧ l[k] = false ∧ ∀ j (hj : j < l.length), j < k → l[j] = true := by
  intro l
  induction l with
  | nil => intro n; left; exact ⟨rfl, fun j hj => by simp at hj⟩
  | cons f r ih =>
    intro n
    cases f with
    | false => right; exact ⟨0, by simp, by simp [freeP], by simp, fun j _ hj => by omega⟩
    | true =>
      rcases ih (n + 1) with ⟨h1, h2⟩ | ⟨k, hk, h1, h2, h3⟩
      · left
        refine ⟨by simp only [freeP]; rw [if_neg (by simp)]; exact h1, fun j hj => ?_⟩
        cases j with
        | zero => rfl
        | succ j => simpa using h2 j (by simpa using hj)
      · right
        refine ⟨k + 1, by simpa using hk, by simp only [freeP]; rw [if_neg (by simp), h1]; congr 1; omega, by simpa using h2, fun j hj hlt => ?_⟩
        cases j with
        | zero => rfl
        | succ j => simpa using h3 j (by simpa using hj) (by omega)

/-- what TakeTag answers: the tags, the number, whether one was taken -/
def takL (l : List Bool) : List Bool := if 16 < l.length then [] else if freeP 0 l < 0 then l else l.set (freeP 0 l).toNat true
def takT (l : List Bool) : Int := if 16 < l.length then -1 else freeP 0 l
def takB (l : List Bool) : Bool := !decide (16 < l.length) && decide (0 ≤ freeP 0 l)
/-- what ReturnTag answers -/
def retB (l : List Bool) (t : Int) : Bool := !decide (16 < l.length) && inB t 0 ((l.length : Int) - 1) && l.getD t.toNat false
def retL (l : List Bool) (t : Int) : List Bool := if 16 < l.length then [] else if retB l t = true then l.set t.toNat false else l
def useN (l : List Bool) : Int := ((l.count true : Nat) : Int)

def RTg3 (w : World) (l : List Bool) (t : Int) (ok : Bool) (e : Ending) (w' : World) : Prop :=
  ∃ A c, e = .returned (.tuple #[.agg #[.slice A l.length c], .int .i64 t, .bool ok]) ∧ l.length ≤ c ∧ c ≤ maxLen ∧ w'.ownsRow w.heap.size 4 1 (.slice A l.length c) l.length (boC l) ∧ Below w.heap.size w w'
theorem RTg3.of {w w' : World} {A : Option Addr} {n c : Nat} {l xs : List Bool} {t t' : Int} {ok ok' : Bool} (h : w'.ownsRow w.heap.size 4 1 (.slice A n c) n (boC xs)) (hb : Below w.heap.size w w') (hl : xs = l) (ht : t = t') (hk : ok = ok') : RTg3 w l t' ok' (.returned (.tuple #[.agg #[.slice A n c], .int .i64 t, .bool ok])) w' := by
  subst hl; subst ht; subst hk
  have hn : n = xs.length := by have := h.1; rw [boC_length] at this; omega
  subst hn
  obtain ⟨A', c', e, h1, h2⟩ := own_shape h
  injection e with e1 e2 e3
  subst e1; subst e3
  exact ⟨A, c, rfl, h1, h2, h, hb⟩
def RTg2 (w : World) (l : List Bool) (ok : Bool) (e : Ending) (w' : World) : Prop :=
  ∃ A c, e = .returned (.tuple #[.agg #[.slice A l.length c], .bool ok]) ∧ l.length ≤ c ∧ c ≤ maxLen ∧ w'.ownsRow w.heap.size 4 1 (.slice A l.length c) l.length (boC l) ∧ Below w.heap.size w w'
theorem RTg2.of {w w' : World} {A : Option Addr} {n c : Nat} {l xs : List Bool} {ok ok' : Bool} (h : w'.ownsRow w.heap.size 4 1 (.slice A n c) n (boC xs)) (hb : Below w.heap.size w w') (hl : xs = l) (hk : ok = ok') : RTg2 w l ok' (.returned (.tuple #[.agg #[.slice A n c], .bool ok])) w' := by
  subst hl; subst hk
  have hn : n = xs.length := by have := h.1; rw [boC_length] at this; omega
  subst hn
  obtain ⟨A', c', e, h1, h2⟩ := own_shape h
  injection e with e1 e2 e3
  subst e1; subst e3
  exact ⟨A, c, rfl, h1, h2, h, hb⟩

theorem tiwithin_any (n lo hi : Int) (w : World) :
    Calls Try.prog 19 #[.int .i64 n, .int .i64 lo, .int .i64 hi] w fun e w' => e = .returned (.bool (inB n lo hi)) ∧ w = w' := by
  go_enter Try.func19, Try.ntmps19
  go_wp2
  all_goals (go_returns; refine ⟨ret_bool ?_, rfl⟩; rw [Bool.eq_iff_iff, inB_iff]; simp; omega)
theorem l1In_any (n lo hi : Int) (w : World) :
    Calls Try.prog 20 #[.int .i64 n, .int .i64 lo, .int .i64 hi] w fun e w' => e = .returned (.bool (inB n lo hi)) ∧ w = w' := by
  go_enter Try.func20, Try.ntmps20
  go_wp2
  all_goals (go_returns; refine ⟨ret_bool ?_, rfl⟩; rw [Bool.eq_iff_iff, inB_iff]; simp; omega)

theorem run_eql_nil_bo (w : World) (A : Option Addr) (n c : Nat) : (binOp .eql 23 (.slice A n c) (.slice none 0 0)).run Try.prog w = .ok (.bool A.isNone) w := by
  cases A <;> kernel_rfl

theorem clone_any (l : List Bool) (A : Option Addr) (n c : Nat) (w : World) (hn : l.length = n) (hm : n ≤ 1048576) (hR : Rd w 1 A n (boC l)) :
    Calls Try.prog 18 #[.slice A n c] w (RSl w 4 1 n (boC l)) := by
  have HR := hid_ hR; clear hR
  have HN := hid_ hn; clear hn
  have hq := fun w => run_eql_nil_bo w A n c
  cases A with
  | none =>
    have hz : n = 0 := by
      rcases Nat.eq_zero_or_pos n with h | h
      · exact h
      · obtain ⟨b, o, e, _⟩ := HR.out.2 h; cases e
    subst hz
    have hl : l = [] := List.eq_nil_of_length_eq_zero HN.out
    have HL := hid_ hl; clear hl
    go_enter Try.func18, Try.ntmps18
    go_wp2
    go_returns
    exact RSl.of_own' (World.ownsRow_nil _ _ _ _) (Below.refl _ _) rfl (by rw [HL.out]; rfl)
  | some ad =>
    go_enter Try.func18, Try.ntmps18
    go_wp2_with (at_builtin; refine wpList_append_rd _ rfl _ _ 23 rfl w.heap.size 4 (.bool false) 1 1 Try.underlying23 bo_info rfl (by decide) (by decide) _ _ _ (own_empty w 4 1) rfl _ _ _ _ (HR.out.alloc _) rfl (boC_one l) (by omega) (by simp) ?_; intro v' w' ho' hg')
    go_returns
    exact RSl.of_own' ho' (below_push ((Below.refl w.heap.size w).alloc (Nat.le_refl _) _) (own_empty w 4 1) hg' (by simp)) (by simp) (by simp)

set_option maxHeartbeats 400000 in
theorem index_any (l : List Bool) (A : Option Addr) (n c : Nat) (w : World) (hn : l.length = n) (hm : n ≤ 1048576) (hR : Rd w 1 A n (boC l)) :
    Calls Try.prog 22 #[.slice A n c, .bool false] w fun e w' => e = .returned (.int .i64 (freeP 0 l)) ∧ w = w' := by
  have HR := hid_ hR; clear hR
  have HN := hid_ hn; clear hn
  go_enter Try.func22, Try.ntmps22
  go_wp2
  go_loop [8] (fun v => ∃ k : Nat, k ≤ n ∧ v = .int .i64 k ∧ freeP 0 l = freeP k (l.drop k)) (fun v => n - (intOf v).toNat)
  case atStart => exact ⟨0, Nat.zero_le _, rfl, by simp⟩
  case round =>
    obtain ⟨k, hk, rfl, hid⟩ := hrel
    have HI := hid_ hid; clear hid
    by_cases hlt : k < n
    · have hlt' : k < l.length := by rw [HN.out]; exact hlt
      obtain ⟨b, o, rfl, h0⟩ := HR.out.bo k hlt HN.out
      have hs := freeP_step l k hlt'
      have HS := hid_ hs; clear hs
      cases q : l[k]
      · rw [q] at h0 HS
        go_wp2
        go_returns
        exact ⟨ret_int (by rw [HI.out, HS.out]; simp), rfl⟩
      · rw [q] at h0 HS
        go_wp2
        go_round
        case rel => exact ⟨k + 1, by omega, by go_num, by rw [HI.out, HS.out]; simp⟩
        case measure => exact meas_ hlt
    · go_wp2
      go_returns
      refine ⟨ret_int ?_, rfl⟩
      rw [HI.out, List.drop_of_length_le (by rw [HN.out]; omega)]; rfl

theorem useN_take (l : List Bool) (k : Nat) (h : k < l.length) : useN (l.take (k + 1)) = useN (l.take k) + (if l[k] = true then 1 else 0) := by
  unfold useN
  rw [List.take_succ_eq_append_getElem h, List.count_append, List.count_singleton]
  cases l[k] <;> simp
theorem useN_bd (l : List Bool) : 0 ≤ useN l ∧ useN l ≤ l.length := by
  unfold useN
  have := List.count_le_length (a := true) (l := l)
  omega

set_option maxHeartbeats 400000 in
theorem used_any (l : List Bool) (A : Option Addr) (n c : Nat) (w : World) (hn : l.length = n) (hm : n ≤ 1048576) (hR : Rd w 1 A n (boC l)) :
    Calls Try.prog 11 #[.agg #[.slice A n c]] w fun e w' => e = .returned (.int .i64 (useN l)) ∧ Below w.heap.size w w' := by
  have HR := hid_ (hR.alloc (.cells #[.slice A n c] 25)); clear hR
  have HN := hid_ hn; clear hn
  go_enter Try.func11, Try.ntmps11
  go_wp2
  go_loop [3, 9] (fun v i => ∃ (k : Nat) (X : Int), k ≤ n ∧ i = .int .i64 k ∧ v = .int .i64 X ∧ X = useN (l.take k)) (fun _ i => n - (intOf i).toNat)
  case atStart => exact ⟨0, 0, Nat.zero_le _, rfl, rfl, rfl⟩
  case round =>
    obtain ⟨k, X, hk, rfl, rfl, hX⟩ := hrel
    have hXb := useN_bd (l.take k)
    rw [← hX, List.length_take] at hXb
    have HX := hid_ hX; clear hX
    by_cases hlt : k < n
    · have hlt' : k < l.length := by rw [HN.out]; exact hlt
      have hT := hid_ (useN_take l k hlt')
      obtain ⟨b, o, rfl, h0⟩ := HR.out.bo k hlt HN.out
      have hX0 : 0 ≤ X := hXb.1
      have hX1 : X ≤ 1048576 := by omega
      clear hXb
      cases q : l[k]
      · rw [q] at h0 hT
        go_wp2
        go_round
        case rel => exact ⟨k + 1, X, by omega, by go_num, rfl, by rw [hT.out, HX.out]; simp⟩
        case measure => exact meas_ hlt
      · rw [q] at h0 hT
        go_wp2
        go_round
        case rel => exact ⟨k + 1, X + 1, by omega, by go_num, rfl, by rw [hT.out, HX.out]; simp⟩
        case measure => exact meas_ hlt
    · go_wp2
      go_returns
      exact ⟨ret_int (by rw [HX.out, List.take_of_length_le (by rw [HN.out]; omega)]), (Below.refl _ _).alloc (Nat.le_refl _) _⟩

theorem tak_cases (l : List Bool) : (16 < l.length ∧ takL l = [] ∧ takT l = -1 ∧ takB l = false) ∨ (¬ 16 < l.length ∧ freeP 0 l = -1 ∧ takL l = l ∧ takT l = -1 ∧ takB l = false ∧ ∀ j (hj : j < l.length), l[j] = true) ∨
    (¬ 16 < l.length ∧ ∃ k : Nat, ∃ hk : k < l.length, freeP 0 l = (k : Int) ∧ takL l = l.set k true ∧ takT l = k ∧ takB l = true ∧ l[k] = false ∧ ∀ j (hj : j < l.length), j < k → l[j] = true) := by
  by_cases h : 16 < l.length
  · left; exact ⟨h, by unfold takL; rw [if_pos h], by unfold takT; rw [if_pos h], by unfold takB; simp [h]⟩
  · right
    rcases freeP_cases l 0 with ⟨e, hall⟩ | ⟨k, hk, e, hf, hb⟩
    · left
      exact ⟨h, e, by unfold takL; rw [if_neg h, e]; rfl, by unfold takT; rw [if_neg h, e], by unfold takB; rw [e]; simp, hall⟩
    · right
      rw [Nat.zero_add] at e
      exact ⟨h, k, hk, e, by unfold takL; rw [if_neg h, e, if_neg (by omega)]; simp, by unfold takT; rw [if_neg h, e], by unfold takB; rw [e]; simp [h], hf, hb⟩

set_option maxHeartbeats 1000000 in
theorem implTake_any (l : List Bool) (A : Option Addr) (n c : Nat) (w : World) (hn : l.length = n) (hm : n ≤ 1048576) (hR : Rd w 1 A n (boC l)) :
    Calls Try.prog 13 #[.agg #[.slice A n c]] w (RTg3 w (takL l) (takT l) (takB l)) := by
  have HN := hid_ hn; clear hn
  have HR := hid_ ((hR.alloc (.cells #[.slice A n c] 25)).alloc (.cells #[.slice none 0 0] 25)); clear hR
  rcases tak_cases l with ⟨h0, e1, e2, e3⟩ | ⟨h0, ef, e1, e2, e3, _⟩ | ⟨h0, k, hk, ef, e1, e2, e3, hf, _⟩
  · rw [HN.out] at h0
    have E1 := hid_ e1; have E2 := hid_ e2; have E3 := hid_ e3; clear e1 e2 e3
    have hz : (16 : Int) < (n : Int) := by omega
    go_enter Try.func13, Try.ntmps13
    go_wp2
    refine bodyPost_ret (v := .tuple #[.agg #[.slice none 0 0], .int .i64 (-1), .bool false]) (by simp [results, Try.results13, go_sem]) rfl (RTg3.of (xs := []) (World.ownsRow_nil _ _ _ _) ?_ E1.out.symm E2.out.symm E3.out.symm)
    go_grown
  · rw [HN.out] at h0
    have E1 := hid_ e1; have E2 := hid_ e2; have E3 := hid_ e3; have EF := hid_ ef; clear e1 e2 e3 ef
    have hz : (n : Int) ≤ 16 := by omega
    go_enter Try.func13, Try.ntmps13
    go_wp2_with fail
    refine (clone_any l A n c _ HN.out (by omega) HR.out).mono ?_
    rintro e w1 ⟨A1, c1, rfl, hc1, hcm1, ho1, hb1⟩
    have HC1 := hid_ hcm1; clear hcm1
    have HO1 := hid_ ho1; clear ho1
    obtain ⟨hcw, hfw⟩ := bcell hb1
    have hs1 := hb1.size
    simp only [World.size_alloc] at hs1
    have r0 : w1.cell? ⟨w.heap.size + 1, 0, none⟩ = some (.slice none 0 0) := by rw [hcw _ _ (by simp)]; simp [go_sem]
    have f0 : w1.frozen? ⟨w.heap.size + 1, 0, none⟩ = false := by rw [hfw _ _ (by simp)]; simp [go_sem]
    have hl1 : w.heap.size + 1 < w1.heap.size := by omega
    clear hcw hfw
    have HBB := hid_ (((((Below.refl w.heap.size w).alloc (Nat.le_refl _) (.cells #[.slice A n c] 25)).alloc (by simp) (.cells #[.slice none 0 0] 25)).trans (hb1.mono (by simp; omega))))
    clear hb1
    go_wp2_with fail
    refine (index_any l A1 n c1 _ HN.out (by omega) ((own_rd HO1.out).alloc _)).mono ?_
    rw [EF.out]
    rintro e w2 ⟨rfl, rfl⟩
    go_wp2
    have hnb : (Value.slice A1 n c1).ownBlock ≠ some (w.heap.size + 1) := fun e => by have := (HO1.out.lt _ e).1; simp only [World.size_alloc] at this; omega
    refine bodyPost_ret (v := .tuple #[.agg #[.slice A1 n c1], .int .i64 (-1), .bool false]) (by simp [results, Try.results13, go_sem, r0, f0, hl1]) rfl (RTg3.of (xs := l) ?_ ?_ E1.out.symm E2.out.symm E3.out.symm)
    · exact own_base ((own_set HO1.out hnb).alloc _) (by simp; omega)
    · exact (HBB.out.setCell (by simp) _).alloc (by simp; omega) _
  · rw [HN.out] at h0
    have hkn : k < n := by rw [← HN.out]; exact hk
    have E1 := hid_ e1; have E2 := hid_ e2; have E3 := hid_ e3; have EF := hid_ ef; clear e1 e2 e3 ef hf
    have hz : (n : Int) ≤ 16 := by omega
    go_enter Try.func13, Try.ntmps13
    go_wp2_with fail
    refine (clone_any l A n c _ HN.out (by omega) HR.out).mono ?_
    rintro e w1 ⟨A1, c1, rfl, hc1, hcm1, ho1, hb1⟩
    have HC1 := hid_ hcm1; clear hcm1
    have HO1 := hid_ ho1; clear ho1
    obtain ⟨hcw, hfw⟩ := bcell hb1
    have hs1 := hb1.size
    simp only [World.size_alloc] at hs1
    have r0 : w1.cell? ⟨w.heap.size + 1, 0, none⟩ = some (.slice none 0 0) := by rw [hcw _ _ (by simp)]; simp [go_sem]
    have f0 : w1.frozen? ⟨w.heap.size + 1, 0, none⟩ = false := by rw [hfw _ _ (by simp)]; simp [go_sem]
    have hl1 : w.heap.size + 1 < w1.heap.size := by omega
    clear hcw hfw
    have HBB := hid_ (((((Below.refl w.heap.size w).alloc (Nat.le_refl _) (.cells #[.slice A n c] 25)).alloc (by simp) (.cells #[.slice none 0 0] 25)).trans (hb1.mono (by simp; omega))))
    clear hb1
    go_wp2_with fail
    refine (index_any l A1 n c1 _ HN.out (by omega) ((own_rd HO1.out).alloc _)).mono ?_
    rw [EF.out]
    rintro e w2 ⟨rfl, rfl⟩
    have hnb : (Value.slice A1 n c1).ownBlock ≠ some (w.heap.size + 1) := fun e => by have := (HO1.out.lt _ e).1; simp only [World.size_alloc] at this; omega
    obtain ⟨gb, rfl, hB, hgl, _, _⟩ := own_block HO1.out (by omega)
    simp only [World.size_alloc] at hB
    obtain ⟨v0, c0, y0⟩ := own_store HO1.out k (by omega)
    have hne1 : gb ≠ w.heap.size + 1 := by omega
    go_wp2
    refine bodyPost_ret (v := .tuple #[.agg #[.slice (some ⟨gb, 0, none⟩) n c1], .int .i64 k, .bool true]) (by simp [results, Try.results13, go_sem, r0, f0, hl1]) rfl (RTg3.of (xs := l.set k true) ?_ ?_ E1.out.symm E2.out.symm E3.out.symm)
    · have s1 := HO1.out.stored k (.bool true)
      exact own_base ((own_set (own_eq s1.1 rfl (boC_set l k true)) hnb).alloc _) (by simp; omega)
    · exact ((HBB.out.setCell (by simp; omega) _).setCell (by simp) _).alloc (by simp; omega) _

set_option maxHeartbeats 1000000 in
theorem specTake_any (l : List Bool) (A : Option Addr) (n c : Nat) (w : World) (hn : l.length = n) (hm : n ≤ 1048576) (hR : Rd w 1 A n (boC l)) :
    Calls Try.prog 14 #[.agg #[.slice A n c]] w (RTg3 w (takL l) (takT l) (takB l)) := by
  have HN := hid_ hn; clear hn
  have HR := hid_ ((hR.alloc (.cells #[.slice A n c] 25)).alloc (.cells #[.slice none 0 0] 25)); clear hR
  by_cases h0 : 16 < l.length
  · obtain ⟨_, e1, e2, e3⟩ := (tak_cases l).resolve_right (by rintro (⟨h, _⟩ | ⟨h, _⟩) <;> exact h h0)
    rw [HN.out] at h0
    have E1 := hid_ e1; have E2 := hid_ e2; have E3 := hid_ e3; clear e1 e2 e3
    have hz : (16 : Int) < (n : Int) := by omega
    go_enter Try.func14, Try.ntmps14
    go_wp2
    refine bodyPost_ret (v := .tuple #[.agg #[.slice none 0 0], .int .i64 (-1), .bool false]) (by simp [results, Try.results14, go_sem]) rfl (RTg3.of (xs := []) (World.ownsRow_nil _ _ _ _) ?_ E1.out.symm E2.out.symm E3.out.symm)
    go_grown
  · have HC0 := hid_ ((tak_cases l).resolve_left (by rintro ⟨h, _⟩; exact h0 h))
    rw [HN.out] at h0
    have hz : (n : Int) ≤ 16 := by omega
    go_enter Try.func14, Try.ntmps14
    go_wp2_with ((at_builtin; refine wpList_append_rd _ rfl _ _ 23 rfl (w.heap.size + 2) 4 (.bool false) 1 1 Try.underlying23 bo_info rfl (by decide) (by decide) _ _ _ (own_empty_at ((w.alloc (.cells #[.slice A n c] 25)).alloc (.cells #[.slice none 0 0] 25)) 4 1 (w.heap.size + 2) (by simp)) rfl _ _ _ _ (HR.out.alloc _) rfl (boC_one l) (by omega) (by simp) ?_; intro v' w' ho' hg'); have ho := own_eq ho' (show 0 + n = n by omega) (show [] ++ boC l = boC l by simp); clear ho'; obtain ⟨A1, c1, rfl, hc1, hcm1⟩ := own_shape ho; have HO1 := hid_ ho; have HG1 := hid_ hg'; have HC1 := hid_ hcm1; clear ho hg' hcm1)
    have hs1 := HG1.out.size
    simp only [World.size_alloc] at hs1
    have r0 : w'.cell? ⟨w.heap.size + 1, 0, none⟩ = some (.slice none 0 0) := by
      rw [World.cell?_of_block (w := ((w.alloc (.cells #[.slice A n c] 25)).alloc (.cells #[.slice none 0 0] 25)).alloc (.cells #[] 4)) (HG1.out.block _ (by simp) (by simp [Value.ownBlock]))]
      simp [go_sem]
    have f0 : w'.frozen? ⟨w.heap.size + 1, 0, none⟩ = false := by
      rw [World.frozen?_of_block (w := ((w.alloc (.cells #[.slice A n c] 25)).alloc (.cells #[.slice none 0 0] 25)).alloc (.cells #[] 4)) (HG1.out.block _ (by simp) (by simp [Value.ownBlock]))]
      simp [go_sem]
    have hl1 : w.heap.size + 1 < w'.heap.size := by omega
    have HBB := hid_ (below_push ((((Below.refl w.heap.size w).alloc (Nat.le_refl _) (.cells #[.slice A n c] 25)).alloc (by simp) (.cells #[.slice none 0 0] 25)).alloc (by simp; omega) (.cells #[] 4)) (own_base (own_empty_at ((w.alloc (.cells #[.slice A n c] 25)).alloc (.cells #[.slice none 0 0] 25)) 4 1 (w.heap.size + 2) (by simp)) (by omega)) HG1.out (by simp; omega))
    clear HG1
    have hnb : (Value.slice A1 n c1).ownBlock ≠ some (w.heap.size + 1) := fun e => by have := (HO1.out.lt _ e).1; omega
    have HRd := hid_ ((own_rd HO1.out).alloc (.cells #[.slice A1 n c1] 25))
    go_wp2
    go_loop [6] (fun v => ∃ k : Nat, k ≤ n ∧ v = .int .i64 k ∧ ∀ j (hj : j < l.length), j < k → l[j] = true) (fun v => n - (intOf v).toNat)
    case atStart => exact ⟨0, Nat.zero_le _, rfl, fun j _ h => absurd h (by omega)⟩
    case round =>
      obtain ⟨k, hk, rfl, hid⟩ := hrel
      have HI := hid_ hid; clear hid
      by_cases hlt : k < n
      · have hlt' : k < l.length := by rw [HN.out]; exact hlt
        obtain ⟨gb, rfl, hB, hgl, hcells, hfz⟩ := own_block HO1.out (by omega)
        have hx := hcells k _ (boC_get l k hlt')
        have y0 := hfz k
        clear hcells hfz
        have hne1 : gb ≠ w'.heap.size := by omega
        have hne2 : gb ≠ w.heap.size + 1 := by omega
        cases q : l[k]
        · rw [q] at hx
          have hc := HC0.out
          have E : takL l = l.set k true ∧ takT l = k ∧ takB l = true := by
            rcases hc with ⟨_, _, _, _, _, hall⟩ | ⟨_, k', hk', _, e1, e2, e3, hf, hb⟩
            · rw [hall k hlt'] at q; cases q
            · have : k = k' := by
                rcases Nat.lt_trichotomy k k' with h | h | h
                · rw [hb k hlt' h] at q; cases q
                · exact h
                · rw [HI.out k' hk' h] at hf; cases hf
              subst this
              exact ⟨e1, e2, e3⟩
          have EE := hid_ E; clear E hc q HC0
          go_wp2
          refine bodyPost_ret (v := .tuple #[.agg #[.slice (some ⟨gb, 0, none⟩) n c1], .int .i64 k, .bool true]) (by simp [results, Try.results14, go_sem, r0, f0, hl1]) rfl (RTg3.of (xs := l.set k true) ?_ ?_ EE.out.1.symm EE.out.2.1.symm EE.out.2.2.symm)
          · have s1 := HO1.out.stored k (.bool true)
            exact own_base ((own_set (own_eq s1.1 rfl (boC_set l k true)) hnb).alloc _) (by omega)
          · exact ((HBB.out.setCell (by simp; omega) _).setCell (by simp) _).alloc (by simp; omega) _
        · rw [q] at hx
          have Q := hid_ q; clear q
          go_wp2
          go_round
          case rel =>
            refine ⟨k + 1, by omega, by go_num, fun j hj h => ?_⟩
            by_cases e : j = k
            · subst e; exact Q.out
            · exact HI.out j hj (by omega)
          case measure => exact meas_ hlt
      · have hall : ∀ j (hj : j < l.length), l[j] = true := fun j hj => HI.out j hj (by rw [HN.out] at hj; omega)
        have E : takL l = l ∧ takT l = -1 ∧ takB l = false := by
          rcases HC0.out with ⟨_, _, e1, e2, e3, _⟩ | ⟨_, k', hk', _, _, _, _, hf, _⟩
          · exact ⟨e1, e2, e3⟩
          · rw [hall k' hk'] at hf; cases hf
        have EE := hid_ E; clear E hall HC0
        go_wp2
        refine bodyPost_ret (v := .tuple #[.agg #[.slice A1 n c1], .int .i64 (-1), .bool false]) (by simp [results, Try.results14, go_sem, r0, f0, hl1]) rfl (RTg3.of (xs := l) ?_ ?_ EE.out.1.symm EE.out.2.1.symm EE.out.2.2.symm)
        · exact own_base ((own_set HO1.out hnb).alloc _) (by omega)
        · exact (HBB.out.setCell (by simp) _).alloc (by simp; omega) _
end Go.Proofs.Ytddmakhfdkljfaa
