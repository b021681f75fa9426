/-
  Caches: copies, comparisons, marks.
-/
import Derived.Test.YtejnieoneknbbaaLnB
import Derived.Test.YtejnieoneknbbaaCaP
namespace Go.Proofs.Ytejnieoneknbbaa
open Go.ChangeShapes Go.WideShapes Go.ChangeAt Go.RowKit Go.BigFrame

/-- a block of two cells, later -/
theorem bx2 {B b : Nat} {w w1 : World} {x y : Value} (h : Below B w w1) (hb : b < B) (h0 : w.cell? ⟨b, 0, none⟩ = some x) (h1 : w.cell? ⟨b, 1, none⟩ = some y) (f0 : w.frozen? ⟨b, 0, none⟩ = false) (f1 : w.frozen? ⟨b, 1, none⟩ = false) :
    w1.cell? ⟨b, 0, none⟩ = some x ∧ w1.cell? ⟨b, 1, none⟩ = some y ∧ w1.frozen? ⟨b, 0, none⟩ = false ∧ w1.frozen? ⟨b, 1, none⟩ = false :=
  ⟨(h.cell hb).trans h0, (h.cell hb).trans h1, (h.frozen hb).trans f0, (h.frozen hb).trans f1⟩
/-- the result is a cache whose lines are the call's own -/
def RCa (w : World) (L : List Ln) (n : Nat) (m : Int) (e : Ending) (w' : World) : Prop :=
  ∃ A c, e = .returned (.agg #[.slice A n c, .int .i64 m]) ∧ n ≤ c ∧ c ≤ maxLen ∧ w'.ownsRow w.heap.size 38 3 (.slice A n c) n (lnC L) ∧ Below w.heap.size w w'

theorem szCa_any (A : Option Addr) (n c : Nat) (m l : Int) (w : World) (hm : n ≤ maxLen) (h0 : 0 ≤ l) (h1 : l ≤ 1048576) :
    Calls Try.prog 15 #[.agg #[.slice A n c, .int .i64 m], .int .i64 l] w fun e w' => e = .returned (.int .i64 (if l < n then -1 else l - n)) ∧ Below w.heap.size w w' := by
  by_cases hl : l < n
  · rw [if_pos hl]
    go_enter Try.func15, Try.ntmps15
    go_wp2_with (go_at_call 44; refine (szLn_any A n c l _ hm h0 h1).mono ?_; rw [if_pos hl]; rintro e w1 ⟨rfl, rfl⟩)
    go_returns
    exact ⟨rfl, (Below.refl _ _).alloc (Nat.le_refl _) _⟩
  · rw [if_neg hl]
    go_enter Try.func15, Try.ntmps15
    go_wp2_with (go_at_call 44; refine (szLn_any A n c l _ hm h0 h1).mono ?_; rw [if_neg hl]; rintro e w1 ⟨rfl, rfl⟩)
    all_goals first | (go_returns; exact ⟨rfl, (Below.refl _ _).alloc (Nat.le_refl _) _⟩) | (exfalso; omega)

set_option maxHeartbeats 400000 in
theorem eqCache_any (L L' : List Ln) (A A' : Option Addr) (n n' c c' : Nat) (m m' : Int) (w : World) (hn : L.length = n) (hn' : L'.length = n') (hm : n ≤ maxLen) (hm' : n' ≤ maxLen) (hR : Rd w 3 A n (lnC L)) (hR' : Rd w 3 A' n' (lnC L')) :
    Calls Try.prog 19 #[.agg #[.slice A n c, .int .i64 m], .agg #[.slice A' n' c', .int .i64 m']] w fun e w' => e = .returned (.bool (decide (L = L') && (m == m'))) ∧ Below w.heap.size w w' := by
  have HR := hid_ hR; clear hR
  have HR' := hid_ hR'; clear hR'
  have HN := hid_ hn; clear hn
  have HN' := hid_ hn'; clear hn'
  go_enter Try.func19, Try.ntmps19
  go_wp2_with fail
  refine (eqLineS_any L L' A A' n n' c c' _ HN.out HN'.out hm hm' ((HR.out.alloc _).alloc _) ((HR'.out.alloc _).alloc _)).mono ?_
  rintro e w1 ⟨rfl, hb1⟩
  have q1 : w1.cell? ⟨w.heap.size, 1, none⟩ = some (.int .i64 m) := by rw [hb1.cell (p := ⟨w.heap.size, 1, none⟩) (by simp; omega)]; simp [go_sem]
  have q2 : w1.cell? ⟨w.heap.size + 1, 1, none⟩ = some (.int .i64 m') := by rw [hb1.cell (p := ⟨w.heap.size + 1, 1, none⟩) (by simp <;> omega)]; simp [go_sem]
  have HB := hid_ (((Below.refl w.heap.size w).alloc (Nat.le_refl _) (.cells #[.slice A n c, .int .i64 m] 29)).alloc (by simp) (.cells #[.slice A' n' c', .int .i64 m'] 29))
  replace HB := hid_ (HB.out.trans (hb1.mono (by simp; omega)))
  clear hb1
  obtain ⟨b, hb⟩ : ∃ b, decide (L = L') = b := ⟨_, rfl⟩
  rw [hb]
  cases b
  · go_wp2
    go_returns
    exact ⟨ret_bool (by have := of_decide_eq_false hb; simp [this]), HB.out⟩
  · go_wp2
    all_goals (go_returns; refine ⟨ret_bool ?_, HB.out⟩; simp_all)

set_option maxHeartbeats 400000 in
theorem toCache_any (L : List Ln) (A : Option Addr) (n c : Nat) (m : Int) (w : World) (hn : L.length = n) (hm : n ≤ 1048576) (hR : Rd w 3 A n (lnC L)) :
    Calls Try.prog 17 #[.agg #[.slice A n c, .int .i64 m]] w (RCa w L n m) := by
  have HR := hid_ hR; clear hR
  have HN := hid_ hn; clear hn
  go_enter Try.func17, Try.ntmps17
  go_wp2_with fail
  refine (toLineS_any L A n c _ HN.out hm (((HR.out.alloc _).alloc _).alloc _)).mono ?_
  rintro e w1 ⟨A1, c1, rfl, hc1, hcm1, ho1, hb1⟩
  have HO := hid_ ho1; clear ho1
  have HCM := hid_ hcm1; clear hcm1
  have q1 : w1.cell? ⟨w.heap.size, 1, none⟩ = some (.int .i64 m) := by rw [hb1.cell (p := ⟨w.heap.size, 1, none⟩) (by simp; omega)]; simp [go_sem]
  obtain ⟨a0, a1, a2, a3⟩ := bx2 (b := w.heap.size + 1) (x := .slice none 0 0) (y := .int .i64 0) hb1 (by simp <;> omega) (by simp [go_sem]) (by simp [go_sem]) (by simp [go_sem]) (by simp [go_sem])
  obtain ⟨d0, d1, d2, d3⟩ := bx2 (b := w.heap.size + 1 + 1) (x := .slice none 0 0) (y := .int .i64 0) hb1 (by simp <;> omega) (by simp [go_sem]) (by simp [go_sem]) (by simp [go_sem]) (by simp [go_sem])
  have HC1 := hid_ hc1; clear hc1
  have HB := hid_ ((((Below.refl w.heap.size w).alloc (Nat.le_refl _) (.cells #[.slice A n c, .int .i64 m] 24)).alloc (by simp) (.cells #[.slice none 0 0, .int .i64 0] 29)).alloc (by simp; omega) (.cells #[.slice none 0 0, .int .i64 0] 29))
  have HB1 := hid_ (HB.out.trans (hb1.mono HB.out.size))
  clear hb1 HB
  have HLT := hid_ HO.out.lt
  have k0 : (((w1.setCell ⟨w.heap.size + 1 + 1, 0, none⟩ (.slice A1 n c1)).setCell ⟨w.heap.size + 1 + 1, 1, none⟩ (.int .i64 m)).setCell ⟨w.heap.size + 1, 0, none⟩ (.slice A1 n c1)).cell? ⟨w.heap.size + 1, 0, none⟩ = some (.slice A1 n c1) := by
    refine World.cell?_setCell_same _ _ _ (u := .slice none 0 0) ?_
    rw [World.cell?_setCell_other _ _ _ _ (by simp), World.cell?_setCell_other _ _ _ _ (by simp)]; exact a0
  have k1 : ((((w1.setCell ⟨w.heap.size + 1 + 1, 0, none⟩ (.slice A1 n c1)).setCell ⟨w.heap.size + 1 + 1, 1, none⟩ (.int .i64 m)).setCell ⟨w.heap.size + 1, 0, none⟩ (.slice A1 n c1)).setCell ⟨w.heap.size + 1, 1, none⟩ (.int .i64 m)).cell? ⟨w.heap.size + 1, 1, none⟩ = some (.int .i64 m) := by
    refine World.cell?_setCell_same _ _ _ (u := .int .i64 0) ?_
    rw [World.cell?_setCell_other _ _ _ _ (by simp), World.cell?_setCell_other _ _ _ _ (by simp), World.cell?_setCell_other _ _ _ _ (by simp)]; exact a1
  go_wp2
  refine bodyPost_ret (v := .agg #[.slice A1 n c1, .int .i64 m]) (by simp [results, Try.results17, go_sem, k0, k1]) rfl ?_
  refine ⟨A1, c1, rfl, HC1.out, HCM.out, ?_, ?_⟩
  · have hs : ∀ {x : World} (b o : Nat) (v : Value), b < w.heap.size + 1 + 1 + 1 → x.ownsRow (w.heap.size + 1 + 1 + 1) 38 3 (.slice A1 n c1) n (lnC L) → (x.setCell ⟨b, o, none⟩ v).ownsRow (w.heap.size + 1 + 1 + 1) 38 3 (.slice A1 n c1) n (lnC L) := fun b o v hb h => own_set h (fun e => by have := (h.lt b e).1; omega)
    have ho : w1.ownsRow (w.heap.size + 1 + 1 + 1) 38 3 (.slice A1 n c1) n (lnC L) := by simpa using HO.out
    exact own_base (hs _ _ _ (by omega) (hs _ _ _ (by omega) (hs _ _ _ (by omega) (hs _ _ _ (by omega) ho)))) (by omega)
  · exact (((HB1.out.setCell (by simp; omega) _).setCell (by simp; omega) _).setCell (by simp) _).setCell (by simp) _
end Go.Proofs.Ytejnieoneknbbaa
