/-
  Caches: laws.sameCache on equal caches; laws.clean.
-/
import Derived.Test.YtejnieoneknbbaaCaF
import Derived.Test.YtejnieoneknbbaaCkE
import Derived.Test.YtejnieoneknbbaaDraw
namespace Go.Proofs.Ytejnieoneknbbaa
open Go.ChangeShapes Go.WideShapes Go.ChangeAt Go.RowKit Go.BigFrame

theorem Rd.ln_at {w : World} {n : Nat} {A : Option Addr} {L : List Ln} (h : Rd w 3 A n (lnC L)) (k : Nat) (hk : k < n) (hn : L.length = n) (x : Ln) (hx : L[k]'(by omega) = x) :
    ∃ b o, A = some ⟨b, o, none⟩ ∧ w.cell? ⟨b, o + k * 3, none⟩ = some (.int .i64 x.at_) ∧ w.cell? ⟨b, o + k * 3 + 1, none⟩ = some (.int .i64 x.value) ∧ w.cell? ⟨b, o + k * 3 + 2, none⟩ = some (.bool x.dirty) := by
  subst hx
  obtain ⟨b, o, rfl, h0, h1, h2⟩ := h.ln k hk hn
  exact ⟨b, o, rfl, h0, h1, h2⟩

/-- the drawn cache and disk, in plain words -/
theorem DrawnCD.plain {w w' : World} {e : Ending} (h : DrawnCD w e w') : ∃ (L : List Ln) (m : Int) (d : List Int) (A : Option Addr) (n c : Nat) (A2 : Option Addr) (n2 c2 : Nat), e = .returned (.tuple #[.agg #[.slice A n c, .int .i64 m], .slice A2 n2 c2]) ∧ L.length = n ∧ d.length = n2 ∧ n ≤ 10 ∧ n2 ≤ 65 ∧ n ≤ c ∧ c ≤ maxLen ∧ n2 ≤ c2 ∧ c2 ≤ maxLen ∧ Rd w' 3 A n (lnC L) ∧ Rd w' 1 A2 n2 (intC d) ∧ Below w.heap.size w w' := by
  obtain ⟨⟨L, m, d⟩, hL, hd, A, c, A2, c2, rfl, hc, hcm, hc2, hcm2, hoL, hoD, hb⟩ := h
  simp only at *
  exact ⟨L, m, d, A, _, c, A2, _, c2, rfl, rfl, rfl, hL, by rcases hd with h | h <;> omega, hc, hcm, hc2, hcm2, own_rd hoL, own_rd hoD, hb⟩
theorem RCaD.plain {w w' : World} {e : Ending} {C : Ca} (h : RCaD w C e w') : ∃ (A : Option Addr) (n c : Nat) (A2 : Option Addr) (n2 c2 : Nat), e = .returned (.tuple #[.agg #[.slice A n c, .int .i64 C.M], .slice A2 n2 c2]) ∧ C.L.length = n ∧ C.D.length = n2 ∧ n ≤ c ∧ c ≤ maxLen ∧ n2 ≤ c2 ∧ c2 ≤ maxLen ∧ Rd w' 3 A n (lnC C.L) ∧ Rd w' 1 A2 n2 (intC C.D) ∧ Below w.heap.size w w' := by
  obtain ⟨A, c, A2, c2, rfl, hc, hcm, hc2, hcm2, hoL, hoD, hb⟩ := h
  exact ⟨A, _, c, A2, _, c2, rfl, rfl, rfl, hc, hcm, hc2, hcm2, own_rd hoL, own_rd hoD, hb⟩
theorem Ca.eta (C : Ca) : Ca.mk C.L C.M C.D = C := rfl

set_option maxHeartbeats 400000 in
theorem sameCache_self (L : List Ln) (A A' : Option Addr) (n c c' : Nat) (m : Int) (w : World) (hn : L.length = n) (hm : n ≤ 1048576) (hR : Rd w 3 A n (lnC L)) (hR' : Rd w 3 A' n (lnC L)) :
    Calls Try.prog 36 #[.agg #[.slice A n c, .int .i64 m], .agg #[.slice A' n c', .int .i64 m]] w fun e w' => e = .returned (.bool true) ∧ Below w.heap.size w w' := by
  obtain ⟨W, hW⟩ : ∃ W, (w.alloc (.cells #[.slice A n c, .int .i64 m] 29)).alloc (.cells #[.slice A' n c', .int .i64 m] 29) = W := ⟨_, rfl⟩
  have HR := hid_ (show Rd W 3 A n (lnC L) from hW ▸ ((hR.alloc _).alloc _)); clear hR
  have HR' := hid_ (show Rd W 3 A' n (lnC L) from hW ▸ ((hR'.alloc _).alloc _)); clear hR'
  have X1 := hid_ (show OutBox W w.heap.size (.slice A n c) m from hW ▸ (BoxC.new w _ _).alloc _)
  have X2 := hid_ (show OutBox W (w.heap.size + 1) (.slice A' n c') m from hW ▸ (by have := BoxC.new (w.alloc (.cells #[.slice A n c, .int .i64 m] 29)) (.slice A' n c') m; rwa [World.size_alloc] at this))
  have BB := hid_ (show Below w.heap.size w W from hW ▸ (((Below.refl w.heap.size w).alloc (Nat.le_refl _) _).alloc (by simp) _))
  have HN := hid_ hn; clear hn
  go_enter Try.func36, Try.ntmps36
  have q0 := X1.out.c0
  have q1 := X1.out.c1
  have q2 := X2.out.c0
  have q3 := X2.out.c1
  have hs := BB.out.size
  go_wp2
  clear hW
  go_loopw [5] (fun v wr => ∃ k : Nat, k ≤ n ∧ v = .int .i64 k ∧ Below W.heap.size W wr) (fun v _ => n - (intOf v).toNat)
  case atStart => exact ⟨0, Nat.zero_le _, rfl, Below.refl _ _⟩
  case round =>
    obtain ⟨k, hk, rfl, hb⟩ := hrel
    have y0 := (hb.cell (cell_lt q0)).trans q0
    have y1 := (hb.cell (cell_lt q1)).trans q1
    have y2 := (hb.cell (cell_lt q2)).trans q2
    have y3 := (hb.cell (cell_lt q3)).trans q3
    clear q0 q1 q2 q3
    by_cases hlt : k < n
    · obtain ⟨x, hx⟩ : ∃ x, L[k]'(by rw [HN.out]; exact hlt) = x := ⟨_, rfl⟩
      obtain ⟨b, o, rfl, h0, h1, h2⟩ := (HR.out.below hb).ln_at k hlt HN.out x hx
      obtain ⟨b', o', rfl, h0', h1', h2'⟩ := (HR'.out.below hb).ln_at k hlt HN.out x hx
      clear hx
      have hlz : (k : Int) < (n : Int) := by omega
      go_wp2
      go_quiet (fail)
      all_goals go_wp2
      all_goals (go_roundw
                 case rel => exact ⟨k + 1, by omega, by go_num, bdN hb _⟩
                 case measure => exact meas_ hlt)
    · obtain rfl : k = n := by omega
      go_wp2
      go_returns
      exact ⟨rfl, BB.out.trans (hb.mono BB.out.size)⟩
def clB (d : List Int) (x : Ln) : Bool := x.dirty || (d.getD x.at_.toNat 0 == x.value)
theorem cleanB_at {L : List Ln} {d : List Int} {k : Nat} (h : k < L.length) (hb : clB d L[k] = false) : cleanB L d = false := by
  cases q : cleanB L d
  · rfl
  · unfold cleanB at q
    rw [List.all_eq_true] at q
    have := q _ (List.getElem_mem h)
    unfold clB at hb
    rw [hb] at this; cases this
theorem cleanB_all {L : List Ln} {d : List Int} (h : ∀ k (h : k < L.length), clB d L[k] = true) : cleanB L d = true := by
  unfold cleanB
  rw [List.all_eq_true]
  intro x hx
  obtain ⟨k, hk, rfl⟩ := List.getElem_of_mem hx
  exact h k hk

set_option maxHeartbeats 400000 in
theorem clean_any (L : List Ln) (A : Option Addr) (n c : Nat) (m : Int) (d : List Int) (A2 : Option Addr) (n2 c2 : Nat) (w : World) (hn : L.length = n) (hm : n ≤ 1048576) (hR : Rd w 3 A n (lnC L)) (hn2 : d.length = n2) (_ : n2 ≤ 1048576) (hR2 : Rd w 1 A2 n2 (intC d)) (hat : ∀ x ∈ L, 0 ≤ x.at_ ∧ x.at_ < d.length) :
    Calls Try.prog 31 #[.agg #[.slice A n c, .int .i64 m], .slice A2 n2 c2] w fun e w' => e = .returned (.bool (cleanB L d)) ∧ Below w.heap.size w w' := by
  obtain ⟨W, hW⟩ : ∃ W, w.alloc (.cells #[.slice A n c, .int .i64 m] 29) = W := ⟨_, rfl⟩
  have HR := hid_ (show Rd W 3 A n (lnC L) from hW ▸ (hR.alloc _)); clear hR
  have HR2 := hid_ (show Rd W 1 A2 n2 (intC d) from hW ▸ (hR2.alloc _)); clear hR2
  have X1 := hid_ (show OutBox W w.heap.size (.slice A n c) m from hW ▸ (BoxC.new w _ _))
  have BB := hid_ (show Below w.heap.size w W from hW ▸ ((Below.refl w.heap.size w).alloc (Nat.le_refl _) _))
  have HN := hid_ hn; clear hn
  have HN2 := hid_ hn2; clear hn2
  have HAT := hid_ hat; clear hat
  go_enter Try.func31, Try.ntmps31
  have q0 := X1.out.c0
  have hs := BB.out.size
  go_wp2
  clear hW
  go_loopw [5] (fun v wr => ∃ k : Nat, k ≤ n ∧ v = .int .i64 k ∧ Below W.heap.size W wr ∧ ∀ i (h : i < L.length), i < k → clB d L[i] = true) (fun v _ => n - (intOf v).toNat)
  case atStart => exact ⟨0, Nat.zero_le _, rfl, Below.refl _ _, fun i h h2 => absurd h2 (by omega)⟩
  case round =>
    obtain ⟨k, hk, rfl, hb, hi⟩ := hrel
    have HI := hid_ hi; clear hi
    have y0 := (hb.cell (cell_lt q0)).trans q0
    clear q0
    by_cases hlt : k < n
    · have hlt' : k < L.length := by rw [HN.out]; exact hlt
      obtain ⟨x, hx⟩ : ∃ x, L[k]'hlt' = x := ⟨_, rfl⟩
      obtain ⟨b, o, rfl, h0, h1, h2⟩ := (HR.out.below hb).ln_at k hlt HN.out x hx
      have ha := HAT.out x (hx ▸ List.getElem_mem hlt')
      rw [HN2.out] at ha
      have HX := hid_ hx; clear hx
      obtain ⟨xa, xv, xd⟩ := x
      simp only at ha h0 h1 h2
      obtain ⟨a, rfl⟩ := Int.eq_ofNat_of_zero_le ha.1
      have han : a < n2 := by omega
      have hanz : (a : Int) < (n2 : Int) := by omega
      have hlz : (k : Int) < (n : Int) := by omega
      have hd0 : decide ((a : Int) < 0) = false := by rw [decide_eq_false_iff_not]; omega
      have hd1 : decide ((n2 : Int) ≤ (a : Int)) = false := by rw [decide_eq_false_iff_not]; omega
      obtain ⟨bd, od, rfl, hcd⟩ := (HR2.out.below hb).int a han HN2.out
      have hget : d.getD a 0 = d[a]'(by rw [HN2.out]; exact han) := by simp [HN2.out, han]
      obtain ⟨y, hy⟩ : ∃ y, d[a]'(by rw [HN2.out]; exact han) = y := ⟨_, rfl⟩
      rw [hy] at hcd hget
      clear hy
      have HC := hid_ (show clB d L[k] = (xd || (y == xv)) by rw [HX.out]; unfold clB; simp only [Int.toNat_natCast, hget]); clear hget
      have hadd : ∀ u : Int, u = u := fun _ => rfl
      clear hadd ha
      have HCD := hid_ (show ∀ o2, (wr.alloc o2).cell? ⟨bd, od + a, none⟩ = some (.int .i64 y) from fun o2 => by rw [World.cell?_alloc_past _ _ _ (cell_lt hcd)]; exact hcd)
      have hcd2 := HCD.out (.cells #[.int .i64 (a : Int), .int .i64 xv, .bool xd] 38)
      go_wp2
      cases xd
      · by_cases hyx : y = xv
        · subst hyx
          have hne : (y != y) = false := by simp
          go_quiet (fail)
          all_goals go_wp2
          all_goals
            go_roundw
            case rel =>
              refine ⟨k + 1, by omega, by go_num, bdN (hb.alloc hb.size _) _, fun i h hi => ?_⟩
              by_cases e : i = k
              · subst e; rw [HC.out]; simp
              · exact HI.out i h (by omega)
            case measure => exact meas_ hlt
        · have hne : (y != xv) = true := by simpa using hyx
          go_quiet (fail)
          all_goals go_wp2
          all_goals (go_returns
                     refine ⟨ret_bool (cleanB_at hlt' (by rw [HC.out]; simpa using hyx)).symm, BB.out.trans ((bdN (hb.alloc hb.size _) _).mono BB.out.size)⟩)
      · go_quiet (fail)
        all_goals go_wp2
        all_goals
          go_roundw
          case rel =>
            refine ⟨k + 1, by omega, by go_num, bdN (hb.alloc hb.size _) _, fun i h hi => ?_⟩
            by_cases e : i = k
            · subst e; rw [HC.out]; simp
            · exact HI.out i h (by omega)
          case measure => exact meas_ hlt
    · obtain rfl : k = n := by omega
      have HE := hid_ (cleanB_all (fun i h => HI.out i h (by have := HN.out; omega)))
      go_wp2
      go_returns
      exact ⟨ret_bool HE.out.symm, BB.out.trans (hb.mono BB.out.size)⟩
end Go.Proofs.Ytejnieoneknbbaa
