/-
  Schedulers: the sorted order and the sweep, whole.
-/
import Derived.Test.YtfelfopcmkeimaaScG
import Derived.Test.YtfelfopcmkeimaaPush
namespace Go.Proofs.Ytfelfopcmkeimaa
open Go.ChangeShapes Go.WideShapes Go.ChangeAt Go.RowKit Go.BigFrame

theorem implSort_any (l : List Rq) (A : Option Addr) (n c : Nat) (w : World) (hn : l.length = n) (hm : n ≤ 4194304) (hc : n ≤ c) (hcm : c ≤ maxLen) (hR : Rd w 3 A n (rqC l)) :
    Calls Try.prog 17 #[.slice A n c] w (RSl w 3 1 (sortR l).length (intC (sortR l))) := by
  have HR := hid_ hR; clear hR
  have HN := hid_ hn; clear hn
  cases q : rv l
  · have HS := hid_ (sortR_no q)
    go_enter Try.func17, Try.ntmps17
    go_wp2_with (go_at_call 39; refine (implRV_any l A n c _ HN.out hm hc hcm HR.out).mono ?_; rintro e w1 ⟨rfl, hb1⟩)
    go_returns
    exact RSl.of_own' (World.ownsRow_nil _ _ _ _) hb1 (by rw [HS.out]; rfl) (by rw [HS.out]; rfl)
  · have HS := hid_ (show sortR l = sortN l n by rw [sortR_ok q, HN.out])
    have hl := rv_length q
    have HL := hid_ (show n ≤ 30 by rw [← HN.out]; exact hl)
    clear hl
    go_enter Try.func17, Try.ntmps17
    go_wp2_with (go_at_call 39; refine (implRV_any l A n c _ HN.out hm hc hcm HR.out).mono ?_; rintro e w1 ⟨rfl, hb1⟩)
    have HB := hid_ hb1; clear hb1
    refine (sortedOrd_any l A n c _ HN.out HL.out (HR.out.below HB.out)).mono ?_
    rintro e w2 ⟨A2, c2, rfl, h1, h2, ho, hb2⟩
    have HO := hid_ ho; clear ho
    have HB2 := hid_ hb2; clear hb2
    go_wp2
    go_returns
    exact RSl.of_own' (own_base HO.out HB.out.size) (HB.out.trans (HB2.out.mono HB.out.size)) (by rw [HS.out, sortN_length]) (by rw [HS.out])

set_option maxHeartbeats 2000000 in
theorem specSort_any (l : List Rq) (A : Option Addr) (n c : Nat) (w : World) (hn : l.length = n) (hm : n ≤ 4194304) (hR : Rd w 3 A n (rqC l)) :
    Calls Try.prog 30 #[.slice A n c] w (RSl w 3 1 (sortR l).length (intC (sortR l))) := by
  have HR := hid_ hR; clear hR
  have HN := hid_ hn; clear hn
  go_enter Try.func30, Try.ntmps30
  go_wp2
  go_loopw [3, 4] (fun v i wr => ∃ k : Nat, k ≤ n ∧ i = .int .i64 k ∧ wr.ownsRow w.heap.size 3 1 v k (intC (sortN l k)) ∧ Below w.heap.size w wr ∧ Hid (k = 0 ∨ rv l = true)) (fun _ i _ => n - (intOf i).toNat)
  case atStart => exact ⟨0, Nat.zero_le _, rfl, own_empty w _ _, (Below.refl _ _).alloc (Nat.le_refl _) _, .inl rfl⟩
  case round =>
    obtain ⟨k, hk, rfl, ho, hb, HV⟩ := hrel
    have HO := hid_ ho; clear ho
    have HB := hid_ hb; clear hb
    have hbs := HB.out.size
    by_cases hlt : k < n
    · cases q : rv l
      · have hk0 : k = 0 := by rcases HV.out with h | h
                               · exact h
                               · rw [q] at h; cases h
        subst hk0
        have HS := hid_ (sortR_no q)
        obtain ⟨A3, c3, rfl, _, _⟩ := own_shape HO.out
        go_wp2_with (go_at_call 35; refine (specRV_any l A n c _ HN.out hm (HR.out.below HB.out)).mono ?_; rintro e w1 ⟨rfl, rfl⟩)
        go_returns
        exact RSl.of_own' HO.out HB.out (by rw [HS.out]; rfl) (by rw [HS.out]; rfl)
      · have hl := rv_length q
        have hn30 : n ≤ 30 := by rw [← HN.out]; exact hl
        clear hl
        obtain ⟨A3, c3, rfl, hc3, hcm3⟩ := own_shape HO.out
        have HC3 := hid_ hcm3; clear hcm3
        go_wp2_with (go_at_call 35; refine (specRV_any l A n c _ HN.out hm (HR.out.below HB.out)).mono ?_; rintro e w1 ⟨rfl, rfl⟩)
        have HQ := hid_ q; clear q
        refine (insert_any l A n c (sortN l k) A3 k c3 k _ HN.out (HR.out.below HB.out) (sortN_length l k) hc3 HC3.out ⟨_, HO.out⟩ (by omega) (by omega) hlt (fun x hx => by have := sortN_mem.1 hx; omega)).mono ?_
        rintro e w2 ⟨A4, c4, rfl, h1, h2, ho4, hb4⟩
        have HO4 := hid_ ho4; clear ho4
        have HB4 := hid_ hb4; clear hb4
        clear h1 h2
        go_wp2
        go_roundw
        case rel => exact ⟨k + 1, by omega, by go_num, own_base HO4.out hbs, HB.out.trans (HB4.out.mono hbs), .inr (by first | exact HQ.out | trivial)⟩
        case measure => simp [intOf]; omega
    · obtain rfl : k = n := by omega
      obtain ⟨A3, c3, rfl, _, _⟩ := own_shape HO.out
      have HS := hid_ (show sortR l = sortN l k from by
        rcases HV.out with h | h
        · subst h
          have : l = [] := List.eq_nil_of_length_eq_zero HN.out
          subst this
          rfl
        · rw [sortR_ok h, HN.out])
      go_wp2
      go_returns
      exact RSl.of_own' HO.out HB.out (by rw [HS.out, sortN_length]) (by rw [HS.out])

/-- two rows of numbers of the call's own -/
structure Two (w : World) (B : Nat) (P : Nat → Prop) (va : Value) (a : List Int) (vb : Value) (b : List Int) : Prop where
  ra : w.ownsRow B 3 1 va a.length (intC a)
  rb : w.ownsRow B 3 1 vb b.length (intC b)
  ap : ∀ g, va.ownBlock = some g → vb.ownBlock ≠ some g
  pa : ∀ g, va.ownBlock = some g → P g
  pb : ∀ g, vb.ownBlock = some g → P g
theorem Two.pushA {w w' : World} {B : Nat} {P : Nat → Prop} {va va' vb : Value} {a b : List Int} {x : Int} (h : Two w B P va a vb b) (ho : w'.ownsRow B 3 1 va' (a.length + 1) (intC a ++ [.int .i64 x])) (hg : w.grownBy w' va.ownBlock)
    (hf : ∀ g, va'.ownBlock = some g → va.ownBlock = some g ∨ w.heap.size ≤ g) (hP : ∀ g, w.heap.size ≤ g → P g) : Two w' B P va' (a ++ [x]) vb b := by
  refine ⟨own_eq ho (by simp) (by rw [intC_append]; rfl), h.rb.kept hg ?_, fun g e1 e2 => ?_, fun g e => ?_, h.pb⟩
  · cases hv : vb.ownBlock with
    | none => exact .inl rfl
    | some g => exact .inr (fun e => h.ap g e.symm hv)
  · rcases hf g e1 with h1 | h1
    · exact h.ap g h1 e2
    · have := (h.rb.lt g e2).2; omega
  · rcases hf g e with h1 | h1
    · exact h.pa g h1
    · exact hP g h1
theorem Two.pushB {w w' : World} {B : Nat} {P : Nat → Prop} {va vb vb' : Value} {a b : List Int} {x : Int} (h : Two w B P va a vb b) (ho : w'.ownsRow B 3 1 vb' (b.length + 1) (intC b ++ [.int .i64 x])) (hg : w.grownBy w' vb.ownBlock)
    (hf : ∀ g, vb'.ownBlock = some g → vb.ownBlock = some g ∨ w.heap.size ≤ g) (hP : ∀ g, w.heap.size ≤ g → P g) : Two w' B P va a vb' (b ++ [x]) := by
  refine ⟨h.ra.kept hg ?_, own_eq ho (by simp) (by rw [intC_append]; rfl), fun g e1 e2 => ?_, h.pa, fun g e => ?_⟩
  · cases hv : va.ownBlock with
    | none => exact .inl rfl
    | some g => exact .inr (fun e => h.ap g hv e.symm)
  · rcases hf g e2 with h1 | h1
    · exact h.ap g e1 h1
    · have := (h.ra.lt g e1).2; omega
  · rcases hf g e with h1 | h1
    · exact h.pb g h1
    · exact hP g h1
theorem ints_own_rd {w w' : World} {B E k n c : Nat} {A : Option Addr} {xs : List Value} (h : w.ownsRow B E k (.slice A n c) n xs) (hk : ∀ b, B ≤ b → b < w.heap.size → w'.heap[b]? = w.heap[b]?) : Rd w' k A n xs := by
  have hr := own_rd h
  refine ⟨hr.1, fun hn => ?_⟩
  obtain ⟨b, o, e, hc⟩ := hr.2 hn
  obtain ⟨g, c', e', hB, hlt⟩ := h.form hn
  have : g = b := by
    subst e
    injection e' with e1
    injection e1 with e2
    injection e2 with e3
    exact e3.symm
  subst this
  exact ⟨g, o, e, fun j u hu => (World.cell?_of_block (w := w) (hk g hB hlt)).trans (hc j u hu)⟩
end Go.Proofs.Ytfelfopcmkeimaa
