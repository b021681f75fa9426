/-
  The reader of a code: pick, odd, and what opens it; 'alive'.
-/
import Derived.Test.YtejnieoneknbbaaBase
namespace Go.Proofs.Ytejnieoneknbbaa
open Go.ChangeShapes Go.WideShapes Go.ChangeAt Go.RowKit Go.BigFrame

/-- bytes that came in -/
def Bys (w : World) (B : Nat) (A : Option Addr) (n : Nat) : Prop :=
  0 < n → ∃ b o, A = some ⟨b, o, none⟩ ∧ b < B ∧ ∀ j, j < n → ∃ v : Int, 0 ≤ v ∧ v ≤ 255 ∧ w.cell? ⟨b, o + j, none⟩ = some (.int .u8 v)

/-- block g is a reader at place p -/
def RdrX (w : World) (g : Nat) (p : Int) : Prop :=
  ∃ A n c, w.heap[g]? = some (.cells #[.slice A n c, .int .i64 p] 84 (0, 0)) ∧ n ≤ 2000 ∧ 0 ≤ p ∧ Bys w g A n

theorem RdrX.lt {w : World} {g : Nat} {p : Int} (h : RdrX w g p) : g < w.heap.size := by
  obtain ⟨A, n, c, h, _⟩ := h
  exact (Array.getElem?_eq_some_iff.1 h).1

theorem Bys.keep {w w' : World} {B n : Nat} {A : Option Addr} (h : Bys w B A n) (hb : ∀ b, b < B → w'.heap[b]? = w.heap[b]?) : Bys w' B A n := by
  intro hn
  obtain ⟨b, o, e, hlt, hc⟩ := h hn
  refine ⟨b, o, e, hlt, fun j hj => ?_⟩
  obtain ⟨v, h0, h1, h2⟩ := hc j hj
  exact ⟨v, h0, h1, (World.cell?_of_block (w := w) (hb b hlt)).trans h2⟩

theorem RdrX.keep {w w' : World} {g : Nat} {p : Int} (h : RdrX w g p) (hb : ∀ b, b < g + 1 → w'.heap[b]? = w.heap[b]?) : RdrX w' g p := by
  obtain ⟨A, n, c, h1, h2, h3, h4⟩ := h
  exact ⟨A, n, c, (hb g (by omega)).trans h1, h2, h3, h4.keep (fun b hlt => hb b (by omega))⟩
theorem RdrX.below {w w' : World} {g : Nat} {p : Int} (h : RdrX w g p) (hb : Below w.heap.size w w') : RdrX w' g p :=
  h.keep (fun b hlt => hb.block b (by have := h.lt; omega))

theorem emod_facts (p n : Int) (hp : 0 ≤ p) (hn : 0 < n) : 0 ≤ p % n ∧ p % n < n ∧ p % n ≤ p := by
  refine ⟨Int.emod_nonneg _ (by omega), Int.emod_lt_of_pos _ hn, ?_⟩
  have := Int.mul_ediv_add_emod p n
  have h2 : 0 ≤ n * (p / n) := Int.mul_nonneg (by omega) (Int.ediv_nonneg hp (by omega))
  omega
theorem tmod_facts (p n : Int) (hp : 0 ≤ p) (hn : 0 < n) : 0 ≤ p.tmod n ∧ p.tmod n < n ∧ p.tmod n ≤ p := by
  rw [Int.tmod_eq_emod_of_nonneg hp]
  refine ⟨Int.emod_nonneg _ (by omega), Int.emod_lt_of_pos _ hn, ?_⟩
  have := Int.mul_ediv_add_emod p n
  have h2 : 0 ≤ n * (p / n) := Int.mul_nonneg (by omega) (Int.ediv_nonneg hp (by omega))
  omega

theorem bits_xor_i64 (a b : Int) (ha : 0 ≤ a) (ha2 : a < 4611686018427387904) (hb : 0 ≤ b) (hb2 : b < 4611686018427387904) : 0 ≤ bits .xor .i64 a b := by
  obtain ⟨a, rfl⟩ := Int.eq_ofNat_of_zero_le ha
  obtain ⟨b, rfl⟩ := Int.eq_ofNat_of_zero_le hb
  have hx : a ^^^ b < 2 ^ 62 := Nat.xor_lt_two_pow (by omega) (by omega)
  have h1 : (BitVec.ofInt 64 (a : Int)).toNat = a := by
    rw [BitVec.ofInt_natCast, BitVec.toNat_ofNat]; exact Nat.mod_eq_of_lt (by omega)
  have h2 : (BitVec.ofInt 64 (b : Int)).toNat = b := by
    rw [BitVec.ofInt_natCast, BitVec.toNat_ofNat]; exact Nat.mod_eq_of_lt (by omega)
  show 0 ≤ IntKind.i64.wrap ((BitVec.ofInt 64 (a : Int) ^^^ BitVec.ofInt 64 (b : Int)).toNat : Int)
  rw [BitVec.toNat_xor, h1, h2]
  simp [IntKind.wrap, IntKind.bits, IntKind.signed]
  omega

/-- what pick answers -/
def PickedX (g : Nat) (p n : Int) (w : World) (e : Ending) (w' : World) : Prop :=
  ∃ k : Int, e = .returned (.int .i64 k) ∧ 0 ≤ k ∧ (1 ≤ n → k < n) ∧ (n < 1 → k = 0) ∧ RdrX w' g (p + 1) ∧ w.grownBy w' (some g)

set_option maxHeartbeats 1000000 in
set_option maxRecDepth 100000 in
theorem pickX_any (g : Nat) (p n : Int) (w : World) (hp : p ≤ 1000000) (hn1 : -1000000 ≤ n) (hn : n ≤ 1000000) (hR : RdrX w g p) :
    Calls Try.prog 51 #[.pointer (some ⟨g, 0, none⟩), .int .i64 n] w (PickedX g p n w) := by
  obtain ⟨A, m, c, hg, hm, hp0, hB⟩ := hR
  have c0 : w.cell? ⟨g, 0, none⟩ = some (.slice A m c) := by simp [World.cell?, hg]
  have c1 : w.cell? ⟨g, 1, none⟩ = some (.int .i64 p) := by simp [World.cell?, hg]
  have f1 : w.frozen? ⟨g, 1, none⟩ = false := by simp [World.frozen?, hg]
  have d0 : (w.setCell ⟨g, 1, none⟩ (.int .i64 (p + 1))).cell? ⟨g, 0, none⟩ = some (.slice A m c) := by simp [World.cell?, World.setCell, Array.getElem?_modify, hg]
  have d1 : (w.setCell ⟨g, 1, none⟩ (.int .i64 (p + 1))).cell? ⟨g, 1, none⟩ = some (.int .i64 (p + 1)) := by simp [World.cell?, World.setCell, Array.getElem?_modify, hg]
  have HG := hid_ hg; clear hg
  have HB := hid_ hB; clear hB
  have hR1 : RdrX (w.setCell ⟨g, 1, none⟩ (.int .i64 (p + 1))) g (p + 1) := by
    refine ⟨A, m, c, ?_, hm, by omega, HB.out.keep (fun b hb => Below.heap_setCell _ _ _ _ (show b ≠ g by omega))⟩
    have := HG.out
    simp [World.setCell, Array.getElem?_modify, this]
  have hG1 : w.grownBy (w.setCell ⟨g, 1, none⟩ (.int .i64 (p + 1))) (some g) := ⟨rfl, rfl, rfl, by simp, fun k _ hk => Below.heap_setCell _ _ _ _ (fun e => hk (by rw [e]))⟩
  have HR1 := hid_ hR1; clear hR1
  have HG1 := hid_ hG1; clear hG1
  by_cases hn0 : n < 1
  · go_enter Try.func51, Try.ntmps51
    go_wp2
    go_returns
    exact ⟨0, rfl, by omega, by omega, by omega, HR1.out, HG1.out⟩
  · by_cases hm0 : m = 0
    · subst hm0
      go_enter Try.func51, Try.ntmps51
      go_wp2
      go_returns
      exact ⟨0, rfl, by omega, by omega, by omega, HR1.out, HG1.out⟩
    · have hmz : ((m : Int) == 0) = false := by simp; omega
      by_cases hpm : p < m
      · obtain ⟨b, o, rfl, hbg, hcell⟩ := HB.out (by omega)
        obtain ⟨v, v0, v1, hv⟩ := hcell p.toNat (by omega)
        clear hcell
        have hv' : (w.setCell ⟨g, 1, none⟩ (.int .i64 (p + 1))).cell? ⟨b, o + p.toNat, none⟩ = some (.int .u8 v) := by
          rw [World.cell?_of_block (w := w) (Below.heap_setCell _ _ _ _ (show b ≠ g by omega))]; exact hv
        clear hv
        have hne : ¬ n = 0 := by omega
        obtain ⟨t0, t1, t2⟩ := emod_facts v n v0 (by omega)
        go_enter Try.func51, Try.ntmps51
        go_wp2
        go_returns
        exact ⟨_, rfl, by first | exact t0 | omega, fun _ => by first | exact t1 | omega, by omega, HR1.out, HG1.out⟩
      · obtain ⟨b, o, rfl, hbg, hcell⟩ := HB.out (by omega)
        obtain ⟨r0, r1, r2⟩ := emod_facts p m hp0 (by omega)
        obtain ⟨s0, s1, s2⟩ := emod_facts (p * 7 + 3) m (by omega) (by omega)
        have dv0 : 0 ≤ p / (m : Int) := Int.ediv_nonneg hp0 (by omega)
        have dv1 : p / (m : Int) ≤ p := Int.ediv_le_self _ hp0
        obtain ⟨v, v0, v1, hv⟩ := hcell (p % m).toNat (by omega)
        obtain ⟨u, u0, u1, hu⟩ := hcell ((p * 7 + 3) % m).toNat (by omega)
        clear hcell
        have hv' : (w.setCell ⟨g, 1, none⟩ (.int .i64 (p + 1))).cell? ⟨b, o + (p % m).toNat, none⟩ = some (.int .u8 v) := by
          rw [World.cell?_of_block (w := w) (Below.heap_setCell _ _ _ _ (show b ≠ g by omega))]; exact hv
        have hu' : (w.setCell ⟨g, 1, none⟩ (.int .i64 (p + 1))).cell? ⟨b, o + ((p * 7 + 3) % m).toNat, none⟩ = some (.int .u8 u) := by
          rw [World.cell?_of_block (w := w) (Below.heap_setCell _ _ _ _ (show b ≠ g by omega))]; exact hu
        clear hv hu
        have hne : ¬ (m : Int) = 0 := by omega
        go_enter Try.func51, Try.ntmps51
        go_wp2
        go_quiet (fail)
        go_wp2
        have hx := bits_xor_i64 (v * 131 + u * 1117 + p * 29 + p / ↑m * 53) ((v * 131 + u * 1117 + p * 29 + p / ↑m * 53) / 64) (by omega) (by omega) (by omega) (by omega)
        obtain ⟨t0, t1, _⟩ := tmod_facts _ n hx (by omega)
        go_returns
        refine ⟨_, rfl, t0, fun _ => t1, by omega, ?_, ?_⟩
        · exact HR1.out.keep (fun b _ => rfl)
        · exact gb_trans HG1.out ⟨rfl, rfl, rfl, Nat.le_refl _, fun _ _ _ => rfl⟩

/-- block g is a reader at a place that is at most p -/
def Rdr (w : World) (g : Nat) (p : Int) : Prop := ∃ q, q ≤ p ∧ RdrX w g q
theorem Rdr.lt {w : World} {g : Nat} {p : Int} (h : Rdr w g p) : g < w.heap.size := by
  obtain ⟨q, _, h⟩ := h; exact h.lt
theorem Rdr.below {w w' : World} {g : Nat} {p : Int} (h : Rdr w g p) (hb : Below w.heap.size w w') : Rdr w' g p := by
  obtain ⟨q, hq, h⟩ := h; exact ⟨q, hq, h.below hb⟩
theorem Rdr.keep {w w' : World} {g : Nat} {p : Int} (h : Rdr w g p) (hb : ∀ b, b < g + 1 → w'.heap[b]? = w.heap[b]?) : Rdr w' g p := by
  obtain ⟨q, hq, h⟩ := h; exact ⟨q, hq, h.keep hb⟩
theorem Rdr.mono {w : World} {g : Nat} {p p' : Int} (h : Rdr w g p) (hp : p ≤ p') : Rdr w g p' := by
  obtain ⟨q, hq, h⟩ := h; exact ⟨q, by omega, h⟩
theorem Rdr.alloc {w : World} {g : Nat} {p : Int} (h : Rdr w g p) (o : Obj) : Rdr (w.alloc o) g p := h.below ((Below.refl _ _).alloc (Nat.le_refl _) o)

/-- what pick answers -/
def Picked (g : Nat) (p n : Int) (w : World) (e : Ending) (w' : World) : Prop :=
  ∃ k : Int, e = .returned (.int .i64 k) ∧ 0 ≤ k ∧ (1 ≤ n → k < n) ∧ (n < 1 → k = 0) ∧ Rdr w' g (p + 1) ∧ w.grownBy w' (some g)

theorem pick_any (g : Nat) (p n : Int) (w : World) (hp : p ≤ 1000000) (hn1 : -1000000 ≤ n) (hn : n ≤ 1000000) (hR : Rdr w g p) :
    Calls Try.prog 51 #[.pointer (some ⟨g, 0, none⟩), .int .i64 n] w (Picked g p n w) := by
  obtain ⟨q, hq, h⟩ := hR
  exact (pickX_any g q n w (by omega) hn1 hn h).mono fun e w' ⟨k, h1, h2, h3, h4, h5, h6⟩ => ⟨k, h1, h2, h3, h4, ⟨q + 1, by omega, h5⟩, h6⟩

def Odd (g : Nat) (p : Int) (w : World) (e : Ending) (w' : World) : Prop :=
  ∃ b : Bool, e = .returned (.bool b) ∧ Rdr w' g (p + 1) ∧ w.grownBy w' (some g)

set_option maxHeartbeats 1000000 in
theorem odd_any (g : Nat) (p n : Int) (w : World) (hp : p ≤ 1000000) (hn1 : -1000000 ≤ n) (hn : n ≤ 1000000) (hR : Rdr w g p) :
    Calls Try.prog 72 #[.pointer (some ⟨g, 0, none⟩), .int .i64 n] w (Odd g p w) := by
  have HR := hid_ hR; clear hR
  by_cases hn0 : 0 < n
  · go_enter Try.func72, Try.ntmps72
    go_wp2_with (go_at_call 51; refine (pick_any g p n _ hp hn1 hn HR.out).mono ?_; rintro e w1 ⟨k, rfl, k0, k1, k2, hr1, hg1⟩)
    go_returns
    exact ⟨_, rfl, hr1, hg1⟩
  · go_enter Try.func72, Try.ntmps72
    go_wp2
    go_returns
    exact ⟨_, rfl, HR.out.mono (by omega), World.grownBy.refl _ _⟩

/-- the code as it came in -/
def Opened (w : World) (e : Ending) (w' : World) : Prop :=
  e = .returned (.pointer (some ⟨w.heap.size, 0, none⟩)) ∧ Rdr w' w.heap.size 0 ∧ Below w.heap.size w w'

set_option maxHeartbeats 1000000 in
theorem open_any (A : Option Addr) (n c : Nat) (w : World) (hn : n ≤ 1048576) (hc : n ≤ c) (hcm : c ≤ maxLen) (hB : Bys w w.heap.size A n) :
    Calls Try.prog 50 #[.slice A n c] w (Opened w) := by
  unfold maxLen at hcm
  have HB := hid_ hB; clear hB
  by_cases hbig : (2000 : Int) < (n : Int)
  · have h2 : (2000 : Int) ≤ (c : Int) := by omega
    obtain ⟨b, o, rfl, hlt, hcell⟩ := HB.out (by omega)
    go_enter Try.func50, Try.ntmps50
    go_wp2
    go_returns
    refine ⟨by simp, ⟨0, by omega, ?_⟩, (Below.refl _ _).alloc (Nat.le_refl _) _⟩
    refine ⟨some ⟨b, o, none⟩, 2000, c, heap_alloc_new w _, by omega, by omega, ?_⟩
    have h3 : Bys w w.heap.size (some ⟨b, o, none⟩) 2000 := fun _ => ⟨b, o, rfl, hlt, fun j hj => hcell j (by omega)⟩
    exact h3.keep (fun b hb => Below.heap_alloc _ _ _ hb)
  · go_enter Try.func50, Try.ntmps50
    go_wp2
    go_returns
    refine ⟨by simp, ⟨0, by omega, ?_⟩, (Below.refl _ _).alloc (Nat.le_refl _) _⟩
    exact ⟨A, n, c, heap_alloc_new w _, by omega, by omega, HB.out.keep (fun b hb => Below.heap_alloc _ _ _ hb)⟩

/-- an element of a table that was laid before the reader was asked -/
theorem lit_cell (l : List Int) (w w' : World) (T : TypeId) (g : Nat) (hg : (w.alloc (.cells (intC l).toArray T)).grownBy w' (some g)) (hne : g < w.heap.size) (k : Int) (h0 : 0 ≤ k) (h1 : k < l.length) :
    ∃ u, u ∈ l ∧ w'.cell? ⟨w.heap.size, k.toNat, none⟩ = some (.int .i64 u) := by
  have hk : k.toNat < l.length := by omega
  refine ⟨l[k.toNat], List.getElem_mem hk, ?_⟩
  rw [World.cell?_of_block (w := w.alloc (.cells (intC l).toArray T)) (hg.block w.heap.size (by simp) (by intro e; injection e with e; omega))]
  have := news_alloc w (intC l) T k.toNat (.int .i64 l[k.toNat]) (by simp [intC, hk])
  rwa [add_mid, Nat.zero_add] at this
end Go.Proofs.Ytejnieoneknbbaa
