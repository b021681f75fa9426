/-
  Flights: the draws of the laws.
-/
import Derived.Test.YtfinefjihphnhaaFlG
import Derived.Test.YtfinefjihphnhaaOpenB
import Derived.Test.YtfinefjihphnhaaAlive
namespace Go.Proofs.Ytfinefjihphnhaa
open Go.ChangeShapes Go.WideShapes Go.ChangeAt Go.RowKit Go.BigFrame Go.Deep

theorem below_of_gbs {B : Nat} {a b : World} {g : Nat} (h : a.grownBy b (some g)) (hB : B ≤ a.heap.size) (hg : B ≤ g) : Below B a b :=
  below_of_gb h hB (fun k e => by injection e with e; omega)

/-- a drawn list of flights -/
def FlD (w : World) (l : List Fl) (A : Option Addr) (c : Nat) (w' : World) : Prop :=
  l.length ≤ 17 ∧ l.length ≤ c ∧ c ≤ maxLen ∧ DrF l ∧ w'.ownsRow w.heap.size 35 3 (.slice A l.length c) l.length (flC l) ∧ Below w.heap.size w w'
def DrawnF0 (w : World) (e : Ending) (w' : World) : Prop := ∃ (l : List Fl) (A : Option Addr) (c : Nat), e = .returned (.slice A l.length c) ∧ FlD w l A c w'
def DrawnF1 (w : World) (e : Ending) (w' : World) : Prop := ∃ (l : List Fl) (A : Option Addr) (c : Nat) (x : Int), e = .returned (.tuple #[.slice A l.length c, .int .i64 x]) ∧ (0 ≤ x ∧ x ≤ 100001) ∧ FlD w l A c w'
def DrawnF2 (w : World) (e : Ending) (w' : World) : Prop := ∃ (l : List Fl) (A : Option Addr) (c : Nat) (x y : Int), e = .returned (.tuple #[.slice A l.length c, .int .i64 x, .int .i64 y]) ∧ (-1 ≤ x ∧ x ≤ 100001) ∧ (0 ≤ y ∧ y ≤ 100001) ∧ FlD w l A c w'
theorem FlD.mk_ {w w' : World} {l : List Fl} {A : Option Addr} {c : Nat} (h0 : l.length ≤ 17) (h1 : l.length ≤ c) (h2 : c ≤ maxLen) (h3 : DrF l) (ho : w'.ownsRow w.heap.size 35 3 (.slice A l.length c) l.length (flC l)) (hb : Below w.heap.size w w') : FlD w l A c w' := ⟨h0, h1, h2, h3, ho, hb⟩

set_option maxHeartbeats 1000000 in
theorem drawFV_any (A : Option Addr) (n c : Nat) (w : World) (hn : n ≤ 1048576) (hc : n ≤ c) (hcm : c ≤ maxLen) (hB : Bys w w.heap.size A n) :
    Calls Try.prog 21 #[.slice A n c] w (DrawnF0 w) := by
  have HB := hid_ hB; clear hB
  have HC := hid_ hcm; clear hcm
  go_enter Try.func21, Try.ntmps21
  go_wp2_with fail
  refine (open_any A n c _ hn hc HC.out HB.out).mono ?_
  rintro e w1 ⟨rfl, hr1, hb1⟩
  have HBB := hid_ hb1; clear hb1
  have HR1 := hid_ hr1; clear hr1
  have hltw := HR1.out.lt
  go_wp2_with fail
  refine (l20Flights_any w.heap.size 2 _ (by omega) (by omega) HR1.out).mono ?_
  rintro e w2 ⟨l, A2, c2, rfl, hl, hc1, hc2, hd, ho2, hr2, hg2⟩
  have HO2 := hid_ ho2; clear ho2
  have HG2 := hid_ hg2; clear hg2
  have HR2 := hid_ hr2; clear hr2
  have HH := hid_ (And.intro hl (And.intro hc1 (And.intro hc2 hd))); clear hl hc1 hc2 hd
  clear HR2
  go_wp2
  go_returns
  exact ⟨l, A2, c2, rfl, FlD.mk_ HH.out.1 HH.out.2.1 HH.out.2.2.1 HH.out.2.2.2 (own_base HO2.out HBB.out.size) (HBB.out.trans (below_of_gbs HG2.out HBB.out.size (Nat.le_refl _)))⟩

set_option maxHeartbeats 1000000 in
theorem drawLF_any (A : Option Addr) (n c : Nat) (w : World) (hn : n ≤ 1048576) (hc : n ≤ c) (hcm : c ≤ maxLen) (hB : Bys w w.heap.size A n) :
    Calls Try.prog 30 #[.slice A n c] w (DrawnF2 w) := by
  have HB := hid_ hB; clear hB
  have HC := hid_ hcm; clear hcm
  go_enter Try.func30, Try.ntmps30
  go_wp2_with fail
  refine (open_any A n c _ hn hc HC.out HB.out).mono ?_
  rintro e w1 ⟨rfl, hr1, hb1⟩
  have HBB := hid_ hb1; clear hb1
  have HR1 := hid_ hr1; clear hr1
  have hltw := HR1.out.lt
  go_wp2_with fail
  refine (l20Flights_any w.heap.size 12 _ (by omega) (by omega) HR1.out).mono ?_
  rintro e w2 ⟨l, A2, c2, rfl, hl, hc1, hc2, hd, ho2, hr2, hg2⟩
  have HO2 := hid_ ho2; clear ho2
  have HG2 := hid_ hg2; clear hg2
  have HR2 := hid_ hr2; clear hr2
  have HH := hid_ (And.intro hl (And.intro hc1 (And.intro hc2 hd))); clear hl hc1 hc2 hd
  go_wp2_with fail
  refine (l20When_any w.heap.size 100 _ (by omega) (by omega) HR2.out).mono ?_
  rintro e w3 ⟨x, y, rfl, hx, hy, hr3, hg3⟩
  have HG3 := hid_ hg3; clear hg3
  clear hr3
  go_wp2
  go_returns
  exact ⟨l, A2, c2, x, y, rfl, hx, hy, FlD.mk_ HH.out.1 HH.out.2.1 HH.out.2.2.1 HH.out.2.2.2 (own_base (own_pick HO2.out HG3.out hltw) HBB.out.size) ((HBB.out.trans (below_of_gbs HG2.out HBB.out.size (Nat.le_refl _))).trans (below_of_gbs HG3.out (Nat.le_trans HBB.out.size HG2.out.size) (Nat.le_refl _)))⟩

set_option maxHeartbeats 1000000 in
theorem drawNL_any (A : Option Addr) (n c : Nat) (w : World) (hn : n ≤ 1048576) (hc : n ≤ c) (hcm : c ≤ maxLen) (hB : Bys w w.heap.size A n) :
    Calls Try.prog 29 #[.slice A n c] w (DrawnF1 w) := by
  have HB := hid_ hB; clear hB
  have HC := hid_ hcm; clear hcm
  go_enter Try.func29, Try.ntmps29
  go_wp2_with fail
  refine (open_any A n c _ hn hc HC.out HB.out).mono ?_
  rintro e w1 ⟨rfl, hr1, hb1⟩
  have HBB := hid_ hb1; clear hb1
  have HR1 := hid_ hr1; clear hr1
  have hltw := HR1.out.lt
  go_wp2_with fail
  refine (l20Flights_any w.heap.size 12 _ (by omega) (by omega) HR1.out).mono ?_
  rintro e w2 ⟨l, A2, c2, rfl, hl, hc1, hc2, hd, ho2, hr2, hg2⟩
  have HO2 := hid_ ho2; clear ho2
  have HG2 := hid_ hg2; clear hg2
  have HR2 := hid_ hr2; clear hr2
  have HH := hid_ (And.intro hl (And.intro hc1 (And.intro hc2 hd))); clear hl hc1 hc2 hd
  go_wp2_with fail
  refine (l20When_any w.heap.size 100 _ (by omega) (by omega) HR2.out).mono ?_
  rintro e w3 ⟨x, y, rfl, hx, hy, hr3, hg3⟩
  have HG3 := hid_ hg3; clear hg3
  clear hr3
  go_wp2
  go_returns
  exact ⟨l, A2, c2, y, rfl, hy, FlD.mk_ HH.out.1 HH.out.2.1 HH.out.2.2.1 HH.out.2.2.2 (own_base (own_pick HO2.out HG3.out hltw) HBB.out.size) ((HBB.out.trans (below_of_gbs HG2.out HBB.out.size (Nat.le_refl _))).trans (below_of_gbs HG3.out (Nat.le_trans HBB.out.size HG2.out.size) (Nat.le_refl _)))⟩

set_option maxHeartbeats 1000000 in
theorem drawLand_any (A : Option Addr) (n c : Nat) (w : World) (hn : n ≤ 1048576) (hc : n ≤ c) (hcm : c ≤ maxLen) (hB : Bys w w.heap.size A n) :
    Calls Try.prog 35 #[.slice A n c] w (DrawnF1 w) := by
  have HB := hid_ hB; clear hB
  have HC := hid_ hcm; clear hcm
  go_enter Try.func35, Try.ntmps35
  go_wp2_with fail
  refine (open_any A n c _ hn hc HC.out HB.out).mono ?_
  rintro e w1 ⟨rfl, hr1, hb1⟩
  have HBB := hid_ hb1; clear hb1
  have HR1 := hid_ hr1; clear hr1
  have hltw := HR1.out.lt
  go_wp2_with fail
  refine (l20Flights_any w.heap.size 12 _ (by omega) (by omega) HR1.out).mono ?_
  rintro e w2 ⟨l, A2, c2, rfl, hl, hc1, hc2, hd, ho2, hr2, hg2⟩
  have HO2 := hid_ ho2; clear ho2
  have HG2 := hid_ hg2; clear hg2
  have HR2 := hid_ hr2; clear hr2
  have HH := hid_ (And.intro hl (And.intro hc1 (And.intro hc2 hd))); clear hl hc1 hc2 hd
  go_wp2_with fail
  refine (pick_any w.heap.size 100 16 _ (by omega) (by omega) (by omega) HR2.out).mono ?_
  rintro e w3 ⟨x, rfl, hx0, hx1, hx_, hr3, hg3⟩
  replace hx1 := hx1 (by omega)
  clear hx_
  have HG3 := hid_ hg3; clear hg3
  clear hr3
  go_wp2
  go_returns
  exact ⟨l, A2, c2, x, rfl, ⟨hx0, by omega⟩, FlD.mk_ HH.out.1 HH.out.2.1 HH.out.2.2.1 HH.out.2.2.2 (own_base (own_pick HO2.out HG3.out hltw) HBB.out.size) ((HBB.out.trans (below_of_gbs HG2.out HBB.out.size (Nat.le_refl _))).trans (below_of_gbs HG3.out (Nat.le_trans HBB.out.size HG2.out.size) (Nat.le_refl _)))⟩

set_option maxHeartbeats 1000000 in
theorem drawRF_any (A : Option Addr) (n c : Nat) (w : World) (hn : n ≤ 1048576) (hc : n ≤ c) (hcm : c ≤ maxLen) (hB : Bys w w.heap.size A n) :
    Calls Try.prog 39 #[.slice A n c] w (DrawnF2 w) := by
  have HB := hid_ hB; clear hB
  have HC := hid_ hcm; clear hcm
  go_enter Try.func39, Try.ntmps39
  go_wp2_with fail
  refine (drawLF_any A n c _ hn hc HC.out HB.out).mono ?_
  rintro e w1 ⟨l, A2, c2, x, y, rfl, hx, hy, hf⟩
  have HF := hid_ hf; clear hf
  go_wp2
  go_returns
  exact ⟨l, A2, c2, x, y, rfl, hx, hy, HF.out⟩
end Go.Proofs.Ytfinefjihphnhaa
