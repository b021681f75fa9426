/-
  Barriers: the draws of the laws on groups and orders.
-/
import Derived.Test.YtfmkjhkopocokaaItD
import Derived.Test.YtfmkjhkopocokaaOpenB
import Derived.Test.YtfmkjhkopocokaaAlive
namespace Go.Proofs.Ytfmkjhkopocokaa
open Go.ChangeShapes Go.WideShapes Go.ChangeAt Go.RowKit Go.BigFrame Go.Deep

theorem below_of_gbs {B : Nat} {a b : World} {g : Nat} (h : a.grownBy b (some g)) (hB : B ≤ a.heap.size) (hg : B ≤ g) : Below B a b :=
  below_of_gb h hB (fun k e => by injection e with e; omega)

/-- a drawn list of items -/
def ItDr (w : World) (l : List It) (A : Option Addr) (c : Nat) (w' : World) : Prop :=
  (l.length ≤ 8 ∨ l.length = 13) ∧ l.length ≤ c ∧ c ≤ maxLen ∧ w'.ownsRow w.heap.size 33 2 (.slice A l.length c) l.length (itC l) ∧ Below w.heap.size w w'
def DrawnI0 (w : World) (e : Ending) (w' : World) : Prop := ∃ (l : List It) (A : Option Addr) (c : Nat), e = .returned (.slice A l.length c) ∧ ItDr w l A c w'
theorem ItDr.mk_ {w w' : World} {l : List It} {A : Option Addr} {c : Nat} (h0 : l.length ≤ 8 ∨ l.length = 13) (h1 : l.length ≤ c) (h2 : c ≤ maxLen) (ho : w'.ownsRow w.heap.size 33 2 (.slice A l.length c) l.length (itC l)) (hb : Below w.heap.size w w') : ItDr w l A c w' := ⟨h0, h1, h2, ho, hb⟩

set_option maxHeartbeats 1000000 in
theorem drawCO_any (A : Option Addr) (n c : Nat) (w : World) (hn : n ≤ 1048576) (hc : n ≤ c) (hcm : c ≤ maxLen) (hB : Bys w w.heap.size A n) :
    Calls Try.prog 17 #[.slice A n c] w (DrawnI0 w) := by
  have HB := hid_ hB; clear hB
  have HC := hid_ hcm; clear hcm
  go_enter Try.func17, Try.ntmps17
  go_wp2_with fail
  refine (open_any A n c _ hn hc HC.out HB.out).mono ?_
  rintro e w1 ⟨rfl, hr1, hb1⟩
  have HBB := hid_ hb1; clear hb1
  have HR1 := hid_ hr1; clear hr1
  go_wp2_with fail
  refine (l20Items_any w.heap.size 12 _ (by omega) (by omega) HR1.out).mono ?_
  rintro e w2 ⟨l, A2, c2, rfl, hl, hc1, hc2, ho2, hr2, hg2⟩
  have HO2 := hid_ ho2; clear ho2
  have HG2 := hid_ hg2; clear hg2
  have HH := hid_ (And.intro hl (And.intro hc1 hc2)); clear hl hc1 hc2
  clear hr2
  go_wp2
  go_returns
  exact ⟨l, A2, c2, rfl, ItDr.mk_ HH.out.1 HH.out.2.1 HH.out.2.2 (own_base HO2.out HBB.out.size) (HBB.out.trans (below_of_gbs HG2.out HBB.out.size (Nat.le_refl _)))⟩

set_option maxHeartbeats 1000000 in
theorem drawBG_any (A : Option Addr) (n c : Nat) (w : World) (hn : n ≤ 1048576) (hc : n ≤ c) (hcm : c ≤ maxLen) (hB : Bys w w.heap.size A n) :
    Calls Try.prog 19 #[.slice A n c] w (DrawnI0 w) := by
  have HB := hid_ hB; clear hB
  have HC := hid_ hcm; clear hcm
  go_enter Try.func19, Try.ntmps19
  go_wp2_with fail
  refine (open_any A n c _ hn hc HC.out HB.out).mono ?_
  rintro e w1 ⟨rfl, hr1, hb1⟩
  have HBB := hid_ hb1; clear hb1
  have HR1 := hid_ hr1; clear hr1
  go_wp2_with fail
  refine (l20Items_any w.heap.size 12 _ (by omega) (by omega) HR1.out).mono ?_
  rintro e w2 ⟨l, A2, c2, rfl, hl, hc1, hc2, ho2, hr2, hg2⟩
  have HO2 := hid_ ho2; clear ho2
  have HG2 := hid_ hg2; clear hg2
  have HH := hid_ (And.intro hl (And.intro hc1 hc2)); clear hl hc1 hc2
  clear hr2
  go_wp2
  go_returns
  exact ⟨l, A2, c2, rfl, ItDr.mk_ HH.out.1 HH.out.2.1 HH.out.2.2 (own_base HO2.out HBB.out.size) (HBB.out.trans (below_of_gbs HG2.out HBB.out.size (Nat.le_refl _)))⟩
end Go.Proofs.Ytfmkjhkopocokaa
