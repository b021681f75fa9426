/-
  Barriers: the draw of the laws on orders; the law on plain orders.
-/
import Derived.Test.YtfmkjhkopocokaaBaD
import Derived.Test.YtfmkjhkopocokaaOrD
import Derived.Test.YtfmkjhkopocokaaBsB
import Derived.Test.YtfmkjhkopocokaaBaP
namespace Go.Proofs.Ytfmkjhkopocokaa
open Go.ChangeShapes Go.WideShapes Go.ChangeAt Go.RowKit Go.BigFrame Go.Deep

/-- drawn items, an order -/
def DrawnBo (w : World) (e : Ending) (w' : World) : Prop :=
  ∃ (l : List It) (A : Option Addr) (c : Nat) (o : List Int) (A2 : Option Addr) (c2 : Nat), e = .returned (.tuple #[.slice A l.length c, .slice A2 o.length c2]) ∧ l.length ≤ 13 ∧ l.length ≤ c ∧ c ≤ maxLen ∧ o.length = l.length ∧ o.length ≤ c2 ∧ c2 ≤ maxLen ∧
    w'.ownsRow w.heap.size 33 2 (.slice A l.length c) l.length (itC l) ∧ w'.ownsRow w.heap.size 3 1 (.slice A2 o.length c2) o.length (intC o) ∧ Below w.heap.size w w'

set_option maxHeartbeats 1000000 in
theorem drawBo_any (A : Option Addr) (n c : Nat) (w : World) (hn : n ≤ 1048576) (hc : n ≤ c) (hcm : c ≤ maxLen) (hB : Bys w w.heap.size A n) :
    Calls Try.prog 31 #[.slice A n c] w (DrawnBo w) := by
  have HB := hid_ hB; clear hB
  have HC := hid_ hcm; clear hcm
  go_enter Try.func31, Try.ntmps31
  go_wp2_with fail
  refine (open_any A n c _ hn hc HC.out HB.out).mono ?_
  rintro e w1 ⟨rfl, hr1, hb1⟩
  have HBB := hid_ hb1; clear hb1
  have HR1 := hid_ hr1; clear hr1
  have hlt := HR1.out.lt
  go_wp2_with fail
  refine (l20Items_any w.heap.size 14 _ (by omega) (by omega) HR1.out).mono ?_
  rintro e w2 ⟨l, A2, c2, rfl, hl, hc1, hc2, ho2, hr2, hg2⟩
  have HO2 := hid_ ho2; clear ho2
  have HG2 := hid_ hg2; clear hg2
  have HR2 := hid_ hr2; clear hr2
  have hl13 : l.length ≤ 13 := by omega
  have HH := hid_ (And.intro hc1 hc2); clear hc1 hc2 hl
  have hs2 := HG2.out.size
  go_wp2_with fail
  refine (l20Order_any w.heap.size _ l.length 9 _ (by omega) ?_ ?_ (by omega) (by omega) HR2.out).mono ?_
  · omega
  · omega
  rintro e w3 ⟨o, A3, c3, rfl, ho, _, _, hc3, hcm3, hor, hr3, hg3⟩
  have HO := hid_ ho; clear ho
  have HH3 := hid_ (And.intro hc3 hcm3); clear hc3 hcm3
  have HO3 := hid_ (own_pick HO2.out hg3 hlt)
  have HOr := hid_ (own_base hor hs2); clear hor hr3
  have HG3 := hid_ (gb_trans HG2.out hg3); clear hg3
  go_wp2
  go_returns
  exact ⟨l, A2, c2, o, A3, c3, rfl, hl13, HH.out.1, HH.out.2, HO.out, HH3.out.1, HH3.out.2, own_base HO3.out HBB.out.size, own_base HOr.out HBB.out.size, HBB.out.trans (below_of_gbs HG3.out HBB.out.size (Nat.le_refl _))⟩
end Go.Proofs.Ytfmkjhkopocokaa
