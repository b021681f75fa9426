/-
  Schedulers: what the laws draw.
-/
import Derived.Test.YtfelfopcmkeimaaRqDr
import Derived.Test.YtfelfopcmkeimaaScJ
import Derived.Test.YtfelfopcmkeimaaTyped
import Derived.Test.YtfelfopcmkeimaaOpenB
import Derived.Test.YtfelfopcmkeimaaAlive
namespace Go.Proofs.Ytfelfopcmkeimaa
open Go.ChangeShapes Go.WideShapes Go.ChangeAt Go.RowKit Go.BigFrame Go.Deep

theorem sameInts_self (l : List Int) (A A' : Option Addr) (n n' c c' : Nat) (w : World) (hn : l.length = n) (hn' : l.length = n') (hm : n ≤ maxLen) (hR : Rd w 1 A n (intC l)) (hR' : Rd w 1 A' n' (intC l)) :
    Calls Try.prog 14 #[.slice A n c, .slice A' n' c'] w fun e w' => e = .returned (.bool true) ∧ Below w.heap.size w w' := by
  have hm' : n' ≤ maxLen := by omega
  simpa using sameInts_any l l A A' n n' c c' w hn hn' hm hm' hR hR'
theorem below_of_gbs {B : Nat} {a b : World} {g : Nat} (h : a.grownBy b (some g)) (hB : B ≤ a.heap.size) (hg : B ≤ g) : Below B a b :=
  below_of_gb h hB (fun k e => by injection e with e; omega)

/-- a drawn list of requests -/
def DrawnRL (w : World) (e : Ending) (w' : World) : Prop :=
  ∃ (l : List Rq) (A : Option Addr) (c : Nat), e = .returned (.slice A l.length c) ∧ l.length ≤ 60 ∧ l.length ≤ c ∧ c ≤ maxLen ∧ DrR l ∧ w'.ownsRow w.heap.size 31 3 (.slice A l.length c) l.length (rqC l) ∧ Below w.heap.size w w'
theorem DrawnRL.mk_ {w w' : World} {l : List Rq} {A : Option Addr} {c : Nat} (h0 : l.length ≤ 60) (h1 : l.length ≤ c) (h2 : c ≤ maxLen) (h3 : DrR l) (ho : w'.ownsRow w.heap.size 31 3 (.slice A l.length c) l.length (rqC l)) (hb : Below w.heap.size w w') : DrawnRL w (.returned (.slice A l.length c)) w' := ⟨l, A, c, rfl, h0, h1, h2, h3, ho, hb⟩
/-- a drawn list of requests, and a sector -/
def DrawnRS (w : World) (e : Ending) (w' : World) : Prop :=
  ∃ (l : List Rq) (A : Option Addr) (c : Nat) (m : Int), e = .returned (.tuple #[.slice A l.length c, .int .i64 m]) ∧ l.length ≤ 60 ∧ l.length ≤ c ∧ c ≤ maxLen ∧ DrR l ∧ (-1 ≤ m ∧ m ≤ 100001) ∧ w'.ownsRow w.heap.size 31 3 (.slice A l.length c) l.length (rqC l) ∧ Below w.heap.size w w'
theorem DrawnRS.mk_ {w w' : World} {l : List Rq} {A : Option Addr} {c : Nat} {m : Int} (h0 : l.length ≤ 60) (h1 : l.length ≤ c) (h2 : c ≤ maxLen) (h3 : DrR l) (hm : -1 ≤ m ∧ m ≤ 100001) (ho : w'.ownsRow w.heap.size 31 3 (.slice A l.length c) l.length (rqC l)) (hb : Below w.heap.size w w') : DrawnRS w (.returned (.tuple #[.slice A l.length c, .int .i64 m])) w' := ⟨l, A, c, m, rfl, h0, h1, h2, h3, hm, ho, hb⟩

set_option maxHeartbeats 1000000 in
theorem drawSo_any (A : Option Addr) (n c : Nat) (w : World) (hn : n ≤ 1048576) (hc : n ≤ c) (hcm : c ≤ maxLen) (hB : Bys w w.heap.size A n) :
    Calls Try.prog 34 #[.slice A n c] w (DrawnRL w) := by
  have HB := hid_ hB; clear hB
  have HC := hid_ hcm; clear hcm
  go_enter Try.func34, Try.ntmps34
  go_wp2_with fail
  refine (open_any A n c _ hn hc HC.out HB.out).mono ?_
  rintro e w1 ⟨rfl, hr1, hb1⟩
  have HBB := hid_ hb1; clear hb1
  have HR1 := hid_ hr1; clear hr1
  go_wp2_with fail
  refine (l20Requests_any w.heap.size 9 _ (by omega) (by omega) HR1.out).mono ?_
  rintro e w2 ⟨l, A2, c2, rfl, hl, hc1, hc2, hd, ho2, hr2, hg2⟩
  have HO2 := hid_ ho2; clear ho2
  have HG2 := hid_ hg2; clear hg2
  have HH := hid_ (And.intro hl (And.intro hc1 (And.intro hc2 hd))); clear hl hc1 hc2 hd hr2
  go_wp2
  go_returns
  exact DrawnRL.mk_ HH.out.1 HH.out.2.1 HH.out.2.2.1 HH.out.2.2.2 (own_base HO2.out HBB.out.size) (HBB.out.trans (below_of_gbs HG2.out HBB.out.size (Nat.le_refl _)))

def envSw : List (Nat × Ty) := [(4, .rd), (5, .fix), (10, .fix), (11, .rd), (12, .int 0 119), (13, .sl 3 (-1) 100001), (14, .sl 7 0 2), (15, .rd), (16, .int 0 6), (17, .ad 0 2), (18, .int 0 2), (19, .ad (-1) 100001), (20, .int (-1) 100001), (2, .fix), (3, .int (-1) 100001)]

set_option maxHeartbeats 1000000 in
theorem drawSw_any (A : Option Addr) (n c : Nat) (w : World) (hn : n ≤ 1048576) (hc : n ≤ c) (hcm : c ≤ maxLen) (hB : Bys w w.heap.size A n) :
    Calls Try.prog 12 #[.slice A n c] w (DrawnRS w) := by
  have HB := hid_ hB; clear hB
  have HC := hid_ hcm; clear hcm
  go_enter Try.func12, Try.ntmps12
  go_wp2_with fail
  refine (open_any A n c _ hn hc HC.out HB.out).mono ?_
  rintro e w1 ⟨rfl, hr1, hb1⟩
  have HBB := hid_ hb1; clear hb1
  have HR1 := hid_ hr1; clear hr1
  go_wp2_with fail
  refine (l20Requests_any w.heap.size 12 _ (by omega) (by omega) HR1.out).mono ?_
  rintro e w2 ⟨l, A2, c2, rfl, hl, hc1, hc2, hd, ho2, hr2, hg2⟩
  have HO2 := hid_ ho2; clear ho2
  have HG2 := hid_ hg2; clear hg2
  have HR2 := hid_ hr2; clear hr2
  have HH := hid_ (And.intro hl (And.intro hc1 (And.intro hc2 hd))); clear hl hc1 hc2 hd
  have hltw := HR1.out.lt
  go_wp2_with fail
  refine wp_region_typed (fun d => envSw.lookup d) [4, 5] 21 w.heap.size (.slice A2 l.length c2) 200 (by kernel_rfl) (by kernel_rfl) rfl ?_ HR2.out (by decide) ?_
  · intro d hd t ht
    have hd' : d = 4 ∨ d = 5 := by simpa using hd
    rcases hd' with rfl | rfl
    · have : t = .rd := by simpa [envSw, List.lookup] using ht.symm
      subst this
      rfl
    · have : t = .fix := by simpa [envSw, List.lookup] using ht.symm
      subst this
      rfl
  · intro a' w' haf
    have h2 : a'.eval (.tmp 2) = .slice A2 l.length c2 := haf.ty 11 _ 2 .fix rfl rfl rfl
    obtain ⟨x, h3, x0, x1⟩ : ∃ x : Int, a'.eval (.tmp 3) = .int .i64 x ∧ -1 ≤ x ∧ x ≤ 100001 := haf.ty 12 _ 3 (.int (-1) 100001) rfl rfl rfl
    simp [Act.eval] at h2 h3
    have hBB : Below w.heap.size w w' := (HBB.out.trans (below_of_gbs HG2.out HBB.out.size (Nat.le_refl _))).trans (below_of_gbs haf.grown (by have := HG2.out.size; have := HBB.out.size; omega) (Nat.le_refl _))
    have ho3 := own_pick HO2.out haf.grown hltw
    rename_i K0 hK0
    refine hK0 _ _ (wp_ret ?_)
    exact bodyPost_ret (v := .tuple #[.slice A2 l.length c2, .int .i64 x]) (by simp [results, Try.results12, go_sem, h2, h3]) haf.defers (DrawnRS.mk_ HH.out.1 HH.out.2.1 HH.out.2.2.1 HH.out.2.2.2 ⟨x0, x1⟩ (own_base ho3 HBB.out.size) hBB)
end Go.Proofs.Ytfelfopcmkeimaa
