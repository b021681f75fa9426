/-
  Signals: what is drawn.
-/
import Derived.Test.YtjgpmihkmobcoaaTyped
import Derived.Test.YtjgpmihkmobcoaaApp
namespace Go.Proofs.Ytjgpmihkmobcoaa
open Go.ChangeShapes Go.WideShapes Go.ChangeAt Go.RowKit Go.BigFrame

theorem gb_own {w wr w' : World} {row : Option Nat} {B E k n : Nat} {v : Value} {xs : List Value} (h : w.grownBy wr row) (ho : wr.ownsRow B E k v n xs) (hg : wr.grownBy w' v.ownBlock) (hB : w.heap.size ≤ B) : w.grownBy w' row :=
  ⟨hg.os.trans h.os, hg.tape.trans h.tape, hg.output.trans h.output, Nat.le_trans h.size hg.size, fun i hi hn =>
    (hg.block i (Nat.lt_of_lt_of_le hi h.size) (fun e => by have := (ho.lt i e.symm).1; omega)).trans (h.block i hi hn)⟩
theorem rdr_own {wr w' : World} {g : Nat} {p : Int} {B E k n : Nat} {v : Value} {xs : List Value} (h : Rdr wr g p) (ho : wr.ownsRow B E k v n xs) (hg : wr.grownBy w' v.ownBlock) (hB : g < B) : Rdr w' g p :=
  h.keep (fun b hb => hg.block b (by have := h.lt; omega) (fun e => by have := (ho.lt b e.symm).1; omega))

theorem rd2_ (w : World) (a b : Int) : Rd (w.alloc (.cells #[.int .i64 a, .int .i64 b] 3)) 1 (some ⟨w.heap.size, 0, none⟩) 2 (intC [a, b]) :=
  ⟨rfl, fun _ => ⟨_, _, rfl, fun j u hu => by
    have := news_alloc w [.int .i64 a, .int .i64 b] 3 j u hu
    rwa [add_mid] at this⟩⟩

/-- a drawn list of numbers, of the call's own -/
def DrawnL (g : Nat) (q : Int) (w : World) (e : Ending) (w' : World) : Prop :=
  ∃ (l : List Int) (A : Option Addr) (c : Nat), e = .returned (.slice A l.length c) ∧ l.length ≤ 20 ∧ l.length ≤ c ∧ c ≤ maxLen ∧ w'.ownsRow w.heap.size 3 1 (.slice A l.length c) l.length (intC l) ∧ Rdr w' g q ∧ w.grownBy w' (some g)

theorem DrawnL.mk_ {g : Nat} {q p : Int} {w w' : World} {v : Value} (l : List Int) (hl : l.length ≤ 20) (ho : w'.ownsRow w.heap.size 3 1 v l.length (intC l)) (hR : Rdr w' g p) (hp : p ≤ q) (hg : w.grownBy w' (some g)) : DrawnL g q w (.returned v) w' := by
  obtain ⟨A, c, rfl, h1, h2⟩ := own_shape ho
  exact ⟨l, A, c, rfl, hl, h1, h2, ho, hR.mono hp, hg⟩

set_option maxHeartbeats 1000000 in
theorem l20Times_any (g : Nat) (n : Int) (w : World) (hn1 : -1000000 ≤ n) (hn : n ≤ 1000000) (hR : Rdr w g 0) :
    Calls Try.prog 28 #[.pointer (some ⟨g, 0, none⟩), .int .i64 n] w (DrawnL g 100 w) := by
  have hlt := hR.lt
  have HR := hid_ hR; clear hR
  go_enter Try.func28, Try.ntmps28
  go_wp2_with fail
  refine (pick_any g 0 14 _ (by omega) (by omega) (by omega) (HR.out.alloc _)).mono ?_
  rintro e w1 ⟨k1, rfl, k10, k11, k12, hr1, hg1⟩
  have k13 := k11 (by omega)
  clear k11 k12
  have ho1 := own_pick (own_empty w 3 1) hg1 (by omega)
  have G1 := hid_ (gb_trans (World.grownBy_alloc w (.cells #[] 3) _) hg1)
  have HO1 := hid_ ho1; clear ho1
  have HR1 := hid_ hr1; clear hr1
  have hs1 := hg1.size
  simp only [World.size_alloc] at hs1
  clear hg1
  go_wp2
  go_loopw [5, 6, 7] (fun v t i wr => ∃ (k T : Int) (l : List Int), 0 ≤ k ∧ k + l.length ≤ 13 ∧ 0 ≤ T ∧ T ≤ 10 * l.length ∧ i = .int .i64 k ∧ t = .int .i64 T ∧ wr.ownsRow w.heap.size 3 1 v l.length (intC l) ∧ Rdr wr g (1 + l.length) ∧ w.grownBy wr (some g)) (fun _ _ i _ => (intOf i).toNat)
  case atStart => exact ⟨k1, 0, [], by omega, by simp; omega, by omega, by simp, rfl, rfl, HO1.out, HR1.out.mono (by simp), G1.out⟩
  case round =>
    obtain ⟨k, T, l, k0, hkl, t0, t1, rfl, rfl, ho, hr, hg⟩ := hrel
    have HO := hid_ ho; clear ho
    have HR2 := hid_ hr; clear hr
    have HG := hid_ hg; clear hg
    have hsz := HG.out.size
    by_cases hlt2 : 0 < k
    · go_wp2_with fail
      refine (pick_any g (1 + l.length) 9 _ (by omega) (by omega) (by omega) HR2.out).mono ?_
      rintro e w2 ⟨k2, rfl, k20, k21, k22, hr2, hg2⟩
      have k23 := k21 (by omega)
      clear k21 k22
      have ho2 := own_pick HO.out hg2 hlt
      have G2 := hid_ (gb_trans HG.out hg2)
      have HO2 := hid_ ho2; clear ho2
      have HR3 := hid_ hr2; clear hr2
      have hs2 := hg2.size
      clear hg2
      go_wp2_with (at_builtin; refine wpList_push _ rfl _ _ 22 rfl w.heap.size 3 (.int .i64 0) 1 8 Try.underlying22 int_info rfl (by decide) (by decide) _ _ rfl rfl _ _ _ HO2.out rfl _ rfl (by simp) (by omega) (by omega) ?_; intro v' w' ho' hg')
      go_roundw
      case rel =>
        refine ⟨k - 1, T + k2, l ++ [T + k2], by omega, by simp; omega, by omega, by simp; omega, by go_num, by go_num, own_eq ho' (by simp) (by rw [intC_append]; rfl), ?_, gb_own G2.out HO2.out hg' (Nat.le_refl _)⟩
        exact (rdr_own HR3.out HO2.out hg' hlt).mono (by simp; omega)
      case measure => simp [intOf] <;> omega
    · by_cases hl0 : l.length = 0
      · have hl1 : l = [] := List.eq_nil_of_length_eq_zero hl0
        subst hl1
        obtain ⟨A, c, rfl, hc1, hc2⟩ := own_shape HO.out
        go_wp2
        go_returns
        exact DrawnL.mk_ [] (by simp) HO.out HR2.out (by simp) HG.out
      · obtain ⟨A, c, rfl, hc1, hc2⟩ := own_shape HO.out
        have HC2 := hid_ hc2; clear hc2
        have hpos : (0 : Int) < (l.length : Int) := by omega
        go_wp2_with fail
        refine (odd_any g (1 + l.length) n _ (by omega) hn1 hn HR2.out).mono ?_
        rintro e w3 ⟨b, rfl, hr3, hg3⟩
        have ho3 := own_pick HO.out hg3 hlt
        have HO3 := hid_ ho3; clear ho3
        have G3 := hid_ (gb_trans HG.out hg3)
        have hs3 := hg3.size
        clear hg3
        have HR3 := hid_ hr3; clear hr3
        cases b
        · go_wp2
          go_returns
          exact DrawnL.mk_ l (by omega) HO3.out HR3.out (by omega) G3.out
        · go_wp2_with fail
          refine (pick_any g (1 + l.length + 1) 3 _ (by omega) (by omega) (by omega) HR3.out).mono ?_
          rintro e w4 ⟨k4, rfl, k40, k41, k42, hr4, hg4⟩
          have k43 := k41 (by omega)
          clear k41 k42
          have ho4 := own_pick HO3.out hg4 hlt
          have HO4 := hid_ ho4; clear ho4
          have G4 := hid_ (gb_trans G3.out hg4)
          have hs4 := hg4.size
          clear hg4
          have HR4 := hid_ hr4; clear hr4
          have hk : k4 = 0 ∨ k4 = 1 ∨ k4 = 2 := by omega
          rcases hk with rfl | rfl | rfl
          · obtain ⟨gb, rfl, hB, hgl, _, _⟩ := own_block HO4.out (by omega)
            obtain ⟨v0, c0, f0⟩ := own_store HO4.out 0 (by omega)
            go_wp2
            go_returns
            have s1 := HO4.out.stored 0 (.int .i64 (-1))
            refine DrawnL.mk_ (l.set 0 (-1)) (by simp; omega) (own_eq s1.1 (by simp) (by simp [intC, List.map_set])) (rdr_own HR4.out HO4.out s1.2 hlt) (by omega) (gb_own G4.out HO4.out s1.2 (Nat.le_refl _))
          · go_wp2_with (at_builtin; refine wpList_push _ rfl _ _ 22 rfl w.heap.size 3 (.int .i64 0) 1 8 Try.underlying22 int_info rfl (by decide) (by decide) _ _ rfl rfl _ _ _ HO4.out rfl _ rfl (by simp) (by omega) (by omega) ?_; intro v' w' ho' hg')
            go_returns
            exact DrawnL.mk_ (l ++ [100001]) (by simp; omega) (own_eq ho' (by simp) (by rw [intC_append]; rfl)) (rdr_own HR4.out HO4.out hg' hlt) (by omega) (gb_own G4.out HO4.out hg' (Nat.le_refl _))
          · go_wp2_with (at_builtin; refine wpList_append_rd _ rfl _ _ 22 rfl w.heap.size 3 (.int .i64 0) 1 8 Try.underlying22 int_info rfl (by decide) (by decide) _ _ _ (HO4.out.alloc _) rfl _ _ _ _ (rd2_ _ 0 0) rfl (intC_one [0, 0]) (by omega) (by simp; omega) ?_; intro v' w' ho' hg')
            obtain ⟨n2, hn2⟩ : ∃ n2, n2 = l.length + 2 := ⟨_, rfl⟩
            rw [← hn2] at ho'
            obtain ⟨A', c', rfl, hc1', hc2'⟩ := own_shape ho'
            obtain ⟨gb, rfl, hB, hgl, hq1, hq2⟩ := own_block ho' (by omega)
            clear hq1 hq2
            obtain ⟨v0, c0, f0⟩ := own_store ho' 0 (by omega)
            have HO' := hid_ ho'; clear ho'
            have HG' := hid_ hg'; clear hg'
            have HC' := hid_ hc2'; clear hc2'
            have hp3 : (0 : Int) < (n2 : Int) := by omega
            have hp4 : n2 ≤ 20 := by omega
            have hp5 : 0 < n2 := by omega
            clear hp3
            have HN2 := hid_ hn2; clear hn2
            have hrun : ∀ W : World, (Instr.indexAt 22 (Value.slice (some { block := gb, off := 0 }) n2 c') (Value.int IntKind.i64 0)).run Try.prog W = .ok (.pointer (some ⟨gb, 0, none⟩)) W := fun W => by
              rw [run_indexAt_slice (h := Try.underlying22)]
              simp [hp5, go_sem]
            go_wp2
            simp only [hrun, Result.andThen_ok]
            go_wp2
            go_returns
            have s1 := HO'.out.stored 0 (.int .i64 5)
            refine DrawnL.mk_ ((l ++ [0, 0]).set 0 5) (by simp; omega) (own_eq s1.1 (by rw [HN2.out]; simp) (by simp [intC, List.map_set])) (rdr_own (rdr_own (HR4.out.alloc _) (HO4.out.alloc _) HG'.out hlt) HO'.out s1.2 hlt) (by omega) (gb_own (gb_own (gb_trans G4.out (World.grownBy_alloc _ _ _)) (HO4.out.alloc _) HG'.out (Nat.le_refl _)) HO'.out s1.2 (Nat.le_refl _))

theorem below_of_gbs {B : Nat} {a b : World} {g : Nat} (h : a.grownBy b (some g)) (hB : B ≤ a.heap.size) (hg : B ≤ g) : Below B a b :=
  below_of_gb h hB (fun k e => by injection e with e; omega)

/-- a drawn list of numbers, and two numbers -/
def DrawnL2 (w : World) (e : Ending) (w' : World) : Prop :=
  ∃ (l : List Int) (A : Option Addr) (c : Nat) (x y : Int), e = .returned (.tuple #[.slice A l.length c, .int .i64 x, .int .i64 y]) ∧ l.length ≤ 20 ∧ l.length ≤ c ∧ c ≤ maxLen ∧ (0 ≤ x ∧ x ≤ 11) ∧ (-1 ≤ y ∧ y ≤ 19) ∧
    w'.ownsRow w.heap.size 3 1 (.slice A l.length c) l.length (intC l) ∧ Below w.heap.size w w'

theorem DrawnL2.mk_ {w w' : World} {l : List Int} {A : Option Addr} {c : Nat} {x y : Int} (hl : l.length ≤ 20) (h1 : l.length ≤ c) (h2 : c ≤ maxLen) (hx : 0 ≤ x ∧ x ≤ 11) (hy : -1 ≤ y ∧ y ≤ 19)
    (ho : w'.ownsRow w.heap.size 3 1 (.slice A l.length c) l.length (intC l)) (hb : Below w.heap.size w w') : DrawnL2 w (.returned (.tuple #[.slice A l.length c, .int .i64 x, .int .i64 y])) w' :=
  ⟨l, A, c, x, y, rfl, hl, h1, h2, hx, hy, ho, hb⟩

def envST : List (Nat × Ty) := [(5, .rd), (6, .fix), (11, .fix), (12, .rd), (13, .int 0 4), (14, .int 1 5), (15, .sl 3 0 11), (16, .sl 7 0 2), (17, .rd), (18, .int 0 6), (19, .ad 0 2), (20, .int 0 2), (21, .ad 0 11), (22, .int 0 11),
  (23, .rd), (24, .int 0 19), (25, .sl 3 (-1) 19), (26, .sl 6 0 2), (27, .rd), (28, .int 0 5), (29, .ad 0 2), (30, .int 0 2), (31, .ad (-1) 19), (32, .int (-1) 19), (2, .fix), (3, .int 0 11), (4, .int (-1) 19)]

set_option maxHeartbeats 1000000 in
theorem drawST_any (A : Option Addr) (n c : Nat) (w : World) (hn : n ≤ 1048576) (hc : n ≤ c) (hcm : c ≤ maxLen) (hB : Bys w w.heap.size A n) :
    Calls Try.prog 23 #[.slice A n c] w (DrawnL2 w) := by
  have HB := hid_ hB; clear hB
  have HC := hid_ hcm; clear hcm
  go_enter Try.func23, Try.ntmps23
  go_wp2_with fail
  refine (open_any A n c _ hn hc HC.out HB.out).mono ?_
  rintro e w1 ⟨rfl, hr1, hb1⟩
  have HBB := hid_ hb1; clear hb1
  have HR1 := hid_ hr1; clear hr1
  have hz := HBB.out.size
  go_wp2_with fail
  refine (l20Times_any w.heap.size 12 _ (by omega) (by omega) HR1.out).mono ?_
  rintro e w2 ⟨l, A2, c2, rfl, hl, hc1, hc2, ho2, hr2, hg2⟩
  have HO2 := hid_ ho2; clear ho2
  have HR2 := hid_ hr2; clear hr2
  have HG2 := hid_ hg2; clear hg2
  have HC2 := hid_ hc2; clear hc2
  have hltw := HR1.out.lt
  go_wp2_with fail
  refine wp_region_typed (fun d => envST.lookup d) [5, 6] 33 w.heap.size (.slice A2 l.length c2) 100 (by kernel_rfl) (by kernel_rfl) rfl ?_ HR2.out (by decide) ?_
  · intro d hd t ht
    have hd' : d = 5 ∨ d = 6 := by simpa using hd
    rcases hd' with rfl | rfl
    · have : t = .rd := by simpa [envST, List.lookup] using ht.symm
      subst this
      rfl
    · have : t = .fix := by simpa [envST, List.lookup] using ht.symm
      subst this
      rfl
  · intro a' w' haf
    have h2 : a'.eval (.tmp 2) = .slice A2 l.length c2 := haf.ty 22 _ 2 .fix rfl rfl rfl
    obtain ⟨x, h3, x0, x1⟩ : ∃ x : Int, a'.eval (.tmp 3) = .int .i64 x ∧ 0 ≤ x ∧ x ≤ 11 := haf.ty 23 _ 3 (.int 0 11) rfl rfl rfl
    obtain ⟨y, h4, y0, y1⟩ : ∃ y : Int, a'.eval (.tmp 4) = .int .i64 y ∧ -1 ≤ y ∧ y ≤ 19 := haf.ty 24 _ 4 (.int (-1) 19) rfl rfl rfl
    simp [Act.eval] at h2 h3 h4
    have hBB : Below w.heap.size w w' := (HBB.out.trans (below_of_gbs HG2.out (by omega) (Nat.le_refl _))).trans (below_of_gbs haf.grown (by have := HG2.out.size; omega) (Nat.le_refl _))
    have ho3 := own_pick HO2.out haf.grown hltw
    rename_i K0 hK0
    refine hK0 _ _ (wp_ret ?_)
    exact bodyPost_ret (v := .tuple #[.slice A2 l.length c2, .int .i64 x, .int .i64 y]) (by simp [results, Try.results23, go_sem, h2, h3, h4]) haf.defers (DrawnL2.mk_ hl hc1 HC2.out ⟨x0, x1⟩ ⟨y0, y1⟩ (own_base ho3 HBB.out.size) hBB)
end Go.Proofs.Ytjgpmihkmobcoaa
