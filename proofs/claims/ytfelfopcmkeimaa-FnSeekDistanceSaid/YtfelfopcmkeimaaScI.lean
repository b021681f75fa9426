/-
  Schedulers: the sweep.
-/
import Derived.Test.YtfelfopcmkeimaaScH
namespace Go.Proofs.Ytfelfopcmkeimaa
open Go.ChangeShapes Go.WideShapes Go.ChangeAt Go.RowKit Go.BigFrame

theorem rq_at {w : World} {b o n : Nat} {l : List Rq} (h : Rd w 3 (some ⟨b, o, none⟩) n (rqC l)) (x : Nat) (hx : x < n) (hn : l.length = n) :
    w.cell? ⟨b, o + x * 3, none⟩ = some (.int .i64 (atK l (x : Int))) := by
  obtain ⟨b', o', e, h0, _⟩ := h.rq x hx hn
  injection e with e
  injection e with e1 e2
  subst e1; subst e2
  rw [atK_nat l x (by omega)]; exact h0
theorem ints_at {w : World} {A : Option Addr} {n : Nat} {X : List Int} (h : Rd w 1 A n (intC X)) (hn : X.length = n) (m : Nat) (hX : ∀ x ∈ X, 0 ≤ x ∧ x < m) (i : Nat) (hi : i < n) :
    ∃ b o x, A = some ⟨b, o, none⟩ ∧ w.cell? ⟨b, o + i, none⟩ = some (.int .i64 ((x : Nat) : Int)) ∧ x < m ∧ X[i]'(by omega) = ((x : Nat) : Int) := by
  obtain ⟨b, o, e, hc⟩ := h.int i hi hn
  have hb := hX (X[i]'(by omega)) (List.getElem_mem _)
  obtain ⟨x, hx⟩ := Int.eq_ofNat_of_zero_le hb.1
  rw [hx] at hc
  exact ⟨b, o, x, e, hc, by omega, hx⟩

/-- where the two lists stand -/
def SwpAt (l : List Rq) (head : Int) (o : List Int) (B : Nat) (P : Nat → Prop) (w w2 : World) (va vb vi : Value) (wr : World) : Prop :=
  ∃ k : Nat, k ≤ o.length ∧ vi = .int .i64 k ∧ Two wr B P va (ahead l head (o.take k)) vb (behind l head (o.take k)) ∧ Below w.heap.size w wr ∧ (∀ b, ¬ P b → b < w2.heap.size → wr.heap[b]? = w2.heap[b]?) ∧ w2.heap.size ≤ wr.heap.size

set_option maxHeartbeats 4000000 in
theorem implSwp_any (l : List Rq) (A : Option Addr) (n c : Nat) (head : Int) (w : World) (hn : l.length = n) (hm : n ≤ 30) (hR : Rd w 3 A n (rqC l)) :
    Calls Try.prog 41 #[.slice A n c, .int .i64 head] w (RSl w 3 1 (sweepO l head (sortN l n)).length (intC (sweepO l head (sortN l n)))) := by
  have HR := hid_ hR; clear hR
  have HN := hid_ hn; clear hn
  have hol := sortN_length l n
  have HX := hid_ (fun x (hx : x ∈ sortN l n) => sortN_mem.1 hx)
  go_enter Try.func41, Try.ntmps41
  go_wp2_with fail
  refine (sortedOrd_any l A n c _ HN.out hm HR.out).mono ?_
  obtain ⟨o, ho⟩ : ∃ o, sortN l n = o := ⟨_, rfl⟩
  rw [ho] at HX hol ⊢
  have HOE := hid_ ho; clear ho
  have HL := hid_ hol; clear hol
  rintro e w1 ⟨A2, c2, rfl, h1, h2, hown, hb1⟩
  have HO1 := hid_ (own_rd hown); clear hown
  have HB1 := hid_ hb1; clear hb1
  have HC2 := hid_ h2; clear h2
  have hbs1 := HB1.out.size
  have hlen : o.length ≤ 30 := by rw [HL.out]; exact hm
  go_wp2
  go_loopw [5, 6, 12] (fun va vb vi wr => SwpAt l head o w1.heap.size (fun g => w1.heap.size ≤ g) w w1 va vb vi wr) (fun _ _ vi _ => n - (intOf vi).toNat)
  case atStart => exact ⟨0, Nat.zero_le _, rfl, ⟨World.ownsRow_nil _ _ _ _, World.ownsRow_nil _ _ _ _, fun g h => by simp [Value.ownBlock] at h, fun g h => by simp [Value.ownBlock] at h, fun g h => by simp [Value.ownBlock] at h⟩, HB1.out, fun _ _ _ => rfl, Nat.le_refl _⟩
  case round =>
    unfold SwpAt at hrel
    obtain ⟨k, hk, rfl, h2, hb, hkeep, hs2⟩ := hrel
    have H2 := hid_ h2; clear h2
    have HB := hid_ hb; clear hb
    have HK := hid_ hkeep; clear hkeep
    have hbs := HB.out.size
    have hla : (ahead l head (o.take k)).length ≤ 30 ∧ (behind l head (o.take k)).length ≤ 30 := by
      have := ab_length l head (o.take k)
      have := List.length_take_le k o
      omega
    by_cases hlt : k < n
    · have hko : k < o.length := by rw [HL.out]; exact hlt
      obtain ⟨b2, o2, x, rfl, hcx, hxn, hxe⟩ := ints_at (HO1.out.keep (w' := wr) (fun b o hlt => World.cell?_of_block (HK.out b (by omega) hlt))) HL.out n HX.out k hlt
      have hA : ∃ b1 o1, A = some ⟨b1, o1, none⟩ := by
        obtain ⟨b1, o1, e, _⟩ := HR.out.2 (by omega)
        exact ⟨b1, o1, e⟩
      obtain ⟨b1, o1, rfl⟩ := hA
      have hat := rq_at (HR.out.below HB.out) x hxn HN.out
      have HTa := hid_ (ahead_take l head o k hko)
      have HTb := hid_ (behind_take l head o k hko)
      rw [hxe] at HTa HTb
      obtain ⟨ax, hax⟩ : ∃ ax, atK l (x : Int) = ax := ⟨_, rfl⟩
      rw [hax] at hat HTa HTb
      clear hax hxe
      have hltz : (k : Int) < (n : Int) := by omega
      have hxz : (x : Int) < (n : Int) := by omega
      by_cases hc : head ≤ ax
      · have ea := hid_ (HTa.out.trans (by rw [if_pos hc]))
        have eb := hid_ (HTb.out.trans (by rw [if_neg (by omega), List.append_nil]))
        clear HTa HTb
        go_wp2_with (at_builtin; (with_reducible change wpList _ _ _ (⟨some 26, _, _, _, _, _⟩ :: _) _ _); refine wpList_push_at _ rfl _ _ 26 rfl w1.heap.size 3 (.int .i64 0) 1 8 Try.underlying26 int_info rfl (by decide) (by decide) _ _ rfl rfl _ _ _ H2.out.ra rfl _ rfl (by simp) (by omega) hs2 ?_; intro v26 w26 ho26 hg26 hf26; have H26 := hid_ (H2.out.pushA ho26 hg26 hf26 (fun g h => by omega)); have HB26 := hid_ (below_push HB.out (own_base H2.out.ra hbs1) hg26 hbs); have HK26 := hid_ (fun b (h1 : ¬ w1.heap.size ≤ b) (h2 : b < w1.heap.size) => (hg26.block b (by omega) (fun e => by have := H2.out.pa b e.symm; omega)).trans (HK.out b h1 h2)); have hs26 := hg26.size; clear ho26 hg26 hf26)
        go_roundw
        case rel => exact ⟨k + 1, by omega, by go_num, by rw [ea.out, eb.out]; exact H26.out, HB26.out, HK26.out, by omega⟩
        case measure => simp [intOf]; omega
      · have ea := hid_ (HTa.out.trans (by rw [if_neg hc, List.append_nil]))
        have eb := hid_ (HTb.out.trans (by rw [if_pos (by omega)]))
        clear HTa HTb
        go_wp2_with (at_builtin; (with_reducible change wpList _ _ _ (⟨some 30, _, _, _, _, _⟩ :: _) _ _); refine wpList_push_at _ rfl _ _ 26 rfl w1.heap.size 3 (.int .i64 0) 1 8 Try.underlying26 int_info rfl (by decide) (by decide) _ _ rfl rfl _ _ _ H2.out.rb rfl _ rfl (by simp) (by omega) hs2 ?_; intro v30 w30 ho30 hg30 hf30; have H30 := hid_ (H2.out.pushB ho30 hg30 hf30 (fun g h => by omega)); have HB30 := hid_ (below_push HB.out (own_base H2.out.rb hbs1) hg30 hbs); have HK30 := hid_ (fun b (h1 : ¬ w1.heap.size ≤ b) (h2 : b < w1.heap.size) => (hg30.block b (by omega) (fun e => by have := H2.out.pb b e.symm; omega)).trans (HK.out b h1 h2)); have hs30 := hg30.size; clear ho30 hg30 hf30)
        go_roundw
        case rel => exact ⟨k + 1, by omega, by go_num, by rw [ea.out, eb.out]; exact H30.out, HB30.out, HK30.out, by omega⟩
        case measure => simp [intOf]; omega
    · have hk' : o.take k = o := List.take_of_length_le (by rw [HL.out]; omega)
      rw [hk'] at H2 hla
      have hka : ¬ ((k : Int) < (n : Int)) := by omega
      have ra := H2.out.ra
      obtain ⟨Aa, ca, rfl, _, _⟩ := own_shape ra
      have rb := H2.out.rb
      obtain ⟨Ab, cb, rfl, _, _⟩ := own_shape rb
      have RA := hid_ ra; clear ra
      have RB := hid_ (own_rd rb); clear rb
      go_wp2_with (at_builtin; (with_reducible change wpList _ _ _ (⟨some 34, _, _, _, _, _⟩ :: _) _ _); refine wpList_append_rdg _ rfl _ _ 26 rfl w1.heap.size 3 (.int .i64 0) 1 8 Try.underlying26 int_info rfl (by decide) (by decide) _ _ _ RA.out rfl _ _ _ _ RB.out rfl (intC_one _) (by omega) hs2 ?_; intro v34 w34 ho' hg'; have HO34 := hid_ ho'; have HG34 := hid_ hg'; clear ho' hg')
      go_returns
      exact RSl.of_own' (own_base HO34.out hbs1) (below_push HB.out (own_base RA.out hbs1) HG34.out hbs) (by rw [HOE.out]; unfold sweepO; simp) (by rw [HOE.out]; unfold sweepO; rw [intC_append])

theorem implSwR_any (l : List Rq) (A : Option Addr) (n c : Nat) (head : Int) (w : World) (hn : l.length = n) (hm : n ≤ 4194304) (hc : n ≤ c) (hcm : c ≤ maxLen) (hR : Rd w 3 A n (rqC l)) :
    Calls Try.prog 13 #[.slice A n c, .int .i64 head] w (RSl w 3 1 (sweepR l head).length (intC (sweepR l head))) := by
  have HR := hid_ hR; clear hR
  have HN := hid_ hn; clear hn
  cases q : rv l
  · have HS := hid_ (sweepR_no (head := head) (.inl q))
    go_enter Try.func13, Try.ntmps13
    go_wp2_with (go_at_call 39; refine (implRV_any l A n c _ HN.out hm hc hcm HR.out).mono ?_; rintro e w1 ⟨rfl, hb1⟩)
    go_returns
    exact RSl.of_own' (World.ownsRow_nil _ _ _ _) hb1 (by rw [HS.out]; rfl) (by rw [HS.out]; rfl)
  · cases q2 : inB head 0 100000
    · have HS := hid_ (sweepR_no (l := l) (.inr q2))
      go_enter Try.func13, Try.ntmps13
      go_wp2_with (first | (go_at_call 39; refine (implRV_any l A n c _ HN.out hm hc hcm HR.out).mono ?_; rintro e w1 ⟨rfl, hb1⟩) | (go_at_call 40; refine (within_any _ _ _ _).mono ?_; rintro e w2 ⟨rfl, rfl⟩))
      go_returns
      exact RSl.of_own' (World.ownsRow_nil _ _ _ _) hb1 (by rw [HS.out]; rfl) (by rw [HS.out]; rfl)
    · have HS := hid_ (show sweepR l head = sweepO l head (sortN l n) by rw [sweepR_ok q q2, HN.out])
      have hl := rv_length q
      have HL := hid_ (show n ≤ 30 by rw [← HN.out]; exact hl)
      clear hl
      go_enter Try.func13, Try.ntmps13
      go_wp2_with (first | (go_at_call 39; refine (implRV_any l A n c _ HN.out hm hc hcm HR.out).mono ?_; rintro e w1 ⟨rfl, hb1⟩) | (go_at_call 40; refine (within_any _ _ _ _).mono ?_; rintro e w2 ⟨rfl, rfl⟩))
      have HB := hid_ hb1; clear hb1
      refine (implSwp_any l A n c head _ HN.out HL.out (HR.out.below HB.out)).mono ?_
      rintro e w3 ⟨A3, c3, rfl, h1, h2, ho, hb3⟩
      have HO := hid_ ho; clear ho
      have HB3 := hid_ hb3; clear hb3
      go_wp2
      go_returns
      exact RSl.of_own' (own_base HO.out HB.out.size) (HB.out.trans (HB3.out.mono HB.out.size)) (by rw [HS.out]) (by rw [HS.out])
end Go.Proofs.Ytfelfopcmkeimaa
