/-
  Schedulers: the sweep, as the reference makes it.
-/
import Derived.Test.YtfelfopcmkeimaaScI
namespace Go.Proofs.Ytfelfopcmkeimaa
open Go.ChangeShapes Go.WideShapes Go.ChangeAt Go.RowKit Go.BigFrame

theorem sortR_mem {l : List Rq} {x : Int} (h : x ∈ sortR l) : 0 ≤ x ∧ x < l.length := by
  unfold sortR at h
  split at h
  · exact sortN_mem.1 h
  · simp at h
theorem sortR_30 (l : List Rq) : (sortR l).length ≤ 30 := by
  unfold sortR
  split
  · rename_i h; rw [sortN_length]; exact rv_length h
  · simp
theorem sweepR_sort {l : List Rq} {head : Int} (h : inB head 0 100000 = true) : sweepR l head = sweepO l head (sortR l) := by
  cases q : rv l
  · rw [sweepR_no (.inl q), sortR_no q]; rfl
  · rw [sweepR_ok q h, sortR_ok q]
def Pq (g0 g1 : Nat) (g : Nat) : Prop := g = g0 ∨ g = g0 + 1 ∨ g1 ≤ g

set_option maxHeartbeats 4000000 in
theorem specSwR_any (l : List Rq) (A : Option Addr) (n c : Nat) (head : Int) (w : World) (hn : l.length = n) (hm : n ≤ 4194304) (hR : Rd w 3 A n (rqC l)) :
    Calls Try.prog 15 #[.slice A n c, .int .i64 head] w (RSl w 3 1 (sweepR l head).length (intC (sweepR l head))) := by
  have HR := hid_ hR; clear hR
  have HN := hid_ hn; clear hn
  cases q : inB head 0 100000
  · have HS := hid_ (sweepR_no (l := l) (.inr q))
    go_enter Try.func15, Try.ntmps15
    go_wp2_with (go_at_call 42; refine (l1In_any _ _ _ _).mono ?_; rintro e w2 ⟨rfl, rfl⟩)
    go_returns
    exact RSl.of_own' ((own_empty w 3 1).alloc _) (((Below.refl _ _).alloc (Nat.le_refl _) _).alloc (by simp) _) (by rw [HS.out]; rfl) (by rw [HS.out]; rfl)
  have HS := hid_ (sweepR_sort (l := l) q)
  have hlen := sortR_30 l
  have HX := hid_ (fun x (hx : x ∈ sortR l) => sortR_mem hx)
  rw [HN.out] at HX
  go_enter Try.func15, Try.ntmps15
  go_wp2_with (go_at_call 42; refine (l1In_any _ _ _ _).mono ?_; rintro e w2 ⟨rfl, rfl⟩)
  clear q
  refine (specSort_any l A n c _ HN.out hm ((HR.out.alloc _).alloc _)).mono ?_
  obtain ⟨o, ho⟩ : ∃ o, sortR l = o := ⟨_, rfl⟩
  rw [ho] at HX hlen HS ⊢
  clear ho
  rintro e w1 ⟨A2, c2, rfl, h1, h2, hown, hb1⟩
  have HO2 := hid_ hown; clear hown
  have HB2 := hid_ hb1
  have hs1 := hb1.size
  simp only [World.size_alloc] at hs1
  have HB1 := hid_ ((((Below.refl w.heap.size w).alloc (Nat.le_refl _) (.cells #[] 3)).alloc (by simp) (.cells #[] 3)).trans (hb1.mono (by simp; omega)))
  have HT0 := hid_ (show Two w1 w.heap.size (Pq w.heap.size w1.heap.size) (.slice (some ⟨w.heap.size, 0, none⟩) 0 0) [] (.slice (some ⟨w.heap.size + 1, 0, none⟩) 0 0) [] from
    ⟨own_below ((own_empty w 3 1).alloc _) hb1, own_below (own_base (own_empty_at (w.alloc (.cells #[] 3)) 3 1 (w.heap.size + 1) (by simp)) (by omega)) hb1, fun g e1 e2 => by simp [Value.ownBlock] at e1 e2; omega, fun g e => by simp [Value.ownBlock] at e; exact .inl e.symm, fun g e => by simp [Value.ownBlock] at e; exact .inr (.inl e.symm)⟩)
  clear hb1
  have HC2 := hid_ h2; clear h2
  have hbs1 := HB1.out.size
  go_wp2
  go_loopw [5, 6, 8] (fun va vb vi wr => SwpAt l head o w.heap.size (Pq w.heap.size w1.heap.size) w w1 va vb vi wr) (fun _ _ vi _ => o.length - (intOf vi).toNat)
  case atStart => exact ⟨0, Nat.zero_le _, rfl, HT0.out, HB1.out, fun _ _ _ => rfl, Nat.le_refl _⟩
  case round =>
    clear HT0
    unfold SwpAt at hrel
    obtain ⟨k, hk, rfl, h2, hb, hkeep, hs2⟩ := hrel
    have H2 := hid_ h2; clear h2
    have HB := hid_ hb; clear hb
    have HK := hid_ hkeep; clear hkeep
    have hbs := HB.out.size
    have hla : (ahead l head (o.take k)).length ≤ 30 ∧ (behind l head (o.take k)).length ≤ 30 := by
      have := ab_length l head (o.take k)
      have := List.length_take_le k o
      omega
    by_cases hlt : k < o.length
    · have hko := hlt
      have HOk := hid_ (ints_own_rd (w' := wr) HO2.out (fun b h1 h2 => HK.out b (by unfold Pq; simp only [World.size_alloc] at h1; omega) h2))
      obtain ⟨b2, o2, x, rfl, hcx, hxn, hxe⟩ := ints_at HOk.out rfl n HX.out k hlt
      have hA : ∃ b1 o1, A = some ⟨b1, o1, none⟩ := by
        obtain ⟨b1, o1, e, _⟩ := HR.out.2 (by omega)
        exact ⟨b1, o1, e⟩
      obtain ⟨b1, o1, rfl⟩ := hA
      have hat := rq_at (HR.out.below HB.out) x hxn HN.out
      have HTa := hid_ (ahead_take l head o k hko)
      have HTb := hid_ (behind_take l head o k hko)
      rw [hxe] at HTa HTb
      obtain ⟨ax, hax⟩ : ∃ ax, atK l (x : Int) = ax := ⟨_, rfl⟩
      rw [hax] at hat HTa HTb
      clear hax hxe HOk
      have hltz : (k : Int) < (o.length : Int) := by omega
      have hxz : (x : Int) < (n : Int) := by omega
      have hpa := hid_ (fun g (h : Pq w.heap.size w1.heap.size g) => show ¬ g < w.heap.size from by unfold Pq at h; omega)
      by_cases hc : head ≤ ax
      · have ea := hid_ (HTa.out.trans (by rw [if_pos hc]))
        have eb := hid_ (HTb.out.trans (by rw [if_neg (by omega), List.append_nil]))
        clear HTa HTb
        obtain ⟨Av, cv, rfl, _, _⟩ := own_shape H2.out.ra
        obtain ⟨Aw, cw, rfl, _, _⟩ := own_shape H2.out.rb
        go_wp2_with (at_builtin; (with_reducible change wpList _ _ _ (⟨some 39, _, _, _, _, _⟩ :: _) _ _); refine wpList_push_at _ rfl _ _ 26 rfl w.heap.size 3 (.int .i64 0) 1 8 Try.underlying26 int_info rfl (by decide) (by decide) _ _ rfl rfl _ _ _ H2.out.ra rfl _ rfl (by simp) (by omega) hbs ?_; intro v39 w39 ho39 hg39 hf39; have H39 := hid_ (H2.out.pushA ho39 hg39 hf39 (fun g h => .inr (.inr (by omega)))); have HB39 := hid_ (below_push HB.out H2.out.ra hg39 hbs); have HK39 := hid_ (fun b (h1 : ¬ Pq w.heap.size w1.heap.size b) (h2 : b < w1.heap.size) => (hg39.block b (by omega) (fun e => h1 (H2.out.pa b e.symm))).trans (HK.out b h1 h2)); have hs39 := hg39.size; clear ho39 hg39 hf39)
        go_roundw
        case rel => exact ⟨k + 1, by omega, by go_num, by rw [ea.out, eb.out]; exact H39.out, HB39.out, HK39.out, by omega⟩
        case measure => exact meas_ hlt
      · have ea := hid_ (HTa.out.trans (by rw [if_neg hc, List.append_nil]))
        have eb := hid_ (HTb.out.trans (by rw [if_pos (by omega)]))
        clear HTa HTb
        obtain ⟨Av, cv, rfl, _, _⟩ := own_shape H2.out.ra
        obtain ⟨Aw, cw, rfl, _, _⟩ := own_shape H2.out.rb
        go_wp2_with (at_builtin; (with_reducible change wpList _ _ _ (⟨some 46, _, _, _, _, _⟩ :: _) _ _); refine wpList_push_at _ rfl _ _ 26 rfl w.heap.size 3 (.int .i64 0) 1 8 Try.underlying26 int_info rfl (by decide) (by decide) _ _ rfl rfl _ _ _ H2.out.rb rfl _ rfl (by simp) (by omega) hbs ?_; intro v46 w46 ho46 hg46 hf46; have H46 := hid_ (H2.out.pushB ho46 hg46 hf46 (fun g h => .inr (.inr (by omega)))); have HB46 := hid_ (below_push HB.out H2.out.rb hg46 hbs); have HK46 := hid_ (fun b (h1 : ¬ Pq w.heap.size w1.heap.size b) (h2 : b < w1.heap.size) => (hg46.block b (by omega) (fun e => h1 (H2.out.pb b e.symm))).trans (HK.out b h1 h2)); have hs46 := hg46.size; clear ho46 hg46 hf46)
        go_roundw
        case rel => exact ⟨k + 1, by omega, by go_num, by rw [ea.out, eb.out]; exact H46.out, HB46.out, HK46.out, by omega⟩
        case measure => exact meas_ hlt
    · have hk' : o.take k = o := List.take_of_length_le (by omega)
      rw [hk'] at H2 hla
      have hka : ¬ ((k : Int) < (o.length : Int)) := by omega
      have ra := H2.out.ra
      obtain ⟨Aa, ca, rfl, _, _⟩ := own_shape ra
      have rb := H2.out.rb
      obtain ⟨Ab, cb, rfl, _, _⟩ := own_shape rb
      have RA := hid_ ra; clear ra
      have RB := hid_ (own_rd rb); clear rb
      go_wp2_with (at_builtin; (with_reducible change wpList _ _ _ (⟨some 49, _, _, _, _, _⟩ :: _) _ _); refine wpList_append_rdg _ rfl _ _ 26 rfl w.heap.size 3 (.int .i64 0) 1 8 Try.underlying26 int_info rfl (by decide) (by decide) _ _ _ RA.out rfl _ _ _ _ RB.out rfl (intC_one _) (by omega) hbs ?_; intro v49 w49 ho' hg'; have HO49 := hid_ ho'; have HG49 := hid_ hg'; clear ho' hg')
      go_returns
      exact RSl.of_own' HO49.out (below_push HB.out RA.out HG49.out hbs) (by rw [HS.out]; unfold sweepO; simp) (by rw [HS.out]; unfold sweepO; rw [intC_append])
end Go.Proofs.Ytfelfopcmkeimaa
