/-
  Schedulers: what the law on the next request draws.
-/
import Derived.Test.YtfelfopcmkeimaaScM
import Derived.Test.YtfelfopcmkeimaaPkC
namespace Go.Proofs.Ytfelfopcmkeimaa
open Go.ChangeShapes Go.WideShapes Go.ChangeAt Go.RowKit Go.BigFrame Go.Deep

/-- drawn requests, times, and four numbers -/
def DrawnPk (w : World) (e : Ending) (w' : World) : Prop :=
  ∃ (l : List Rq) (A : Option Addr) (c : Nat) (ts : List Int) (A2 : Option Addr) (c2 : Nat) (now head reads writes : Int), e = .returned (.tuple #[.slice A l.length c, .slice A2 ts.length c2, .int .i64 now, .int .i64 head, .int .i64 reads, .int .i64 writes]) ∧ l.length ≤ 60 ∧ l.length ≤ c ∧ c ≤ maxLen ∧ ts.length ≤ 62 ∧ ts.length ≤ c2 ∧ c2 ≤ maxLen ∧
    w'.ownsRow w.heap.size 31 3 (.slice A l.length c) l.length (rqC l) ∧ w'.ownsRow w.heap.size 3 1 (.slice A2 ts.length c2) ts.length (intC ts) ∧ Below w.heap.size w w'
theorem DrawnPk.mk_ {w w1 w' : World} {l : List Rq} {A : Option Addr} {c : Nat} {v : Value} {ts : List Int} {now head reads writes : Int} (h0 : l.length ≤ 60) (h1 : l.length ≤ c) (h2 : c ≤ maxLen) (h3 : ts.length ≤ 62) (hb : Below w.heap.size w w1) (ho : w'.ownsRow w1.heap.size 31 3 (.slice A l.length c) l.length (rqC l)) (ho2 : w'.ownsRow w1.heap.size 3 1 v ts.length (intC ts)) (hg : w1.grownBy w' (some w.heap.size)) :
    DrawnPk w (.returned (.tuple #[.slice A l.length c, v, .int .i64 now, .int .i64 head, .int .i64 reads, .int .i64 writes])) w' := by
  obtain ⟨A2, c2, rfl, h4, h5⟩ := own_shape ho2
  exact ⟨l, A, c, ts, A2, c2, now, head, reads, writes, rfl, h0, h1, h2, h3, h4, h5, own_base ho hb.size, own_base ho2 hb.size, hb.trans (below_of_gbs hg hb.size (Nat.le_refl _))⟩

theorem quo15 {k : Int} (h0 : 0 ≤ k) (h1 : k < 16) : ∃ q : Int, k.tdiv 15 = q ∧ 0 ≤ q ∧ q ≤ 1 := by
  refine ⟨k.tdiv 15, rfl, ?_⟩
  rw [Int.tdiv_eq_ediv_of_nonneg h0]
  omega

set_option maxHeartbeats 4000000 in
theorem drawPk_any (A : Option Addr) (n c : Nat) (w : World) (hn : n ≤ 1048576) (hc : n ≤ c) (hcm : c ≤ maxLen) (hB : Bys w w.heap.size A n) :
    Calls Try.prog 25 #[.slice A n c] w (DrawnPk w) := by
  have HB := hid_ hB; clear hB
  have HC := hid_ hcm; clear hcm
  go_enter Try.func25, Try.ntmps25
  go_wp2_with fail
  refine (open_any A n c _ hn hc HC.out HB.out).mono ?_
  rintro e w1 ⟨rfl, hr1, hb1⟩
  have HBB := hid_ hb1; clear hb1
  have HR := hid_ hr1; clear hr1
  obtain ⟨g, hg⟩ : ∃ g, g = w.heap.size := ⟨_, rfl⟩
  rw [← hg] at HR
  simp only [← hg]
  have hlt := HR.out.lt
  have HGG := hid_ hg; clear hg
  go_wp2_with fail
  refine (l20Requests_any g 16 _ (by omega) (by omega) HR.out).mono ?_
  rintro e w2 ⟨l, A2, c2, rfl, hl, hc1, hc2, _, ho2, hr2, hg2⟩
  have HH := hid_ (And.intro hl (And.intro hc1 hc2)); clear hc1 hc2
  have hs2 := hg2.size
  have HOl := hid_ (ho2.alloc (.cells #[] 3)); clear ho2
  have HOt := hid_ (own_base (own_empty w2 3 1) hs2)
  clear HR
  have HR := hid_ (hr2.alloc (.cells #[] 3)); clear hr2
  have G := hid_ (gb_trans hg2 (World.grownBy_alloc w2 (.cells #[] 3) (some g))); clear hg2
  go_wp2
  go_loopw [10, 11, 12] (fun vt vT vk wr => ∃ (k : Nat) (T : Int) (ts : List Int), k ≤ l.length + 1 ∧ 0 ≤ T ∧ T ≤ 5 * k ∧ ts.length = k ∧ vT = .int .i64 T ∧ vk = .int .i64 k ∧ wr.ownsRow w1.heap.size 31 3 (.slice A2 l.length c2) l.length (rqC l) ∧ wr.ownsRow w1.heap.size 3 1 vt ts.length (intC ts) ∧ Rdr wr g (200 + 2 * k) ∧ w1.grownBy wr (some g)) (fun _ _ vk _ => l.length + 2 - (intOf vk).toNat)
  case atStart => exact ⟨0, 0, [], by omega, by omega, by omega, rfl, rfl, rfl, HOl.out, HOt.out, HR.out.mono (by omega), G.out⟩
  case round =>
    obtain ⟨k, T, ts, hk, t0, t1, htk, rfl, rfl, hol, hot, hr, hgg⟩ := hrel
    clear HOl HOt HR G
    have HOl := hid_ hol; clear hol
    have HOt := hid_ hot; clear hot
    have HR := hid_ hr; clear hr
    have G := hid_ hgg; clear hgg
    have hts : ts.length ≤ 62 := by omega
    have HTK := hid_ htk; clear htk
    have hsz := G.out.size
    go_wp2_with fail
    refine (pick_any g (200 + 2 * (k : Int)) 16 _ (by omega) (by omega) (by omega) HR.out).mono ?_
    rintro e w3 ⟨k3, rfl, hk30, hk31, hx_, hr_, hg_⟩
    replace hk31 := hk31 (by omega)
    clear hx_
    have HGo := hid_ hg_
    have hs_hg_ := hg_.size
    try simp only [World.size_alloc, World.size_setCell] at hs_hg_
    replace HOl := hid_ (own_pick HOl.out hg_ hlt)
    replace HOt := hid_ (own_pick HOt.out hg_ hlt)
    replace G := hid_ (gb_trans G.out hg_); clear hg_
    replace HR := hid_ hr_; clear hr_
    obtain ⟨q, hq, q0, q1⟩ := quo15 hk30 hk31
    have hfif : ¬ (15 : Int) = 0 := by omega
    by_cases hlt2 : (k : Int) < (l.length : Int) + q
    · go_wp2_with fail
      refine (pick_any g (200 + 2 * (k : Int) + 1) 6 _ (by omega) (by omega) (by omega) HR.out).mono ?_
      rintro e w4 ⟨k4, rfl, hk40, hk41, hx_, hr_, hg_⟩
      replace hk41 := hk41 (by omega)
      clear hx_
      have HGo := hid_ hg_
      have hs_hg_ := hg_.size
      try simp only [World.size_alloc, World.size_setCell] at hs_hg_
      replace HOl := hid_ (own_pick HOl.out hg_ hlt)
      replace HOt := hid_ (own_pick HOt.out hg_ hlt)
      replace G := hid_ (gb_trans G.out hg_); clear hg_
      replace HR := hid_ hr_; clear hr_
      have hs4 := G.out.size
      go_wp2_with (at_builtin; refine wpList_push _ rfl _ _ 26 rfl w1.heap.size 3 (.int .i64 0) 1 8 Try.underlying26 int_info rfl (by decide) (by decide) _ _ rfl rfl _ _ _ HOt.out rfl _ rfl (by simp) (by omega) (by omega) ?_; intro v' w' ho' hg')
      go_roundw
      case rel =>
        refine ⟨k + 1, T + k4, ts ++ [T + k4], by omega, by omega, by omega, by simp [HTK.out], by go_num, by go_num, ?_, own_eq ho' (by simp) (by rw [intC_append]; rfl), ?_, gb_own G.out HOt.out hg' (Nat.le_refl _)⟩
        · exact own_other HOl.out HOt.out (by decide) hg'
        · exact (rdr_own HR.out HOt.out hg' hlt).mono (by omega)
      case measure => simp [intOf]; omega
    · obtain ⟨At, ct, rfl, hct, hcmt⟩ := own_shape HOt.out
      have HCt := hid_ hcmt; clear hcmt
      go_wp2_with fail
      refine (pick_any g (200 + 2 * (k : Int) + 1) 30 _ (by omega) (by omega) (by omega) HR.out).mono ?_
      rintro e w4 ⟨k4, rfl, hk40, hk41, hx_, hr_, hg_⟩
      replace hk41 := hk41 (by omega)
      clear hx_
      have HGo := hid_ hg_
      have hs_hg_ := hg_.size
      try simp only [World.size_alloc, World.size_setCell] at hs_hg_
      replace HOl := hid_ (own_pick HOl.out hg_ hlt)
      replace HOt := hid_ (own_pick HOt.out hg_ hlt)
      replace G := hid_ (gb_trans G.out hg_); clear hg_
      replace HR := hid_ hr_; clear hr_
      go_wp2_with fail
      refine (pick_any g (200 + 2 * (k : Int) + 1 + 1) 16 _ (by omega) (by omega) (by omega) HR.out).mono ?_
      rintro e w5 ⟨k5, rfl, hk50, hk51, hx_, hr_, hg_⟩
      replace hk51 := hk51 (by omega)
      clear hx_
      have HGo := hid_ hg_
      have hs_hg_ := hg_.size
      try simp only [World.size_alloc, World.size_setCell] at hs_hg_
      replace HOl := hid_ (own_pick HOl.out hg_ hlt)
      replace HOt := hid_ (own_pick HOt.out hg_ hlt)
      replace G := hid_ (gb_trans G.out hg_); clear hg_
      replace HR := hid_ hr_; clear hr_
      obtain ⟨q', hq', q0', q1'⟩ := quo15 hk50 hk51
      go_wp2_with fail
      refine (pick_any g (200 + 2 * (k : Int) + 1 + 1 + 1) 120 _ (by omega) (by omega) (by omega) HR.out).mono ?_
      rintro e w6 ⟨k6, rfl, hk60, hk61, hx_, hr_, hg_⟩
      replace hk61 := hk61 (by omega)
      clear hx_
      have HGo := hid_ hg_
      have hs_hg_ := hg_.size
      try simp only [World.size_alloc, World.size_setCell] at hs_hg_
      replace HOl := hid_ (own_pick HOl.out hg_ hlt)
      replace HOt := hid_ (own_pick HOt.out hg_ hlt)
      replace G := hid_ (gb_trans G.out hg_); clear hg_
      replace HR := hid_ hr_; clear hr_
      go_wp2_with fail
      refine (pick_any g (200 + 2 * (k : Int) + 1 + 1 + 1 + 1) 30 _ (by omega) (by omega) (by omega) HR.out).mono ?_
      rintro e w7 ⟨k7, rfl, hk70, hk71, hx_, hr_, hg_⟩
      replace hk71 := hk71 (by omega)
      clear hx_
      have HGo := hid_ hg_
      have hs_hg_ := hg_.size
      try simp only [World.size_alloc, World.size_setCell] at hs_hg_
      replace HOl := hid_ (own_pick HOl.out hg_ hlt)
      replace HOt := hid_ (own_pick HOt.out hg_ hlt)
      replace G := hid_ (gb_trans G.out hg_); clear hg_
      replace HR := hid_ hr_; clear hr_
      go_wp2_with fail
      refine (pick_any g (200 + 2 * (k : Int) + 1 + 1 + 1 + 1 + 1) 60 _ (by omega) (by omega) (by omega) HR.out).mono ?_
      rintro e w8 ⟨k8, rfl, hk80, hk81, hx_, hr_, hg_⟩
      replace hk81 := hk81 (by omega)
      clear hx_
      have HGo := hid_ hg_
      have hs_hg_ := hg_.size
      try simp only [World.size_alloc, World.size_setCell] at hs_hg_
      replace HOl := hid_ (own_pick HOl.out hg_ hlt)
      replace HOt := hid_ (own_pick HOt.out hg_ hlt)
      replace G := hid_ (gb_trans G.out hg_); clear hg_
      replace HR := hid_ hr_; clear hr_
      go_wp2
      go_returns
      exact DrawnPk.mk_ HH.out.1 HH.out.2.1 HH.out.2.2 (by have := HTK.out; omega) HBB.out HOl.out HOt.out (by rw [← HGG.out]; exact G.out)
end Go.Proofs.Ytfelfopcmkeimaa
