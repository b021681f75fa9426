/-
  Schedulers: the law on distances. Serving one request at the head costs nothing; an order costs at least the way to its first request.
-/
import Derived.Test.YtfelfopcmkeimaaScM
import Derived.Test.YtfelfopcmkeimaaScO
import Derived.Test.YtfelfopcmkeimaaOrD
import Derived.Test.YtfelfopcmkeimaaSkA
namespace Go.Proofs.Ytfelfopcmkeimaa
open Go.ChangeShapes Go.WideShapes Go.ChangeAt Go.RowKit Go.BigFrame Go.Deep

theorem abs_any (x : Int) (w : World) (h : -1000000 ≤ x ∧ x ≤ 1000000) :
    Calls Try.prog 29 #[.int .i64 x] w fun e w' => e = .returned (.int .i64 (max x (-x))) ∧ w = w' := by
  rcases Int.le_total 0 x with q | q
  · have e : max x (-x) = x := by omega
    have q2 : -x ≤ x := by omega
    rw [e]
    go_enter Try.func29, Try.ntmps29
    go_wp2
    all_goals first | (go_returns; exact ⟨ret_int (by omega), rfl⟩) | (exfalso; omega)
  · have e : max x (-x) = -x := by omega
    have q2 : x ≤ -x := by omega
    rw [e]
    go_enter Try.func29, Try.ntmps29
    go_wp2
    all_goals first | (go_returns; exact ⟨ret_int (by omega), rfl⟩) | (exfalso; omega)

/-- drawn requests, an order, a place -/
def DrawnSk (w : World) (e : Ending) (w' : World) : Prop :=
  ∃ (l : List Rq) (A : Option Addr) (c : Nat) (o : List Int) (A2 : Option Addr) (c2 : Nat) (head : Int), e = .returned (.tuple #[.slice A l.length c, .slice A2 o.length c2, .int .i64 head]) ∧ l.length ≤ 60 ∧ l.length ≤ c ∧ c ≤ maxLen ∧ o.length ≤ 60 ∧ o.length ≤ c2 ∧ c2 ≤ maxLen ∧
    w'.ownsRow w.heap.size 31 3 (.slice A l.length c) l.length (rqC l) ∧ w'.ownsRow w.heap.size 3 1 (.slice A2 o.length c2) o.length (intC o) ∧ Below w.heap.size w w'
theorem DrawnSk.mk_ {w w1 w' : World} {l : List Rq} {A : Option Addr} {c : Nat} {v : Value} {o : List Int} {head : Int} (h0 : l.length ≤ 60) (h1 : l.length ≤ c) (h2 : c ≤ maxLen) (h3 : o.length ≤ 60) (hb : Below w.heap.size w w1) (ho : w'.ownsRow w1.heap.size 31 3 (.slice A l.length c) l.length (rqC l)) (ho2 : w'.ownsRow w1.heap.size 3 1 v o.length (intC o)) (hg : w1.grownBy w' (some w.heap.size)) :
    DrawnSk w (.returned (.tuple #[.slice A l.length c, v, .int .i64 head])) w' := by
  obtain ⟨A2, c2, rfl, h4, h5⟩ := own_shape ho2
  exact ⟨l, A, c, o, A2, c2, head, rfl, h0, h1, h2, h3, h4, h5, own_base ho hb.size, own_base ho2 hb.size, hb.trans (below_of_gbs hg hb.size (Nat.le_refl _))⟩
theorem quo13 {k : Int} (h0 : 0 ≤ k) (h1 : k < 14) : ∃ q : Int, k.tdiv 13 = q ∧ 0 ≤ q ∧ q ≤ 1 := by
  refine ⟨k.tdiv 13, rfl, ?_⟩
  rw [Int.tdiv_eq_ediv_of_nonneg h0]
  omega

set_option maxHeartbeats 1000000 in
theorem drawSk_any (A : Option Addr) (n c : Nat) (w : World) (hn : n ≤ 1048576) (hc : n ≤ c) (hcm : c ≤ maxLen) (hB : Bys w w.heap.size A n) :
    Calls Try.prog 28 #[.slice A n c] w (DrawnSk w) := by
  have HB := hid_ hB; clear hB
  have HC := hid_ hcm; clear hcm
  go_enter Try.func28, Try.ntmps28
  go_wp2_with fail
  refine (open_any A n c _ hn hc HC.out HB.out).mono ?_
  rintro e w1 ⟨rfl, hr1, hb1⟩
  have HBB := hid_ hb1; clear hb1
  have HR := hid_ hr1; clear hr1
  obtain ⟨g, hg⟩ : ∃ g, g = w.heap.size := ⟨_, rfl⟩
  rw [← hg] at HR
  simp only [← hg]
  have hlt := HR.out.lt
  have HGG := hid_ hg; clear hg
  go_wp2_with fail
  refine (l20Requests_any g 14 _ (by omega) (by omega) HR.out).mono ?_
  rintro e w2 ⟨l, A2, c2, rfl, hl, hc1, hc2, _, ho2, hr2, hg2⟩
  have HH := hid_ (And.intro hl (And.intro hc1 hc2)); clear hc1 hc2
  have hs2 := hg2.size
  have HOl := hid_ ho2; clear ho2
  clear HR
  have HR := hid_ hr2; clear hr2
  have G := hid_ hg2; clear hg2
  go_wp2_with fail
  refine (l20Order_any g 200 l.length 9 _ (by omega) (by omega) (by omega) (by omega) (by omega) HR.out).mono ?_
  rintro e w3 ⟨o, A3, c3, rfl, ho, _, _, hc3, hcm3, hor, hr3, hg3⟩
  have HO := hid_ ho; clear ho
  have HH3 := hid_ (And.intro hc3 hcm3); clear hc3 hcm3
  replace HOl := hid_ (own_pick HOl.out hg3 hlt)
  have HOo := hid_ (own_base hor hs2); clear hor
  replace HR := hid_ (hr3.mono (show 200 + 2 * (l.length : Int) + 20 ≤ 400 by omega)); clear hr3
  replace G := hid_ (gb_trans G.out hg3); clear hg3
  have hol : o.length ≤ 60 := by have := HO.out; omega
  go_wp2_with fail
  refine (pick_any g (400) 120 _ (by omega) (by omega) (by omega) HR.out).mono ?_
  rintro e w4 ⟨k4, rfl, hk40, hk41, hx_, hr_, hg_⟩
  replace hk41 := hk41 (by omega)
  clear hx_
  have HGo := hid_ hg_
  have hs_hg_ := hg_.size
  try simp only [World.size_alloc, World.size_setCell] at hs_hg_
  replace HOl := hid_ (own_pick HOl.out hg_ hlt)
  replace HOo := hid_ (own_pick HOo.out hg_ hlt)
  replace G := hid_ (gb_trans G.out hg_); clear hg_
  replace HR := hid_ hr_; clear hr_
  go_wp2_with fail
  refine (pick_any g (400 + 1) 14 _ (by omega) (by omega) (by omega) HR.out).mono ?_
  rintro e w5 ⟨k5, rfl, hk50, hk51, hx_, hr_, hg_⟩
  replace hk51 := hk51 (by omega)
  clear hx_
  have HGo := hid_ hg_
  have hs_hg_ := hg_.size
  try simp only [World.size_alloc, World.size_setCell] at hs_hg_
  replace HOl := hid_ (own_pick HOl.out hg_ hlt)
  replace HOo := hid_ (own_pick HOo.out hg_ hlt)
  replace G := hid_ (gb_trans G.out hg_); clear hg_
  replace HR := hid_ hr_; clear hr_
  obtain ⟨q, hq, q0, q1⟩ := quo13 hk50 hk51
  go_wp2
  go_returns
  exact DrawnSk.mk_ HH.out.1 HH.out.2.1 HH.out.2.2 hol HBB.out HOl.out HOo.out (by rw [← HGG.out]; exact G.out)

theorem seek_mono (l : List Rq) : ∀ (o : List Int) (p : Int × Int), p.1 ≤ (o.foldl (seekS l) p).1 := by
  intro o
  induction o with
  | nil => intro p; exact Int.le_refl _
  | cons x r ih =>
    intro p
    rw [List.foldl_cons]
    refine Int.le_trans ?_ (ih _)
    show p.1 ≤ p.1 + dist (atK l x) p.2
    have := dist_nonneg (atK l x) p.2
    omega

/-- what the law asks -/
theorem sk_facts {l : List Rq} {o : List Int} {head : Int} (h : skOk l o head = true) : 0 ≤ seekR l o head ∧ o.length = l.length ∧ (0 ≤ head ∧ head ≤ 100000) ∧ (l.length = 0 → seekR l o head = 0) ∧ (0 < l.length → ∃ (x : Nat) (hx : x < l.length), o[0]? = some (x : Int) ∧ (0 ≤ atK l x ∧ atK l x ≤ 100000) ∧ max (atK l x - head) (-(atK l x - head)) ≤ seekR l o head ∧ seekR [l[x]] [0] (atK l x) = 0) := by
  obtain ⟨h1, h2, h3⟩ := skOk_parts h
  obtain ⟨i1, i2, i3⟩ := isOrd_parts h2
  have hh := inB_iff.1 h3
  have hR : seekR l o head = (seekP l head o).1 := by unfold seekR; rw [h]; rfl
  refine ⟨by rw [hR]; exact seek_mono l o (0, head), i1, hh, fun hl => ?_, fun hl => ?_⟩
  · have : o = [] := List.eq_nil_of_length_eq_zero (by omega)
    rw [hR, this]; rfl
  · have h0 := i2 0 (by omega)
    obtain ⟨x, hx⟩ := Int.eq_ofNat_of_zero_le h0.1
    have hxl : x < l.length := by omega
    have hb := at_bd h1 x hxl
    refine ⟨x, hxl, by rw [List.getElem?_eq_getElem (by omega), hx], hb.1, ?_, ?_⟩
    · rw [hR]
      cases o with
      | nil => simp at i1; omega
      | cons y r =>
        have hy : y = (x : Int) := by simpa using hx
        subst hy
        have := seek_mono l r (seekS l (0, head) (x : Int))
        have e : (seekS l (0, head) (x : Int)).1 = dist (atK l x) head := by simp [seekS]
        rw [e] at this
        have e2 : max (atK l x - head) (-(atK l x - head)) = dist (atK l x) head := by unfold dist; omega
        rw [e2]
        exact this
    · have hat : atK l x = l[x].at_ := atK_nat l x hxl
      have hg := rv_get h1 x hxl
      have hok : skOk [l[x]] [0] (atK l x) = true := by
        unfold skOk
        have r1 : rv [l[x]] = true := by
          unfold rv okR
          simp only [List.all_cons, List.all_nil, List.length_singleton, Bool.and_eq_true, inB_iff, decide_eq_true_eq]
          exact ⟨⟨⟨hg.1, hg.2⟩, trivial⟩, by omega⟩
        rw [r1, inB_iff.2 hb.1]
        rfl
      have e1 : atK [l[x]] 0 = atK l x := by rw [hat]; rfl
      have : seekR [l[x]] [0] (atK l x) = (seekP [l[x]] (atK l x) [0]).1 := by unfold seekR; rw [hok]; rfl
      rw [this]
      show 0 + dist (atK [l[x]] 0) (atK l x) = 0
      rw [e1]; unfold dist; omega

theorem rd_rq1_ (w : World) (r : Rq) (g : Nat) (hg : w.heap.size = g) : Rd (w.alloc (.cells #[.int .i64 r.at_, .int .i64 r.count, .bool r.write] 31)) 3 (some ⟨g, 0, none⟩) 1 (rqC [r]) := by
  subst hg
  exact ⟨rfl, fun _ => ⟨_, _, rfl, fun j u hu => by
    have := news_alloc w [.int .i64 r.at_, .int .i64 r.count, .bool r.write] 31 j u hu
    rwa [add_mid] at this⟩⟩

set_option maxHeartbeats 1600000 in
theorem lawSeek_walk (z : List Int) (A : Option Addr) (n c : Nat) (w : World) (hl : z.length = n) (hc : n ≤ c) (hcm : c ≤ maxLen) (_ : True) (hB : Bys w w.heap.size A n) :
    Calls Try.prog 7 #[.slice A n c] w fun e w' => e = .returned (.bool true) ∧ Below w.heap.size w w' := by
  clear hl
  have HB := hid_ hB; clear hB
  have HC := hid_ hcm
  have hm : n ≤ 9223372036854775807 := by unfold maxLen at hcm; omega
  clear hcm
  by_cases hbig : (1048576 : Int) < (n : Int)
  · go_enter Try.func7, Try.ntmps7
    go_wp2
    go_returns
    exact ⟨rfl, Below.refl _ _⟩
  have hn20 : n ≤ 1048576 := by omega
  go_enter Try.func7, Try.ntmps7
  go_wp2_with fail
  refine (drawSk_any A n c _ hn20 hc HC.out HB.out).mono ?_
  clear HB HC
  rintro e w1 ⟨l, Al, cl, o, Ao, co, head, rfl, hl, hcl, hcml, hos, hco, hcmo, hol, hoo, BB⟩
  replace BB := hid_ BB
  have HRl := hid_ (own_rd hol); clear hol
  have HRo := hid_ (own_rd hoo); clear hoo
  have HCl := hid_ hcml; clear hcml
  have HCo := hid_ hcmo; clear hcmo
  go_wp2_with fail
  refine (implSeek_any l Al l.length cl o Ao o.length co head _ rfl (by omega) hcl HCl.out HRl.out rfl (by omega) hco HCo.out HRo.out).mono ?_
  rintro e w2 ⟨rfl, hb_w2⟩
  have hs_hb_w2 := hb_w2.size
  replace BB := hid_ (BB.out.trans (hb_w2.mono BB.out.size))
  replace HRl := hid_ (HRl.out.below hb_w2)
  replace HRo := hid_ (HRo.out.below hb_w2)
  clear hb_w2
  go_wp2_with fail
  refine (specSeek_any l Al l.length cl o Ao o.length co head _ rfl (by omega) HRl.out rfl (by omega) HRo.out).mono ?_
  rintro e w3 ⟨rfl, hb_w3⟩
  have hs_hb_w3 := hb_w3.size
  replace BB := hid_ (BB.out.trans (hb_w3.mono BB.out.size))
  replace HRl := hid_ (HRl.out.below hb_w3)
  replace HRo := hid_ (HRo.out.below hb_w3)
  clear hb_w3
  cases hok : skOk l o head
  · have hX : seekR l o head = -1 := by unfold seekR; rw [hok]; rfl
    rw [hX]
    clear hX hok
    go_wp2_with fail
    go_wp2_with fail
    refine (alive_any _).mono ?_
    rintro e w5 ⟨rfl, hbal⟩
    replace BB := hid_ (BB.out.trans (hbal.mono BB.out.size))
    go_wp2
    go_returns
    exact ⟨rfl, BB.out⟩
  · obtain ⟨f1, f2, f3, f4, f5⟩ := sk_facts hok
    clear hok
    obtain ⟨X, hX⟩ : ∃ X, seekR l o head = X := ⟨_, rfl⟩
    rw [hX] at f1 f4 f5 ⊢
    clear hX
    have F5 := hid_ f5; clear f5
    have F2 := hid_ f2; clear f2
    by_cases h0 : l.length = 0
    · obtain rfl := f4 h0
      have hz : ((l.length : Int) == 0) = true := by simp [h0]
      rw [h0] at hz ⊢
      go_wp2
      go_returns
      exact ⟨rfl, BB.out⟩
    · have hpos : 0 < l.length := by omega
      clear f4
      obtain ⟨x, hxl, hx0, hb, hX, hone⟩ := F5.out hpos
      have hz : ((l.length : Int) == 0) = false := by rw [beq_eq_false_iff_ne]; omega
      have HX0 := hid_ hx0; clear hx0
      have HONE := hid_ hone; clear hone
      obtain ⟨b1, o1, rfl⟩ := addr_at HRl.out hpos
      obtain ⟨b2, o2, rfl, ho0⟩ := HRo.out.int 0 (by have := F2.out; omega) rfl
      have hv : o[0]'(by rw [F2.out]; exact hpos) = (x : Int) := by have := HX0.out; rw [List.getElem?_eq_getElem (by rw [F2.out]; exact hpos)] at this; exact Option.some.inj this
      rw [hv, Nat.add_zero] at ho0
      clear hv
      obtain ⟨b1', o1', e1, r0, r1, r2⟩ := HRl.out.rq x hxl rfl
      injection e1 with e1
      injection e1 with e1 e2
      subst e1; subst e2
      have hat : atK l x = l[x].at_ := atK_nat l x hxl
      rw [hat] at hb hX HONE
      clear hat
      obtain ⟨Y, hY⟩ : ∃ Y, l[x] = Y := ⟨_, rfl⟩
      rw [hY] at hb hX HONE r0 r1 r2
      clear hY
      obtain ⟨ya, yc, yw⟩ := Y
      simp only at hb hX r0 r1 r2
      have hpo : 0 < o.length := by rw [F2.out]; exact hpos
      obtain ⟨M, hM⟩ : ∃ M, max (ya - head) (-(ya - head)) = M := ⟨_, rfl⟩
      rw [hM] at hX
      have HM := hid_ hM; clear hM
      have hfd : -1000000 ≤ ya - head ∧ ya - head ≤ 1000000 := by omega
      have hMX : M ≤ X := hX
      have hsw := BB.out.size
      go_wp2_with (go_at_call 29; refine (abs_any _ _ hfd).mono ?_; rw [HM.out]; rintro e w4 ⟨rfl, rfl⟩)
      have r1 := (rd_rq1_ (w3.alloc (.cells #[.int .i64 ya, .int .i64 yc, .bool yw] 31)) ⟨ya, yc, yw⟩ (w3.heap.size + 1) (by simp)).alloc (.cells #[.int .i64 0] 3)
      have r2 := rd_int1 ((w3.alloc (.cells #[.int .i64 ya, .int .i64 yc, .bool yw] 31)).alloc (.cells #[.int .i64 ya, .int .i64 yc, .bool yw] 31)) 0 (w3.heap.size + 1 + 1) (by simp)
      refine (implSeek_any [⟨ya, yc, yw⟩] _ 1 1 [0] _ 1 1 ya _ rfl (by omega) (by omega) (by unfold maxLen; omega) r1 rfl (by omega) (by omega) (by unfold maxLen; omega) r2).mono ?_
      rw [HONE.out]
      rintro e w4 ⟨rfl, hb4⟩
      have HB4 := hid_ (((BB.out.alloc hsw (.cells #[.int .i64 ya, .int .i64 yc, .bool yw] 31)).alloc (by simp; omega) (.cells #[.int .i64 ya, .int .i64 yc, .bool yw] 31)).alloc (by simp; omega) (.cells #[.int .i64 0] 3))
      replace HB4 := hid_ (HB4.out.trans (hb4.mono HB4.out.size))
      clear hb4 r1 r2
      go_wp2
      go_returns
      exact ⟨rfl, HB4.out⟩

set_option maxRecDepth 100000 in
theorem fnSeekDistance_lifted (os : Os) (started : os.Started) (H : Type) (enc : TypeId × Value → H) :
    ReturnsInHanded {} Try.checked os 7 .any (Rows.fnSeekDistanceSpec.pre6 enc Try.prog Try.f7 Rows.fnSeekDistanceRow.domain false) (Rows.fnSeekDistanceSpec.post enc Try.prog Try.f7 false true false false) := by
  refine returnsInHanded_of_change (C := Try.checked) own_ started (by kernel_rfl) Try.func7
    (ChangeSpec.witness6 (enc := enc) (C := Try.checked) false ⟨#[], #[.slice none 0 0], []⟩ 8 (by kernel_rfl) (by kernel_rfl) (by kernel_rfl) (by kernel_rfl)) ?_
  intro W base args ds gs before hval0 hW hcnd _
  have hval : ∀ (j : Nat) t v, Try.f7.params[j]? = some t → args[j]? = some v → Value.okWide Try.prog W .any base t v := hval0
  have hW' := hW
  obtain ⟨p, q, hA0, hV, rfl, hfz, hnd⟩ := hW
  have hA : DataW.TrodAll enc Try.prog W 0 (fun _ => true) true Try.f7.params.toList args.toList ds p := hA0
  rw [Try.params7] at hA hval
  obtain ⟨v0, vs0, d0, ds0, p0, q0, hargs, rfl, rfl, h0, r0⟩ := trodAll_cons hA
  obtain ⟨rfl, rfl, rfl⟩ := trodAll_nil r0
  obtain rfl : args = #[v0] := by cases args; simp_all
  obtain ⟨rfl, rfl⟩ := trodVars_none hV
  obtain ⟨a0, len0, cap0, rfl⟩ := okWide_slice Try.underlying22 (hval 0 22 v0 rfl rfl)
  have k0 := h0
  have lt0 : ∀ x ∈ p0, x.block < W.heap.size := by obtain ⟨m, hm⟩ := k0; exact DataW.trod_lt m _ _ _ hm
  obtain ⟨z0, e0, lc0, cm0, w0, rd0⟩ := open_bytes h0
  clear hA0 hval0
  refine (lawSeek_walk z0 a0 len0 cap0 W e0 lc0 cm0 w0 rd0).mono fun e W' ⟨he, bel⟩ => ?_
  subst he
  exact ⟨_, rfl, _, _, _, [], _, [], hW', trodAll_mk1 (shut_bool Try.underlying4 _), (trodAll_cons_mk (Below.trod laidOut_ (by kernel_rfl) (of_decide_eq_true (by kernel_rfl)) k0 bel lt0) trodAll_mk0), rfl, bel.frame _, fun h => by cases h⟩

theorem fnSeekDistance_holds : Rows.FnSeekDistanceSaid :=
  OpenClaim.holds_of_wide 7 Try.f7 rfl rfl rfl rfl rfl rfl rfl ⟨rfl, rfl, rfl, rfl, rfl⟩ rfl rfl rfl rfl rfl (by kernel_rfl) Try.func7 (by kernel_rfl)
    (of_decide_eq_true (by kernel_rfl)) (by unfold Func.isWrapper; first | (rw [if_pos (by decide +kernel)]; kernel_rfl) | (rw [if_neg (by decide +kernel)]; exact ⟨rfl, rfl⟩))
    (fun os started H enc _ => fnSeekDistance_lifted os started H enc)

end Go.Proofs.Ytfelfopcmkeimaa
