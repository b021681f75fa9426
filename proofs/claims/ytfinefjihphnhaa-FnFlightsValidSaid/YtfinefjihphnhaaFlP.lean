/-
  Flights: the law on valid lists. A part of a valid list is valid; with one of its commands twice it is not.
-/
import Derived.Test.YtfinefjihphnhaaFlI
import Derived.Test.YtfinefjihphnhaaFlH
import Derived.Test.YtfinefjihphnhaaSemX
namespace Go.Proofs.Ytfinefjihphnhaa
open Go.ChangeShapes Go.WideShapes Go.ChangeAt Go.RowKit Go.BigFrame Go.Deep

section
variable (ρ : Operand → Value) (dst : Option Tmp) (ty : TypeId) (pos : String) (after : Array Edge) (guard : Option (Nat × Bool)) (w : World)
theorem run_slf (x : Operand) {b o n c : Nat} (e : ρ x = .slice (some ⟨b, o, none⟩) n c) (e1 : ρ (.const (.int .i64 1)) = .int .i64 1) (h1 : 1 ≤ n) (hc : n ≤ c) (hcm : c ≤ maxLen) :
    (execOp ρ { dst := dst, op := .slice 25 x (some (.const (.int .i64 1))) none none, type := ty, pos := pos, after := after, guard := guard }).run Try.prog w = .ok (.value (.slice (if c = 1 then some ⟨b, o, none⟩ else some ⟨b, o + 3, none⟩) (n - 1) (c - 1))) w := by
  unfold maxLen at hcm
  have h1z : (1 : Int) ≤ (n : Int) := by omega
  have hcz : (n : Int) ≤ (c : Int) := by omega
  by_cases h : c = 1
  · subst h
    obtain rfl : n = 1 := by omega
    simp [execOp, e, e1, go_sem]
  · rw [if_neg h]
    simp [execOp, e, e1, go_sem, h1z, hcz, h]
theorem run_ixf0 (x : Operand) {b o n c : Nat} (ex : ρ x = .slice (some ⟨b, o, none⟩) n c) (e0 : ρ (.const (.int .i64 0)) = .int .i64 0) (h : 0 < n) :
    (execOp ρ { dst := dst, op := .indexAddr 25 x (.const (.int .i64 0)), type := ty, pos := pos, after := after, guard := guard }).run Try.prog w = .ok (.value (.pointer (some ⟨b, o, none⟩))) w := by
  have h' : (0 : Int) < (n : Int) := by omega
  simp [execOp, ex, e0, go_sem, h, h']
theorem run_ldf (x : Operand) {b o : Nat} {u v t : Value} (e : ρ x = .pointer (some ⟨b, o, none⟩)) (hc : w.cell? ⟨b, o, none⟩ = some u) (hc1 : w.cell? ⟨b, o + 1, none⟩ = some v) (hc2 : w.cell? ⟨b, o + 2, none⟩ = some t) :
    (execOp ρ { dst := dst, op := .load 35 x, type := ty, pos := pos, after := after, guard := guard }).run Try.prog w = .ok (.value (.agg #[u, v, t])) w := by
  simp [execOp, e, go_sem, hc, hc1, hc2]
theorem run_bsf0 : (execOp ρ { dst := dst, op := .buildSlice 25 0 #[], type := ty, pos := pos, after := after, guard := guard }).run Try.prog w = .ok (.value (.slice (some ⟨w.heap.size, 0, none⟩) 0 0)) (w.alloc (.cells #[] 35)) := by
  simp [execOp, go_sem]
theorem run_bsf (x : Operand) {u v t : Int} (e : ρ x = .agg #[.int .i64 u, .int .i64 v, .int .i64 t]) :
    (execOp ρ { dst := dst, op := .buildSlice 25 1 #[(0, x)], type := ty, pos := pos, after := after, guard := guard }).run Try.prog w = .ok (.value (.slice (some ⟨w.heap.size, 0, none⟩) 1 1)) (w.alloc (.cells #[.int .i64 u, .int .i64 v, .int .i64 t] 35)) := by
  simp [execOp, e, go_sem]
theorem run_fvc (x : Operand) (ats : Array TypeId) {a : Value} (hf : ρ (.func 17) = .func (.func 17) #[] #[]) (ex : ρ x = a) :
    (execOp ρ { dst := dst, op := .call { callee := .value (.func 17), args := #[x], argTypes := ats }, type := ty, pos := pos, after := after, guard := guard }).run Try.prog w = .ok (.enter 17 #[a]) w := by
  simp [execOp, resolve, hf, ex, go_sem]
end
theorem flC_drop_ (l : List Fl) (m : Nat) : (flC l).drop (m * 3) = flC (l.drop m) := by
  by_cases hm : m ≤ l.length
  · conv => lhs; rw [← List.take_append_drop m l, flC_append]
    rw [List.drop_left' (by rw [flC_length, List.length_take, Nat.min_eq_left hm])]
  · rw [List.drop_eq_nil_of_le (by rw [flC_length]; omega), List.drop_eq_nil_of_le (by omega)]; rfl
theorem rd_fl1 (w : World) (r : Fl) : Rd (w.alloc (.cells #[.int .i64 r.tag, .int .i64 r.since, .int .i64 r.tries] 35)) 3 (some ⟨w.heap.size, 0, none⟩) 1 (flC [r]) :=
  ⟨rfl, fun _ => ⟨_, _, rfl, fun j u hu => by
    have := news_alloc w [.int .i64 r.tag, .int .i64 r.since, .int .i64 r.tries] 35 j u hu
    rwa [add_mid] at this⟩⟩
def envFv (b o n c B : Nat) (x : Fl) (l : List Fl) : Nat → WX
  | 3 => .val (.slice (some ⟨b, o, none⟩) n c)
  | 24 => .val (.slice (some ⟨b, o, none⟩) n c)
  | 29 => .val (.slice (some ⟨b, o, none⟩) n c)
  | 31 => .val (.slice (some ⟨b, o, none⟩) n c)
  | 25 => .row 3 (n - 1) (flC (l.drop 1))
  | 26 => .val (.bool true)
  | 27 => .val (.bool true)
  | 28 => .emp
  | 30 => .own B 35 3 n (flC l)
  | 32 => .val (.pointer (some ⟨b, o, none⟩))
  | 33 => .val (.agg #[.int .i64 x.tag, .int .i64 x.since, .int .i64 x.tries])
  | 34 => .row 3 1 (flC [x])
  | _ => .val undef

set_option maxHeartbeats 1600000 in
theorem lawFv_walk (z : List Int) (A : Option Addr) (n c : Nat) (w : World) (hl : z.length = n) (hc : n ≤ c) (hcm : c ≤ maxLen) (_ : True) (hB : Bys w w.heap.size A n) :
    Calls Try.prog 5 #[.slice A n c] w fun e w' => e = .returned (.bool true) ∧ Below w.heap.size w w' := by
  clear hl
  have HB := hid_ hB; clear hB
  have HC := hid_ hcm
  have hm : n ≤ 9223372036854775807 := by unfold maxLen at hcm; omega
  clear hcm
  by_cases hbig : (1048576 : Int) < (n : Int)
  · go_enter Try.func5, Try.ntmps5
    go_wp2
    go_returns
    exact ⟨rfl, Below.refl _ _⟩
  have hn20 : n ≤ 1048576 := by omega
  go_enter Try.func5, Try.ntmps5
  go_wp2_with fail
  refine (drawFV_any A n c _ hn20 hc HC.out HB.out).mono ?_
  clear HB HC
  rintro e w1 ⟨l, Al, cl, rfl, hl, hcl, hcml, hdr, hol, BB⟩
  replace BB := hid_ BB
  have HRl := hid_ (own_rd hol); clear hol hdr
  have HCl := hid_ hcml; clear hcml
  go_wp2_with fail
  refine (implFV_any l Al l.length cl _ rfl (by omega) hcl HCl.out HRl.out).mono ?_
  rintro e w2 ⟨rfl, hb_w2⟩
  have hs_hb_w2 := hb_w2.size
  replace BB := hid_ (BB.out.trans (hb_w2.mono BB.out.size))
  replace HRl := hid_ (HRl.out.below hb_w2)
  clear hb_w2
  go_wp2_with fail
  refine (specFV_any l Al l.length cl _ rfl (by omega) HRl.out).mono ?_
  rintro e w3 ⟨rfl, hb_w3⟩
  have hs_hb_w3 := hb_w3.size
  replace BB := hid_ (BB.out.trans (hb_w3.mono BB.out.size))
  replace HRl := hid_ (HRl.out.below hb_w3)
  clear hb_w3
  cases hok : fv l
  · clear hok
    go_wp2_with fail
    go_wp2_with fail
    refine (alive_any _).mono ?_
    rintro e w5 ⟨rfl, hbal⟩
    replace BB := hid_ (BB.out.trans (hbal.mono BB.out.size))
    go_wp2
    go_returns
    exact ⟨rfl, BB.out⟩
  · by_cases h0 : l.length = 0
    · have hz : ((l.length : Int) == 0) = true := by simp [h0]
      rw [h0] at hz ⊢
      go_wp2_with fail
      go_wp2_with fail
      refine (alive_any _).mono ?_
      rintro e w5 ⟨rfl, hbal⟩
      replace BB := hid_ (BB.out.trans (hbal.mono BB.out.size))
      go_wp2
      go_returns
      exact ⟨rfl, BB.out⟩
    · have hpos : 0 < l.length := by omega
      have hz : ((l.length : Int) == 0) = false := by rw [beq_eq_false_iff_ne]; omega
      have P1 := hid_ (fv_drop hok 1)
      have P2 := hid_ (fv_again hpos)
      clear hok
      obtain ⟨x, hx⟩ : ∃ x, l[0] = x := ⟨_, rfl⟩
      rw [hx] at P2
      obtain ⟨b, o, rfl, r0, r1, r2⟩ := HRl.out.fl 0 hpos rfl
      rw [hx] at r0 r1 r2
      simp only [Nat.zero_mul, Nat.add_zero] at r0 r1 r2
      clear hx
      obtain ⟨n0, hn0⟩ : ∃ n0, l.length = n0 := ⟨_, rfl⟩
      rw [hn0] at HRl hl hcl hpos hz h0 ⊢
      have HN := hid_ hn0; clear hn0
      have HH := hid_ (And.intro r0 (And.intro r1 r2)); clear r0 r1 r2
      have hbw := BB.out.size
      go_wp2
      have hd : ∀ {w2 : World}, Below w3.drew.heap.size w3.drew w2 → Below w3.heap.size w3 w2 := fun hb => ((Below.refl _ _).drew).trans hb
      refine wp_region_semT (semX (envFv b o n0 cl w3.heap.size x l)) [3] 39 11 (by kernel_rfl) (by kernel_rfl) rfl ?_ trivial ?_ ?_
      · intro d hd
        have hd' : d = 3 := by simpa using hd
        subst hd'
        rfl
      · simp only [List.take_succ_cons, List.take_zero, HAll]
        refine ⟨hopx_move _ rfl (open_none rfl) (fun a w h => h 3 (by kernel_rfl)),
          hopx_run rfl (open_none rfl) rfl (fun a w h hb => ⟨_, _, run_slf a.eval _ _ _ _ _ w _ (h 24 (by kernel_rfl)) rfl hpos hcl HCl.out, ⟨_, _, rfl, by omega, by have := HCl.out; omega, by
            have := (HRl.out.below (hd hb)).drop (m := 1) (by omega) hcl
            rw [flC_drop_] at this
            simpa only [Option.map_some, add_mid, Nat.one_mul] using this⟩, Below.refl _ _⟩),
          hopx_call rfl (open_none rfl) rfl (fun a w h hb => by
            obtain ⟨A', c', e', h1, h2, h3⟩ : ∃ A c, a.eval (.tmp 25) = .slice A (n0 - 1) c ∧ n0 - 1 ≤ c ∧ c ≤ maxLen ∧ Rd w 3 A (n0 - 1) (flC (l.drop 1)) := h 25 (by kernel_rfl)
            exact ⟨_, _, run_fvc a.eval _ _ _ _ _ w _ _ rfl e', (implFV_any (l.drop 1) A' (n0 - 1) c' w (by rw [List.length_drop, HN.out]) (by omega) h1 h2 h3).mono fun e w' hh => ⟨_, hh.1, by rw [P1.out]; rfl, hh.2⟩⟩),
          hopx_move _ rfl (open_none rfl) (fun a w h => h 26 (by kernel_rfl)),
          hopx_run rfl (open_some rfl rfl (by kernel_rfl) rfl) rfl (fun a w h hb => ⟨_, _, run_bsf0 a.eval _ _ _ _ _ w, ⟨_, rfl⟩, (Below.refl _ _).alloc (Nat.le_refl _) _⟩),
          hopx_move _ rfl (open_some rfl rfl (by kernel_rfl) rfl) (fun a w h => h 3 (by kernel_rfl)),
          hopx_append0 rfl (open_some rfl rfl (by kernel_rfl) rfl) rfl (.tmp 28) (.tmp 29) 25 rfl 35 (.agg #[.int .i64 0, .int .i64 0, .int .i64 0]) 3 24 Try.underlying25 fl_info rfl (by decide) (by decide) n0 (flC l) hpos (by omega) w3.heap.size (Nat.le_refl _) rfl (fun a w h hb => ⟨h 28 (by kernel_rfl), _, _, h 29 (by kernel_rfl), HRl.out.below (hd hb)⟩),
          hopx_move _ rfl (open_some rfl rfl (by kernel_rfl) rfl) (fun a w h => h 3 (by kernel_rfl)),
          hopx_val _ rfl (open_some rfl rfl (by kernel_rfl) rfl) rfl rfl (fun a w h hb => run_ixf0 a.eval _ _ _ _ _ w _ (h 31 (by kernel_rfl)) rfl hpos),
          hopx_val _ rfl (open_some rfl rfl (by kernel_rfl) rfl) rfl rfl (fun a w h hb => run_ldf a.eval _ _ _ _ _ w _ (h 32 (by kernel_rfl)) (((hd hb).cell (cell_lt HH.out.1)).trans HH.out.1) (((hd hb).cell (cell_lt HH.out.2.1)).trans HH.out.2.1) (((hd hb).cell (cell_lt HH.out.2.2)).trans HH.out.2.2)),
          hopx_run rfl (open_some rfl rfl (by kernel_rfl) rfl) rfl (fun a w h hb => ⟨_, _, run_bsf a.eval _ _ _ _ _ w _ (h 33 (by kernel_rfl)), ⟨_, 1, rfl, Nat.le_refl _, by simp [maxLen], rd_fl1 w x⟩, (Below.refl _ _).alloc (Nat.le_refl _) _⟩), trivial⟩
      · intro a' w' haf
        have hex := haf.ex rfl [24, 25, 26, 27, 28, 29, 30, 31, 32, 33, 34] (by kernel_rfl)
        have hbw' : Below w3.heap.size w3 w' := hd (show Below w3.drew.heap.size w3.drew w' from haf.r)
        clear haf hd
        simp only [SemEx, Act.put, List.setIfInBounds_toArray, List.set_cons_succ, List.set_cons_zero] at hex
        obtain ⟨x24, -, x25, -, x26, -, x27, t27, x28, -, x29, -, x30, t30, x31, -, x32, -, x33, -, x34, t34, rfl⟩ := hex
        obtain rfl : x27 = .bool true := t27
        have HO30 := hid_ (show w'.ownsRow w3.heap.size 35 3 x30 n0 (flC l) from t30)
        obtain ⟨A34, c34, rfl, hc34, hcm34, hr34⟩ : ∃ A c, x34 = .slice A 1 c ∧ 1 ≤ c ∧ c ≤ maxLen ∧ Rd w' 3 A 1 (flC [x]) := t34
        have HR34 := hid_ hr34; clear hr34 t30
        have HC34 := hid_ hcm34; clear hcm34
        have BBw := hid_ (BB.out.trans (hbw'.mono BB.out.size))
        have hws := hbw'.size
        clear hbw'
        simp only [List.drop_succ_cons, List.drop_zero]
        go_wp2_with ((at_builtin; refine wpList_append_rdg _ rfl _ _ 25 rfl w3.heap.size 35 (.agg #[.int .i64 0, .int .i64 0, .int .i64 0]) 3 24 Try.underlying25 fl_info rfl (by decide) (by decide) _ _ _ HO30.out rfl _ _ _ _ HR34.out rfl (flC_one [x]) (by omega) hws ?_; intro v' w' ho' hg'); have HPO := hid_ ho'; have HPB := hid_ (BBw.out.grown hg' BBw.out.size (fun g e => by have := (HO30.out.lt g e).1; omega)); obtain ⟨AN, cN, rfl, hcN, hcmN⟩ := own_shape ho'; have HCN := hid_ hcmN; clear ho' hg' hcmN)
        have hn17 : n0 + 1 ≤ 4194304 := by omega
        refine (implFV_any (l ++ [x]) AN (n0 + 1) cN _ (by rw [List.length_append, HN.out]; rfl) hn17 hcN HCN.out (by rw [flC_append]; exact own_rd HPO.out)).mono ?_
        rw [P2.out]
        rintro e w5 ⟨rfl, hb5⟩
        go_wp2
        go_returns
        exact ⟨rfl, HPB.out.trans (hb5.mono HPB.out.size)⟩

set_option maxRecDepth 100000 in
theorem fnFlightsValid_lifted (os : Os) (started : os.Started) (H : Type) (enc : TypeId × Value → H) :
    ReturnsInHanded {} Try.checked os 5 .any (Rows.fnFlightsValidSpec.pre6 enc Try.prog Try.f5 Rows.fnFlightsValidRow.domain false) (Rows.fnFlightsValidSpec.post enc Try.prog Try.f5 false true false false) := by
  refine returnsInHanded_of_change (C := Try.checked) own_ started (by kernel_rfl) Try.func5
    (ChangeSpec.witness6 (enc := enc) (C := Try.checked) false ⟨#[], #[.slice none 0 0], []⟩ 8 (by kernel_rfl) (by kernel_rfl) (by kernel_rfl) (by kernel_rfl)) ?_
  intro W base args ds gs before hval0 hW hcnd _
  have hval : ∀ (j : Nat) t v, Try.f5.params[j]? = some t → args[j]? = some v → Value.okWide Try.prog W .any base t v := hval0
  have hW' := hW
  obtain ⟨p, q, hA0, hV, rfl, hfz, hnd⟩ := hW
  have hA : DataW.TrodAll enc Try.prog W 0 (fun _ => true) true Try.f5.params.toList args.toList ds p := hA0
  rw [Try.params5] at hA hval
  obtain ⟨v0, vs0, d0, ds0, p0, q0, hargs, rfl, rfl, h0, r0⟩ := trodAll_cons hA
  obtain ⟨rfl, rfl, rfl⟩ := trodAll_nil r0
  obtain rfl : args = #[v0] := by cases args; simp_all
  obtain ⟨rfl, rfl⟩ := trodVars_none hV
  obtain ⟨a0, len0, cap0, rfl⟩ := okWide_slice Try.underlying31 (hval 0 31 v0 rfl rfl)
  have k0 := h0
  have lt0 : ∀ x ∈ p0, x.block < W.heap.size := by obtain ⟨m, hm⟩ := k0; exact DataW.trod_lt m _ _ _ hm
  obtain ⟨z0, e0, lc0, cm0, w0, rd0⟩ := open_bytes h0
  clear hA0 hval0
  refine (lawFv_walk z0 a0 len0 cap0 W e0 lc0 cm0 w0 rd0).mono fun e W' ⟨he, bel⟩ => ?_
  subst he
  exact ⟨_, rfl, _, _, _, [], _, [], hW', trodAll_mk1 (shut_bool Try.underlying4 _), (trodAll_cons_mk (Below.trod laidOut_ (by kernel_rfl) (of_decide_eq_true (by kernel_rfl)) k0 bel lt0) trodAll_mk0), rfl, bel.frame _, fun h => by cases h⟩

theorem fnFlightsValid_holds : Rows.FnFlightsValidSaid :=
  OpenClaim.holds_of_wide 5 Try.f5 rfl rfl rfl rfl rfl rfl rfl ⟨rfl, rfl, rfl, rfl, rfl⟩ rfl rfl rfl rfl rfl (by kernel_rfl) Try.func5 (by kernel_rfl)
    (of_decide_eq_true (by kernel_rfl)) (by unfold Func.isWrapper; first | (rw [if_pos (by decide +kernel)]; kernel_rfl) | (rw [if_neg (by decide +kernel)]; exact ⟨rfl, rfl⟩))
    (fun os started H enc _ => fnFlightsValid_lifted os started H enc)

end Go.Proofs.Ytfinefjihphnhaa
