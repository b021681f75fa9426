/-
  Caches: the law on valid caches. A valid cache without its first line is valid; with a line twice it is not.
-/
import Derived.Test.YtejnieoneknbbaaCaN
import Derived.Test.YtejnieoneknbbaaOpenB
import Derived.Test.YtejnieoneknbbaaSemK
import Derived.Test.YtejnieoneknbbaaSemY
import Derived.ArgAppend
namespace Go.Proofs.Ytejnieoneknbbaa
open Go.ChangeShapes Go.WideShapes Go.ChangeAt Go.RowKit Go.BigFrame Go.Deep

inductive WK
  | val (u : Value)
  | emp
  | own (n : Nat) (xs : List Value)
  | str (n : Nat) (xs : List Value)
  | box
def WK.P (B : Nat) (t : WK) (v : Value) (w : World) : Prop :=
  match t with
  | .val u => v = u
  | .emp => ∃ ad, v = .slice (some ad) 0 0
  | .own n xs => w.ownsRow B 38 3 v n xs
  | .str n xs => ∃ v2, v = .agg #[v2, .int .i64 8] ∧ w.ownsRow B 38 3 v2 n xs
  | .box => ∃ b, v = .pointer (some ⟨b, 0, none⟩) ∧ B ≤ b ∧ IsBox w b
theorem WK.stay {B : Nat} {t : WK} {v : Value} {w w' : World} (h : WK.P B t v w) (hb : Below w.heap.size w w') : WK.P B t v w' := by
  cases t with
  | val u => exact h
  | emp => exact h
  | own n xs => exact own_below h hb
  | str n xs => obtain ⟨v2, e, ho⟩ := h; exact ⟨v2, e, own_below ho hb⟩
  | box =>
    obtain ⟨b, e, hB, A, n, c, k, hX⟩ := h
    exact ⟨b, e, hB, A, n, c, k, hX.block (hb.block b hX.lt)⟩
def semKI (B : Nat) (env : Nat → WK) : SemK where
  T d v w := WK.P B (env d) v w
  R := Below B
  refl := Below.refl B
  trans h k := h.trans k

section
variable {B : Nat} {env : Nat → WK} {ops : Array Oper} {par : List Nat} {kills : List (Nat × Nat)} {W0 : World} {Q : Exit → Act → World → Prop} {k d : Nat} {ty : TypeId} {pos : String} {after : Array Edge}

theorem hopk_go {o : Oper} (hk : ops[k]? = some o) (hg : o.guard = none)
    (h : ∀ (a : Act) (w : World), (∀ e, semAv ops par o e = true → WK.P B (env e) (a.eval (.tmp e)) w) → Below B W0 w → Oper.wp Try.prog o a w (SemNextK (semKI B env) kills k o a w) Q) : SemOpK (semKI B env) Try.prog ops par kills W0 Q k o := by
  intro a w hav hR
  unfold wpOp
  rw [hk]
  simp only [Region.wanted, hg, if_true]
  exact .inl (h a w hav hR)
theorem hopk_run {o : Oper} (hB : B ≤ W0.heap.size) (hk : ops[k]? = some o) (hg : o.guard = none) (hd : o.dst = some d)
    (h : ∀ (a : Act) (w : World), (∀ e, semAv ops par o e = true → WK.P B (env e) (a.eval (.tmp e)) w) → Below B W0 w → B ≤ w.heap.size → ∃ v w', (execOp a.eval o).run Try.prog w = .ok (.value v) w' ∧ WK.P B (env d) v w' ∧ Below w.heap.size w w') : SemOpK (semKI B env) Try.prog ops par kills W0 Q k o := by
  refine hopk_go hk hg fun a w hav hR => ?_
  have hBw : B ≤ w.heap.size := Nat.le_trans hB hR.size
  obtain ⟨v, w', hv, hT, hb⟩ := h a w hav hR hBw
  unfold Oper.wp
  rw [hv]
  exact ⟨v, rfl, fun e he => by rw [hd] at he; injection he with he; subst he; exact hT, fun e u _ _ hu => WK.stay hu hb, hb.mono hBw⟩
theorem hopk_val {o : Oper} (hB : B ≤ W0.heap.size) (hk : ops[k]? = some o) (hg : o.guard = none) (hd : o.dst = some d)
    (h : ∀ (a : Act) (w : World), (∀ e, semAv ops par o e = true → WK.P B (env e) (a.eval (.tmp e)) w) → Below B W0 w → ∃ v, (execOp a.eval o).run Try.prog w = .ok (.value v) w ∧ WK.P B (env d) v w) : SemOpK (semKI B env) Try.prog ops par kills W0 Q k o :=
  hopk_run hB hk hg hd fun a w hav hR _ => by obtain ⟨v, h1, h2⟩ := h a w hav hR; exact ⟨v, w, h1, h2, Below.refl _ _⟩
theorem hopk_alloc (hB : B ≤ W0.heap.size) (hk : ops[k]? = some { dst := some d, op := .alloc 29, type := ty, pos := pos, after := after, guard := none }) (he : env d = .box) :
    SemOpK (semKI B env) Try.prog ops par kills W0 Q k { dst := some d, op := .alloc 29, type := ty, pos := pos, after := after, guard := none } :=
  hopk_run hB hk rfl rfl fun a w _ _ hBw => ⟨_, _, run_newbox a.eval w, by rw [he]; exact ⟨w.heap.size, rfl, hBw, _, _, _, _, BoxC.new w (.slice none 0 0) 0⟩, (Below.refl _ _).alloc (Nat.le_refl _) _⟩
/-- append to an empty list that has no room -/
theorem hopk_append0 {o : Oper} (hB : B ≤ W0.heap.size) (hk : ops[k]? = some o) (hg : o.guard = none) (hd : o.dst = some d)
    (s x : Operand) (ho : o.op = .call { callee := .builtin .append, args := #[s, x], argTypes := #[27, 27] })
    (m : Nat) (news : List Value) (hm : 0 < m) (hm2 : m ≤ 1048576) (he : env d = .own m news)
    (hx : ∀ (a : Act) (w : World), (∀ e, semAv ops par o e = true → WK.P B (env e) (a.eval (.tmp e)) w) → Below B W0 w → WK.P B .emp (a.eval s) w ∧ ∃ A c, a.eval x = .slice A m c ∧ Rd w 3 A m news) : SemOpK (semKI B env) Try.prog ops par kills W0 Q k o := by
  refine hopk_go hk hg fun a w hav hR => ?_
  have hBw : B ≤ w.heap.size := Nat.le_trans hB hR.size
  obtain ⟨⟨ad, hs⟩, A, c, hxx, hr⟩ := hx a w hav hR
  obtain ⟨b, o', rfl, hc⟩ := hr.2 hm
  obtain ⟨i, hi, hz, hz1, hz2⟩ := info_parts ln_info
  obtain ⟨v', w', hrun, r1, r2⟩ := run_append_arg_grows (P := Try.prog) w 27 o.type 38 i (.agg #[.int .i64 0, .int .i64 0, .bool false]) 3 24 Try.underlying27 hi hz hz1 hz2 rfl (by decide) ad 0 0 [] (by simp) (fun j u hj => by simp at hj) ⟨b, o', none⟩ m c news hr.1 (fun j u hj => by rw [add_mid]; exact hc j u hj) (by omega) (by simp only [maxLen]; omega) (by omega)
  have hb := below_of_gb r2 (Nat.le_refl w.heap.size) (fun k h => by cases h)
  unfold Oper.wp execOp
  simp only [ho, resolve, invoke, builtin, Sem.run_bind, Sem.run_pure, Result.andThen_ok, List.map_toArray, List.map_cons, List.map_nil, hs, hxx, hrun]
  refine ⟨v', rfl, fun e2 he2 => ?_, fun e u _ _ hu => WK.stay hu hb, hb.mono hBw⟩
  rw [hd] at he2
  injection he2 with he2
  subst he2
  show WK.P B (env d) v' w'
  rw [he]
  exact own_eq (own_base r1 hBw) (Nat.zero_add _) (List.nil_append _)
/-- append to a row of the region's own: what the row and the new elements told ends -/
theorem hopk_append1 {o : Oper} (hB : B ≤ W0.heap.size) (hk : ops[k]? = some o) (hg : o.guard = none) (hd : o.dst = some d)
    (s x : Operand) (ho : o.op = .call { callee := .builtin .append, args := #[s, x], argTypes := #[27, 27] })
    (n m : Nat) (L L' : List Ln) (hn : n + m ≤ 1048576) (he : env d = .own (n + m) (lnC L ++ lnC L'))
    (hst : ∀ e, kills.contains (k, e) = false → e ≠ d → (∃ u, env e = .val u) ∨ env e = .emp ∨ env e = .box) (h1 : ∀ u ∈ lnC L', u.oneCell' = true)
    (hx : ∀ (a : Act) (w : World), (∀ e, semAv ops par o e = true → WK.P B (env e) (a.eval (.tmp e)) w) → w.ownsRow B 38 3 (a.eval s) n (lnC L) ∧ w.ownsRow B 38 3 (a.eval x) m (lnC L')) : SemOpK (semKI B env) Try.prog ops par kills W0 Q k o := by
  refine hopk_go hk hg fun a w hav hR => ?_
  have hBw : B ≤ w.heap.size := Nat.le_trans hB hR.size
  obtain ⟨o1, o2⟩ := hx a w hav
  obtain ⟨A2, c2, e2, _, _⟩ := own_shape o2
  rw [e2] at o2
  refine wp_append_rd w s x 27 ho B 38 (.agg #[.int .i64 0, .int .i64 0, .bool false]) 3 24 Try.underlying27 ln_info rfl (by decide) (by decide) _ n (lnC L) o1 rfl A2 m c2 (lnC L') (own_rd o2) e2 h1 (by omega) hBw fun v' w' hov hgr => ?_
  refine ⟨v', rfl, fun e2 he2 => ?_, fun e u hke hde hu => ?_, below_of_gb hgr hBw (fun q hq => (o1.lt q hq).1)⟩
  · rw [hd] at he2
    injection he2 with he2
    subst he2
    show WK.P B (env d) v' w'
    rw [he]
    exact hov
  · have hT : WK.P B (env e) u w := hu
    show WK.P B (env e) u w'
    rcases hst e hke (fun q => hde (by rw [hd, q])) with ⟨u', q⟩ | q | q
    · rw [q] at hT ⊢; exact hT
    · rw [q] at hT ⊢; exact hT
    · rw [q] at hT ⊢
      obtain ⟨b, e3, hb, A, n', c, kk, hX⟩ := hT
      exact ⟨b, e3, hb, A, n', c, kk, hX.block (hgr.block b hX.lt (fun q => hX.ne o1 (by decide) q.symm))⟩
theorem wpOp_store {A A0 : Option Addr} {n c n0 c0 β : Nat} {m m0 : Int} {a : Act} {w : World} {K : Act → World → Prop} (x y : Operand) (hk : ops[k]? = some { dst := none, op := .store 29 x y, type := ty, pos := pos, after := after, guard := none })
    (e1 : a.eval x = .pointer (some ⟨β, 0, none⟩)) (e2 : a.eval y = .agg #[.slice A n c, .int .i64 m]) (hX : OutBox w β (.slice A0 n0 c0) m0) (h : K a ((w.setCell ⟨β, 0, none⟩ (.slice A n c)).setCell ⟨β, 1, none⟩ (.int .i64 m))) : wpOp Try.prog ops Q k K a w := by
  unfold wpOp
  rw [hk]
  simp only [Region.wanted, if_true]
  refine .inl ?_
  unfold Oper.wp
  rw [run_st2 a.eval w x y e1 e2 hX]
  exact h
end

section
variable (ρ : Operand → Value) (dst : Option Tmp) (ty : TypeId) (pos : String) (after : Array Edge) (guard : Option (Nat × Bool)) (w : World)
theorem run_fa1 (x : Operand) {b : Nat} (e : ρ x = .pointer (some ⟨b, 0, none⟩)) :
    (execOp ρ { dst := dst, op := .fieldAddr 29 x 1, type := ty, pos := pos, after := after, guard := guard }).run Try.prog w = .ok (.value (.pointer (some ⟨b, 1, none⟩))) w := by
  simp [execOp, e, go_sem]
theorem run_ldi (x : Operand) {b o : Nat} {m : Int} (e : ρ x = .pointer (some ⟨b, o, none⟩)) (hc : w.cell? ⟨b, o, none⟩ = some (.int .i64 m)) :
    (execOp ρ { dst := dst, op := .load 3 x, type := ty, pos := pos, after := after, guard := guard }).run Try.prog w = .ok (.value (.int .i64 m)) w := by
  simp [execOp, e, go_sem, hc]
theorem run_sl1 (x : Operand) {b o n c : Nat} (e : ρ x = .slice (some ⟨b, o, none⟩) n c) (e1 : ρ (.const (.int .i64 1)) = .int .i64 1) (h1 : 1 ≤ n) (hc : n ≤ c) (hcm : c ≤ maxLen) :
    (execOp ρ { dst := dst, op := .slice 27 x (some (.const (.int .i64 1))) none none, type := ty, pos := pos, after := after, guard := guard }).run Try.prog w = .ok (.value (.slice (if c = 1 then some ⟨b, o, none⟩ else some ⟨b, o + 3, none⟩) (n - 1) (c - 1))) w := by
  unfold maxLen at hcm
  have h1z : (1 : Int) ≤ (n : Int) := by omega
  by_cases h : c = 1
  · subst h
    obtain rfl : n = 1 := by omega
    simp [execOp, e, e1, go_sem]
  · rw [if_neg h]
    simp [execOp, e, e1, go_sem, h1z, h]
theorem run_bld (x y : Operand) {A : Option Addr} {n c : Nat} {k : Int} (e : ρ x = .slice A n c) (e1 : ρ y = .int .i64 k) :
    (execOp ρ { dst := dst, op := .build 29 #[(0, x), (1, y)], type := ty, pos := pos, after := after, guard := guard }).run Try.prog w = .ok (.value (.agg #[.slice A n c, .int .i64 k])) w := by
  simp [execOp, e, e1, go_sem]
theorem run_ixl0 (x : Operand) {b o n c : Nat} (ex : ρ x = .slice (some ⟨b, o, none⟩) n c) (e0 : ρ (.const (.int .i64 0)) = .int .i64 0) (h : 0 < n) :
    (execOp ρ { dst := dst, op := .indexAddr 27 x (.const (.int .i64 0)), type := ty, pos := pos, after := after, guard := guard }).run Try.prog w = .ok (.value (.pointer (some ⟨b, o, none⟩))) w := by
  simp [execOp, ex, e0, go_sem, h]
theorem run_bsl0 : (execOp ρ { dst := dst, op := .buildSlice 27 0 #[], type := ty, pos := pos, after := after, guard := guard }).run Try.prog w = .ok (.value (.slice (some ⟨w.heap.size, 0, none⟩) 0 0)) (w.alloc (.cells #[] 38)) := by
  simp [execOp, go_sem]
end
theorem own_ln1 (w : World) (x : Ln) (B : Nat) (hB : B ≤ w.heap.size) : (w.alloc (.cells #[.int .i64 x.at_, .int .i64 x.value, .bool x.dirty] 38)).ownsRow B 38 3 (.slice (some ⟨w.heap.size, 0, none⟩) 1 1) 1 (lnC [x]) :=
  ⟨rfl, .inr ⟨w.heap.size, 1, _, rfl, hB, heap_alloc_new w _, Nat.le_refl _, by simp [maxLen], rfl, rfl⟩⟩
theorem lnC_drop_ (l : List Ln) (m : Nat) : (lnC l).drop (m * 3) = lnC (l.drop m) := by
  by_cases hm : m ≤ l.length
  · conv => lhs; rw [← List.take_append_drop m l, lnC_append]
    rw [List.drop_left' (by rw [lnC_length, List.length_take, Nat.min_eq_left hm])]
  · rw [List.drop_eq_nil_of_le (by rw [lnC_length]; omega), List.drop_eq_nil_of_le (by omega)]; rfl
def envVa (bx : Nat) (vs vt : Value) (m : Int) : Nat → WK
  | 3 => .val (.pointer (some ⟨bx, 0, none⟩))
  | 33 => .val (.pointer (some ⟨bx, 0, none⟩))
  | 34 => .val vs
  | 35 => .val vt
  | 36 => .val (.pointer (some ⟨bx, 1, none⟩))
  | 37 => .val (.int .i64 m)
  | 38 => .val (.agg #[vt, .int .i64 m])
  | 6 => .box
  | _ => .val undef
def envVb (bx b o n : Nat) (vs : Value) (x : Ln) (L : List Ln) : Nat → WK
  | 3 => .val (.pointer (some ⟨bx, 0, none⟩))
  | 39 => .emp
  | 40 => .val (.pointer (some ⟨bx, 0, none⟩))
  | 41 => .val vs
  | 42 => .own n (lnC L)
  | 43 => .val (.pointer (some ⟨bx, 0, none⟩))
  | 44 => .val vs
  | 45 => .val (.pointer (some ⟨b, o, none⟩))
  | 46 => .val (.agg #[.int .i64 x.at_, .int .i64 x.value, .bool x.dirty])
  | 47 => .own 1 (lnC [x])
  | 48 => .own (n + 1) (lnC L ++ lnC [x])
  | 49 => .str (n + 1) (lnC L ++ lnC [x])
  | 7 => .box
  | _ => .val undef
theorem envVb_rest (bx b o n : Nat) (vs : Value) (x : Ln) (L : List Ln) (e : Nat) (h : [(9, 42), (9, 47), (9, 49)].contains (9, e) = false) (hd : e ≠ 48) : (∃ u, envVb bx b o n vs x L e = .val u) ∨ envVb bx b o n vs x L e = .emp ∨ envVb bx b o n vs x L e = .box := by
  unfold envVb
  split <;> first | exact .inl ⟨_, rfl⟩ | exact .inr (.inl rfl) | exact .inr (.inr rfl) | (exfalso; exact absurd rfl hd) | (exfalso; revert h; decide)

set_option maxRecDepth 100000 in
set_option maxHeartbeats 1600000 in
theorem lawCaValid_walk (z : List Int) (A : Option Addr) (n c : Nat) (w : World) (_hl : z.length = n) (hc : n ≤ c) (hcm : c ≤ maxLen) (_ : True) (hB : Bys w w.heap.size A n) :
    Calls Try.prog 4 #[.slice A n c] w fun e w' => e = .returned (.bool true) ∧ Below w.heap.size w w' := by
  clear _hl
  have HB := hid_ hB; clear hB
  have HC := hid_ hcm
  have hm : n ≤ 9223372036854775807 := by unfold maxLen at hcm; omega
  clear hcm
  by_cases hbig : (1048576 : Int) < (n : Int)
  · go_enter Try.func4, Try.ntmps4
    go_wp2
    go_returns
    exact ⟨rfl, Below.refl _ _⟩
  have hn20 : n ≤ 1048576 := by omega
  go_enter Try.func4, Try.ntmps4
  go_wp2_with fail
  refine (drawCV_any A n c _ hn20 hc HC.out HB.out).mono ?_
  clear HB HC
  rintro e w1 ⟨L, A, c, m, size, rfl, hL, hc, hcm, hs0, hs1, hol, hb1⟩
  have BB := hid_ hb1; clear hb1
  have HRl := hid_ (own_rd hol); clear hol
  have HCl := hid_ hcm; clear hcm
  obtain ⟨n1, hn1⟩ : ∃ n1, L.length = n1 := ⟨_, rfl⟩
  rw [hn1] at hL hc HRl ⊢
  have HN1 := hid_ hn1; clear hn1
  obtain ⟨W0, hW0⟩ : ∃ W, World.alloc w1 (.cells #[.slice A n1 c, .int .i64 m] 29) = W := ⟨_, rfl⟩
  have hbW0 : Below (World.heap w1).size w1 W0 := by rw [← hW0]; exact (Below.refl _ _).alloc (Nat.le_refl _) _
  have HX0 := hid_ (show OutBox W0 (World.heap w1).size (.slice A n1 c) (m) by rw [← hW0]; exact BoxC.new _ _ _)
  have c00 := HX0.out.c0
  have c01 := HX0.out.c1
  have hs_hbW0 := hbW0.size
  replace BB := hid_ (BB.out.trans (hbW0.mono BB.out.size))
  replace HRl := hid_ (HRl.out.below hbW0)
  clear hbW0
  go_wp2_with fail
  clear hW0
  refine (implCV_any L A n1 c m size _ HN1.out (by omega) hc HCl.out HRl.out).mono ?_
  obtain ⟨bb, hbb⟩ : ∃ bb, cvB L m size = bb := ⟨_, rfl⟩
  rw [hbb]
  have HBB := hid_ hbb; clear hbb
  rintro e w2 ⟨rfl, hb2⟩
  have hs_hb2 := hb2.size
  replace BB := hid_ (BB.out.trans (hb2.mono BB.out.size))
  replace HRl := hid_ (HRl.out.below hb2)
  replace HX0 := hid_ (HX0.out.block (hb2.block _ HX0.out.lt))
  replace c00 := HX0.out.c0
  replace c01 := HX0.out.c1
  clear hb2
  go_wp2_with fail
  refine (specCV_any L A n1 c m size _ HN1.out (by omega) HRl.out).mono ?_
  rw [HBB.out]
  rintro e w3 ⟨rfl, hb3⟩
  have hs_hb3 := hb3.size
  replace BB := hid_ (BB.out.trans (hb3.mono BB.out.size))
  replace HRl := hid_ (HRl.out.below hb3)
  replace HX0 := hid_ (HX0.out.block (hb3.block _ HX0.out.lt))
  replace c00 := HX0.out.c0
  replace c01 := HX0.out.c1
  clear hb3
  cases bb
  · go_wp2_with fail
    go_wp2_with fail
    refine (alive_any _).mono ?_
    rintro e w5 ⟨rfl, hbal⟩
    replace BB := hid_ (BB.out.trans (hbal.mono BB.out.size))
    go_wp2
    go_returns
    exact ⟨rfl, BB.out⟩
  by_cases h0 : n1 = 0
  · subst h0
    go_wp2_with fail
    go_wp2_with fail
    refine (alive_any _).mono ?_
    rintro e w5 ⟨rfl, hbal⟩
    replace BB := hid_ (BB.out.trans (hbal.mono BB.out.size))
    go_wp2
    go_returns
    exact ⟨rfl, BB.out⟩
  have hz : ((n1 : Int) == 0) = false := by rw [beq_eq_false_iff_ne]; omega
  have hpos : 0 < n1 := by omega
  have hl0 : 0 < L.length := by rw [HN1.out]; exact hpos
  obtain ⟨x, r, hxr⟩ : ∃ x r, L = x :: r := by
    cases L with
    | nil => simp at hl0
    | cons x r => exact ⟨x, r, rfl⟩
  have P1 := hid_ (show cvB (L.drop 1) m size = true by have := HBB.out; rw [hxr] at this ⊢; exact valid_less this)
  have P2 := hid_ (show cvB (L ++ [x]) 8 size = false by rw [hxr]; exact valid_twice x r 8 size)
  obtain ⟨b, o, rfl, r0, r1, r2⟩ := HRl.out.ln_at 0 hpos HN1.out x (by simp [hxr])
  simp only [Nat.zero_mul, Nat.add_zero] at r0 r1 r2
  have HXR := hid_ hxr; clear hxr
  have HH := hid_ (And.intro r0 (And.intro r1 r2)); clear r0 r1 r2 hl0
  obtain ⟨A35, hA35⟩ : ∃ A', (if c = 1 then some (⟨b, o, none⟩ : Addr) else some ⟨b, o + 3, none⟩) = A' := ⟨_, rfl⟩
  have HR35 := hid_ (show Rd w3 3 A35 (n1 - 1) (lnC (L.drop 1)) by
    have := HRl.out.drop (m := 1) (by omega) hc
    rw [lnC_drop_] at this
    rw [← hA35]
    simpa only [Option.map_some, add_mid, Nat.one_mul] using this)
  have HA35 := hid_ hA35; clear hA35
  go_wp2
  refine wp_region_semK (semKI w3.heap.size (envVa w1.heap.size (.slice (some ⟨b, o, none⟩) n1 c) (.slice A35 (n1 - 1) (c - 1)) m)) [3] 59 [] (by kernel_rfl) (by decide) (by kernel_rfl) rfl ?_ ?_ ?_
  · intro d hd
    have hd' : d = 3 := by simpa using hd
    subst hd'; rfl
  · simp only [List.size_toArray, List.length_cons, List.length_nil, Nat.reduceAdd, Nat.reduceSub, List.take_succ_cons, List.take_zero]
    have hd5 : ∀ {w' : World}, Below w3.heap.size w3.drew w' → Below w3.heap.size w3 w' := fun h => ((Below.refl _ w3).drew).trans h
    have hBx : ∀ {w' : World}, Below w3.heap.size w3.drew w' → OutBox w' w1.heap.size (.slice (some ⟨b, o, none⟩) n1 c) m := fun h => HX0.out.block ((hd5 h).block _ HX0.out.lt)
    exact ⟨hopk_val (Nat.le_refl _) rfl rfl rfl (fun a w' h hR => ⟨_, run_fa0 a.eval _ _ _ _ _ w' _ (h 3 (by kernel_rfl)), rfl⟩),
      hopk_val (Nat.le_refl _) rfl rfl rfl (fun a w' h hR => ⟨_, run_ldl a.eval _ _ _ _ _ w' _ (h 33 (by kernel_rfl)) (hBx hR).c0, rfl⟩),
      hopk_val (Nat.le_refl _) rfl rfl rfl (fun a w' h hR => ⟨_, run_sl1 a.eval _ _ _ _ _ w' _ (h 34 (by kernel_rfl)) rfl (by omega) hc HCl.out, by rw [HA35.out]; rfl⟩),
      hopk_val (Nat.le_refl _) rfl rfl rfl (fun a w' h hR => ⟨_, run_fa1 a.eval _ _ _ _ _ w' _ (h 3 (by kernel_rfl)), rfl⟩),
      hopk_val (Nat.le_refl _) rfl rfl rfl (fun a w' h hR => ⟨_, run_ldi a.eval _ _ _ _ _ w' _ (h 36 (by kernel_rfl)) (hBx hR).c1, rfl⟩),
      hopk_val (Nat.le_refl _) rfl rfl rfl (fun a w' h hR => ⟨_, run_bld a.eval _ _ _ _ _ w' _ _ (h 35 (by kernel_rfl)) (h 37 (by kernel_rfl)), rfl⟩),
      hopk_alloc (Nat.le_refl _) rfl rfl, trivial⟩
  · intro a' w4 haf
    have hex := haf.ex rfl [33, 34, 35, 36, 37, 38, 6] (by kernel_rfl)
    have hb4 : Below w3.heap.size w3 w4 := ((Below.refl _ w3).drew).trans haf.r
    clear haf
    simp only [SlEx, Act.put, List.setIfInBounds_toArray, List.set_cons_succ, List.set_cons_zero] at hex
    obtain ⟨x33, -, x34, -, x35, -, x36, -, x37, -, x38, t38, x6, t6, rfl⟩ := hex
    obtain rfl : x38 = .agg #[.slice A35 (n1 - 1) (c - 1), .int .i64 m] := t38 (by kernel_rfl)
    obtain ⟨b6, rfl, hB6, A6, n6, c6, k6, hX6⟩ : WK.P w3.heap.size .box x6 w4 := t6 (by kernel_rfl)
    clear t38 t6
    refine wpOp_store (.tmp 6) (.tmp 38) rfl rfl rfl hX6 ?_
    obtain ⟨W5, hW5⟩ : ∃ W, (w4.setCell ⟨b6, 0, none⟩ (.slice A35 (n1 - 1) (c - 1))).setCell ⟨b6, 1, none⟩ (.int .i64 m) = W := ⟨_, rfl⟩
    have HX6 := hid_ (show OutBox W5 b6 (.slice A35 (n1 - 1) (c - 1)) m by rw [← hW5]; exact hX6.store)
    have hb5 : Below w3.heap.size w3 W5 := by rw [← hW5]; exact (hb4.setCell (p := ⟨b6, 0, none⟩) hB6 _).setCell (p := ⟨b6, 1, none⟩) hB6 _
    rw [hW5]
    clear hW5 hX6 hb4
    have c60 := HX6.out.c0
    have c61 := HX6.out.c1
    replace HH := hid_ (show _ ∧ _ ∧ _ from ⟨(hb5.cell (cell_lt HH.out.1)).trans HH.out.1, (hb5.cell (cell_lt HH.out.2.1)).trans HH.out.2.1, (hb5.cell (cell_lt HH.out.2.2)).trans HH.out.2.2⟩)
    have hs_hb5 := hb5.size
    replace BB := hid_ (BB.out.trans (hb5.mono BB.out.size))
    replace HRl := hid_ (HRl.out.below hb5)
    replace HR35 := hid_ (HR35.out.below hb5)
    replace HX0 := hid_ (HX0.out.block (hb5.block _ HX0.out.lt))
    replace c00 := HX0.out.c0
    replace c01 := HX0.out.c1
    clear hb5
    go_wp2
    refine wp_region_semK (semKI W5.heap.size (envVb w1.heap.size b o n1 (.slice (some ⟨b, o, none⟩) n1 c) x L)) [3] 59 [(9, 42), (9, 47), (9, 49)] (by kernel_rfl) (by decide) (by kernel_rfl) rfl ?_ ?_ ?_
    · intro d hd
      have hd' : d = 3 := by simpa using hd
      subst hd'; rfl
    · simp only [List.size_toArray, List.length_cons, List.length_nil, Nat.reduceAdd, Nat.reduceSub, List.take_succ_cons, List.take_zero]
      have hd5 : ∀ {w' : World}, Below W5.heap.size W5.drew w' → Below W5.heap.size W5 w' := fun h => ((Below.refl _ W5).drew).trans h
      have hBx : ∀ {w' : World}, Below W5.heap.size W5.drew w' → OutBox w' w1.heap.size (.slice (some ⟨b, o, none⟩) n1 c) m := fun h => HX0.out.block ((hd5 h).block _ HX0.out.lt)
      exact ⟨hopk_run (Nat.le_refl _) rfl rfl rfl (fun a w' h hR _ => ⟨_, _, run_bsl0 a.eval _ _ _ _ _ w', ⟨_, rfl⟩, (Below.refl _ _).alloc (Nat.le_refl _) _⟩),
        hopk_val (Nat.le_refl _) rfl rfl rfl (fun a w' h hR => ⟨_, run_fa0 a.eval _ _ _ _ _ w' _ (h 3 (by kernel_rfl)), rfl⟩),
        hopk_val (Nat.le_refl _) rfl rfl rfl (fun a w' h hR => ⟨_, run_ldl a.eval _ _ _ _ _ w' _ (h 40 (by kernel_rfl)) (hBx hR).c0, rfl⟩),
        hopk_append0 (Nat.le_refl _) rfl rfl rfl (.tmp 39) (.tmp 41) rfl n1 (lnC L) hpos (by omega) rfl (fun a w' h hR => ⟨h 39 (by kernel_rfl), _, _, h 41 (by kernel_rfl), HRl.out.below (hd5 hR)⟩),
        hopk_val (Nat.le_refl _) rfl rfl rfl (fun a w' h hR => ⟨_, run_fa0 a.eval _ _ _ _ _ w' _ (h 3 (by kernel_rfl)), rfl⟩),
        hopk_val (Nat.le_refl _) rfl rfl rfl (fun a w' h hR => ⟨_, run_ldl a.eval _ _ _ _ _ w' _ (h 43 (by kernel_rfl)) (hBx hR).c0, rfl⟩),
        hopk_val (Nat.le_refl _) rfl rfl rfl (fun a w' h hR => ⟨_, run_ixl0 a.eval _ _ _ _ _ w' _ (h 44 (by kernel_rfl)) rfl hpos, rfl⟩),
        hopk_val (Nat.le_refl _) rfl rfl rfl (fun a w' h hR => ⟨_, run_ld3 a.eval _ _ _ _ _ w' _ (h 45 (by kernel_rfl)) (((hd5 hR).cell (cell_lt HH.out.1)).trans HH.out.1) (((hd5 hR).cell (cell_lt HH.out.2.1)).trans HH.out.2.1) (((hd5 hR).cell (cell_lt HH.out.2.2)).trans HH.out.2.2), rfl⟩),
        hopk_run (Nat.le_refl _) rfl rfl rfl (fun a w' h hR hB => ⟨_, _, run_bsl a.eval _ _ _ _ _ w' _ (h 46 (by kernel_rfl)), own_ln1 w' x _ hB, (Below.refl _ _).alloc (Nat.le_refl _) _⟩),
        hopk_append1 (Nat.le_refl _) rfl rfl rfl (.tmp 42) (.tmp 47) rfl n1 1 L [x] (by omega) rfl (fun e hk he => envVb_rest _ _ _ _ _ _ _ e hk he) (lnC_one [x]) (fun a w' h => ⟨h 42 (by kernel_rfl), h 47 (by kernel_rfl)⟩),
        hopk_val (Nat.le_refl _) rfl rfl rfl (fun a w' h hR => by
          have h48 : w'.ownsRow W5.heap.size 38 3 (a.eval (.tmp 48)) (n1 + 1) (lnC L ++ lnC [x]) := h 48 (by kernel_rfl)
          obtain ⟨A, c, e, _, _⟩ := own_shape h48
          rw [e] at h48
          exact ⟨_, run_bld a.eval _ _ _ _ _ w' _ _ e rfl, _, rfl, h48⟩),
        hopk_alloc (Nat.le_refl _) rfl rfl, trivial⟩
    · intro a' w7 haf
      have hex := haf.ex rfl [39, 40, 41, 42, 43, 44, 45, 46, 47, 48, 49, 7] (by kernel_rfl)
      have hb7 : Below W5.heap.size W5 w7 := ((Below.refl _ W5).drew).trans haf.r
      clear haf
      simp only [SlEx, Act.put, List.setIfInBounds_toArray, List.set_cons_succ, List.set_cons_zero] at hex
      obtain ⟨x39, -, x40, -, x41, -, x42, -, x43, -, x44, -, x45, -, x46, -, x47, -, x48, -, x49, t49, x7, t7, rfl⟩ := hex
      obtain ⟨v2, rfl, ho2⟩ : WK.P W5.heap.size (.str (n1 + 1) (lnC L ++ lnC [x])) x49 w7 := t49 (by kernel_rfl)
      obtain ⟨b7, rfl, hB7, A7, n7, c7, k7, hX7⟩ : WK.P W5.heap.size .box x7 w7 := t7 (by kernel_rfl)
      clear t49 t7
      obtain ⟨A8, c8, rfl, hc8, hcm8⟩ := own_shape ho2
      have hne := hX7.ne ho2 (by decide)
      refine wpOp_store (.tmp 7) (.tmp 49) rfl rfl rfl hX7 ?_
      obtain ⟨W8, hW8⟩ : ∃ W, (w7.setCell ⟨b7, 0, none⟩ (.slice A8 (n1 + 1) c8)).setCell ⟨b7, 1, none⟩ (.int .i64 8) = W := ⟨_, rfl⟩
      have HX7 := hid_ (show OutBox W8 b7 (.slice A8 (n1 + 1) c8) 8 by rw [← hW8]; exact hX7.store)
      have HR8 := hid_ (show Rd W8 3 A8 (n1 + 1) (lnC (L ++ [x])) by rw [← hW8, lnC_append]; exact own_rd (own_set (own_set ho2 hne) hne))
      have hb8 : Below W5.heap.size W5 W8 := by rw [← hW8]; exact (hb7.setCell (p := ⟨b7, 0, none⟩) hB7 _).setCell (p := ⟨b7, 1, none⟩) hB7 _
      rw [hW8]
      have HC8 := hid_ hcm8
      clear hW8 hX7 hb7 ho2 hne hcm8
      have c70 := HX7.out.c0
      have c71 := HX7.out.c1
      have hs_hb8 := hb8.size
      replace BB := hid_ (BB.out.trans (hb8.mono BB.out.size))
      replace HR35 := hid_ (HR35.out.below hb8)
      replace HX6 := hid_ (HX6.out.block (hb8.block _ HX6.out.lt))
      replace c60 := HX6.out.c0
      replace c61 := HX6.out.c1
      clear hb8
      clear HX0 c00 c01 HH
      go_wp2_with fail
      refine (implCV_any (L.drop 1) A35 (n1 - 1) (c - 1) m size _ (by rw [List.length_drop, HN1.out]) (by omega) (by omega) (by have := HCl.out; omega) HR35.out).mono ?_
      rw [P1.out]
      rintro e w9 ⟨rfl, hb9⟩
      have hs_hb9 := hb9.size
      replace BB := hid_ (BB.out.trans (hb9.mono BB.out.size))
      replace HR8 := hid_ (HR8.out.below hb9)
      replace HX7 := hid_ (HX7.out.block (hb9.block _ HX7.out.lt))
      replace c70 := HX7.out.c0
      replace c71 := HX7.out.c1
      clear hb9
      go_wp2_with fail
      refine (implCV_any (L ++ [x]) A8 (n1 + 1) c8 8 size _ (by rw [List.length_append, HN1.out]; rfl) (by omega) hc8 HC8.out HR8.out).mono ?_
      rw [P2.out]
      rintro e w10 ⟨rfl, hb10⟩
      go_wp2
      go_returns
      exact ⟨rfl, BB.out.trans (hb10.mono BB.out.size)⟩

set_option maxRecDepth 100000 in
theorem fnCacheValid_lifted (os : Os) (started : os.Started) (H : Type) (enc : TypeId × Value → H) :
    ReturnsInHanded {} Try.checked os 4 .any (Rows.fnCacheValidSpec.pre6 enc Try.prog Try.f4 Rows.fnCacheValidRow.domain false) (Rows.fnCacheValidSpec.post enc Try.prog Try.f4 false true false false) := by
  refine returnsInHanded_of_change (C := Try.checked) own_ started (by kernel_rfl) Try.func4
    (ChangeSpec.witness6 (enc := enc) (C := Try.checked) false ⟨#[], #[.slice none 0 0], []⟩ 8 (by kernel_rfl) (by kernel_rfl) (by kernel_rfl) (by kernel_rfl)) ?_
  intro W base args ds gs before hval0 hW hcnd _
  have hval : ∀ (j : Nat) t v, Try.f4.params[j]? = some t → args[j]? = some v → Value.okWide Try.prog W .any base t v := hval0
  have hW' := hW
  obtain ⟨p, q, hA0, hV, rfl, hfz, hnd⟩ := hW
  have hA : DataW.TrodAll enc Try.prog W 0 (fun _ => true) true Try.f4.params.toList args.toList ds p := hA0
  rw [Try.params4] at hA hval
  obtain ⟨v0, vs0, d0, ds0, p0, q0, hargs, rfl, rfl, h0, r0⟩ := trodAll_cons hA
  obtain ⟨rfl, rfl, rfl⟩ := trodAll_nil r0
  obtain rfl : args = #[v0] := by cases args; simp_all
  obtain ⟨rfl, rfl⟩ := trodVars_none hV
  obtain ⟨a0, len0, cap0, rfl⟩ := okWide_slice Try.underlying33 (hval 0 33 v0 rfl rfl)
  have k0 := h0
  have lt0 : ∀ x ∈ p0, x.block < W.heap.size := by obtain ⟨m, hm⟩ := k0; exact DataW.trod_lt m _ _ _ hm
  obtain ⟨z0, e0, lc0, cm0, w0, rd0⟩ := open_bytes h0
  clear hA0 hval0
  refine (lawCaValid_walk z0 a0 len0 cap0 W e0 lc0 cm0 w0 rd0).mono fun e W' ⟨he, bel⟩ => ?_
  subst he
  exact ⟨_, rfl, _, _, _, [], _, [], hW', trodAll_mk1 (shut_bool Try.underlying4 _), (trodAll_cons_mk (Below.trod laidOut_ (by kernel_rfl) (of_decide_eq_true (by kernel_rfl)) k0 bel lt0) trodAll_mk0), rfl, bel.frame _, fun h => by cases h⟩

theorem fnCacheValid_holds : Rows.FnCacheValidSaid :=
  OpenClaim.holds_of_wide 4 Try.f4 rfl rfl rfl rfl rfl rfl rfl ⟨rfl, rfl, rfl, rfl, rfl⟩ rfl rfl rfl rfl rfl (by kernel_rfl) Try.func4 (by kernel_rfl)
    (of_decide_eq_true (by kernel_rfl)) (by unfold Func.isWrapper; first | (rw [if_pos (by decide +kernel)]; kernel_rfl) | (rw [if_neg (by decide +kernel)]; exact ⟨rfl, rfl⟩))
    (fun os started H enc _ => fnCacheValid_lifted os started H enc)

end Go.Proofs.Ytejnieoneknbbaa
