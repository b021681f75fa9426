/-
  Regions that draw their order, call a function and fill a new box: what each operation does, said once, serves every order.
-/
import Derived.Test.YtejnieoneknbbaaSemS
namespace Go.Proofs.Ytejnieoneknbbaa
open Go.ChangeShapes Go.WideShapes Go.ChangeAt Go.RowKit Go.BigFrame

def IsBox (w : World) (b : Nat) : Prop := ∃ A n c k, OutBox w b (.slice A n c) k
/-- what was there from the start is as it was; rows of numbers stay; boxes stay boxes -/
def RY (B : Nat) (w w' : World) : Prop :=
  Below B w w' ∧ (∀ (g : Nat) (cur : Array Value), w.heap[g]? = some (.cells cur 3 (0, 0)) → w'.heap[g]? = some (.cells cur 3 (0, 0))) ∧ ∀ b, IsBox w b → IsBox w' b
theorem RY.refl (B : Nat) (w : World) : RY B w w := ⟨Below.refl _ _, fun _ _ h => h, fun _ h => h⟩
theorem RY.trans {B : Nat} {a b c : World} (h : RY B a b) (k : RY B b c) : RY B a c := ⟨h.1.trans k.1, fun g cur q => k.2.1 g cur (h.2.1 g cur q), fun x q => k.2.2 x (h.2.2 x q)⟩
theorem RY.of_below {B : Nat} {w w' : World} (h : Below w.heap.size w w') (hB : B ≤ w.heap.size) : RY B w w' := by
  refine ⟨h.mono hB, fun g cur q => ?_, fun b q => ?_⟩
  · exact (h.block g (Array.getElem?_eq_some_iff.1 q).1).trans q
  · obtain ⟨A, n, c, k, q⟩ := q
    exact ⟨A, n, c, k, q.block (h.block b q.lt)⟩
theorem RY.own {B n : Nat} {w w' : World} {v : Value} {xs : List Value} (h : RY B w w') (ho : w.ownsRow B 3 1 v n xs) : w'.ownsRow B 3 1 v n xs := by
  refine ⟨ho.1, ?_⟩
  rcases ho.2 with q | ⟨g, cap, cur, e, hB, hh, r⟩
  · exact .inl q
  · exact .inr ⟨g, cap, cur, e, hB, h.2.1 g cur hh, r⟩
theorem RY.store {B b : Nat} {w : World} {A A' : Option Addr} {n n' c c' : Nat} {k k' : Int} (h : OutBox w b (.slice A n c) k) (hB : B ≤ b) : RY B w ((w.setCell ⟨b, 0, none⟩ (.slice A' n' c')).setCell ⟨b, 1, none⟩ (.int .i64 k')) := by
  have hst : OutBox ((w.setCell ⟨b, 0, none⟩ (.slice A' n' c')).setCell ⟨b, 1, none⟩ (.int .i64 k')) b (.slice A' n' c') k' := h.store
  refine ⟨((Below.refl B w).setCell (p := ⟨b, 0, none⟩) hB _).setCell (p := ⟨b, 1, none⟩) hB _, fun g cur q => ?_, fun x q => ?_⟩
  · have hne : g ≠ b := fun e => by
      subst e
      unfold OutBox at h
      rw [h] at q
      injection q with q
      injection q with _ q
      cases q
    rw [Below.heap_setCell _ _ _ _ hne, Below.heap_setCell _ _ _ _ hne]
    exact q
  · by_cases e : x = b
    · subst e; exact ⟨_, _, _, _, hst⟩
    · obtain ⟨A0, n0, c0, k0, q⟩ := q
      exact ⟨A0, n0, c0, k0, q.block (by rw [Below.heap_setCell _ _ _ _ e, Below.heap_setCell _ _ _ _ e])⟩

/-- what a slot holds -/
inductive WY
  | val (u : Value)
  | num
  | cagg
  | box
  | own (n : Nat) (xs : List Value)
  | tup (n : Nat) (xs : List Value)
def WY.P (B : Nat) (t : WY) (v : Value) (w : World) : Prop :=
  match t with
  | .val u => v = u
  | .num => ∃ i : Int, v = .int .i64 i
  | .cagg => ∃ A n c k, v = .agg #[.slice A n c, .int .i64 k]
  | .box => ∃ b, v = .pointer (some ⟨b, 0, none⟩) ∧ B ≤ b ∧ IsBox w b
  | .own n xs => w.ownsRow B 3 1 v n xs
  | .tup n xs => ∃ (i : Int) (A : Option Addr) (m c : Nat) (k : Int) (v2 : Value), v = .tuple #[.int .i64 i, .agg #[.slice A m c, .int .i64 k], v2] ∧ w.ownsRow B 3 1 v2 n xs
theorem WY.stay {B : Nat} {t : WY} {v : Value} {w w' : World} (h : WY.P B t v w) (hr : RY B w w') : WY.P B t v w' := by
  cases t with
  | val u => exact h
  | num => exact h
  | cagg => exact h
  | box => obtain ⟨b, e, hB, hb⟩ := h; exact ⟨b, e, hB, hr.2.2 b hb⟩
  | own n xs => exact hr.own h
  | tup n xs => obtain ⟨i, A, m, c, k, v2, e, ho⟩ := h; exact ⟨i, A, m, c, k, v2, e, hr.own ho⟩
def semY (B : Nat) (env : Nat → WY) : SemU where
  T d u w := WY.P B (env d) u w
  R := RY B
  S _ w := B ≤ w.heap.size
  U _ _ := True
  refl := RY.refl B
  trans h k := h.trans k
  stay _ _ _ _ h k := WY.stay h k
  more h := h
  keep _ _ _ h _ := h

section
variable {B : Nat} {env : Nat → WY} {ops : Array Oper} {par : List Nat} {W0 : World} {Q : Exit → Act → World → Prop} {k d : Nat} {ty : TypeId} {pos : String} {after : Array Edge}

theorem hopy_go {o : Oper} (hk : ops[k]? = some o) (hg : o.guard = none)
    (h : ∀ (a : Act) (w : World), (∀ e, semAv ops par o e = true → WY.P B (env e) (a.eval (.tmp e)) w) → B ≤ w.heap.size → RY B W0 w →
      Oper.wp Try.prog o a w (fun a' w' => ∃ v, a' = a.put o.dst v ∧ (∀ d, o.dst = some d → WY.P B (env d) v w') ∧ RY B w w') Q) : SemOpS (semY B env) Try.prog ops par W0 Q k o := by
  intro j a w hj hav hS hR
  unfold wpOp
  rw [hk]
  simp only [Region.wanted, hg, if_true]
  refine .inl (Oper.wp_mono (fun a' w' hx => ?_) (h a w hav hS hR))
  obtain ⟨v, h1, h2, h3⟩ := hx
  exact ⟨v, h1, h2, fun _ => trivial, h3, Nat.le_trans hS h3.1.size⟩
theorem hopy_run {o : Oper} (hk : ops[k]? = some o) (hg : o.guard = none) (hd : o.dst = some d)
    (h : ∀ (a : Act) (w : World), (∀ e, semAv ops par o e = true → WY.P B (env e) (a.eval (.tmp e)) w) → B ≤ w.heap.size → RY B W0 w → ∃ v w', (execOp a.eval o).run Try.prog w = .ok (.value v) w' ∧ WY.P B (env d) v w' ∧ RY B w w') : SemOpS (semY B env) Try.prog ops par W0 Q k o := by
  refine hopy_go hk hg fun a w hav hS hR => ?_
  obtain ⟨v, w', hv, hT, hr⟩ := h a w hav hS hR
  unfold Oper.wp
  rw [hv]
  exact ⟨v, rfl, fun e he => by rw [hd] at he; injection he with he; subst he; exact hT, hr⟩
theorem hopy_val {o : Oper} (hk : ops[k]? = some o) (hg : o.guard = none) (hd : o.dst = some d)
    (h : ∀ (a : Act) (w : World), (∀ e, semAv ops par o e = true → WY.P B (env e) (a.eval (.tmp e)) w) → RY B W0 w → ∃ v, (execOp a.eval o).run Try.prog w = .ok (.value v) w ∧ WY.P B (env d) v w) : SemOpS (semY B env) Try.prog ops par W0 Q k o :=
  hopy_run hk hg hd fun a w hav _ hR => by obtain ⟨v, h1, h2⟩ := h a w hav hR; exact ⟨v, w, h1, h2, RY.refl _ _⟩
theorem hopy_move (x : Operand) (hk : ops[k]? = some { dst := some d, op := .move x, type := ty, pos := pos, after := after, guard := none })
    (hx : ∀ (a : Act) (w : World), (∀ e, semAv ops par { dst := some d, op := .move x, type := ty, pos := pos, after := after, guard := none } e = true → WY.P B (env e) (a.eval (.tmp e)) w) → WY.P B (env d) (a.eval x) w) :
    SemOpS (semY B env) Try.prog ops par W0 Q k { dst := some d, op := .move x, type := ty, pos := pos, after := after, guard := none } :=
  hopy_val hk rfl rfl fun a w hav _ => ⟨a.eval x, rfl, hx a w hav⟩
theorem hopy_assign (x : Operand) (hk : ops[k]? = some { dst := some d, op := .assign x, type := ty, pos := pos, after := after, guard := none })
    (hx : ∀ (a : Act) (w : World), (∀ e, semAv ops par { dst := some d, op := .assign x, type := ty, pos := pos, after := after, guard := none } e = true → WY.P B (env e) (a.eval (.tmp e)) w) → WY.P B (env d) (a.eval x) w) :
    SemOpS (semY B env) Try.prog ops par W0 Q k { dst := some d, op := .assign x, type := ty, pos := pos, after := after, guard := none } :=
  hopy_val hk rfl rfl fun a w hav _ => ⟨a.eval x, rfl, hx a w hav⟩
theorem hopy_call {o : Oper} (hk : ops[k]? = some o) (hg : o.guard = none) (hd : o.dst = some d)
    (h : ∀ (a : Act) (w : World), (∀ e, semAv ops par o e = true → WY.P B (env e) (a.eval (.tmp e)) w) → B ≤ w.heap.size → RY B W0 w → ∃ f args, (execOp a.eval o).run Try.prog w = .ok (.enter f args) w ∧ Calls Try.prog f args w fun e w' => ∃ v, e = .returned v ∧ WY.P B (env d) v w' ∧ RY B w w') : SemOpS (semY B env) Try.prog ops par W0 Q k o := by
  refine hopy_go hk hg fun a w hav hS hR => ?_
  obtain ⟨f, args, hv, hc⟩ := h a w hav hS hR
  unfold Oper.wp
  rw [hv, Oper.upon_enter]
  refine hc.mono ?_
  rintro e w' ⟨v, rfl, hT, hr⟩
  exact ⟨v, rfl, fun e he => by rw [hd] at he; injection he with he; subst he; exact hT, hr⟩
theorem run_newbox (ρ : Operand → Value) (w : World) :
    (execOp ρ { dst := some d, op := .alloc 29, type := ty, pos := pos, after := after, guard := none }).run Try.prog w = .ok (.value (.pointer (some ⟨w.heap.size, 0, none⟩))) (w.alloc (.cells #[.slice none 0 0, .int .i64 0] 29)) := by
  simp [execOp, go_sem]
theorem hopy_alloc (hk : ops[k]? = some { dst := some d, op := .alloc 29, type := ty, pos := pos, after := after, guard := none }) (he : env d = .box) :
    SemOpS (semY B env) Try.prog ops par W0 Q k { dst := some d, op := .alloc 29, type := ty, pos := pos, after := after, guard := none } :=
  hopy_run hk rfl rfl fun a w _ hS _ => ⟨_, _, run_newbox a.eval w, by rw [he]; exact ⟨w.heap.size, rfl, hS, _, _, _, _, BoxC.new w (.slice none 0 0) 0⟩, RY.of_below ((Below.refl _ _).alloc (Nat.le_refl _) _) hS⟩
theorem hopy_store (x y : Operand) (hk : ops[k]? = some { dst := none, op := .store 29 x y, type := ty, pos := pos, after := after, guard := none })
    (hx : ∀ (a : Act) (w : World), (∀ e, semAv ops par { dst := none, op := .store 29 x y, type := ty, pos := pos, after := after, guard := none } e = true → WY.P B (env e) (a.eval (.tmp e)) w) → WY.P B .box (a.eval x) w ∧ WY.P B .cagg (a.eval y) w) :
    SemOpS (semY B env) Try.prog ops par W0 Q k { dst := none, op := .store 29 x y, type := ty, pos := pos, after := after, guard := none } := by
  refine hopy_go hk rfl fun a w hav hS hR => ?_
  obtain ⟨⟨b, e1, hB, A0, n0, c0, k0, hX⟩, A, n, c, m, e2⟩ := hx a w hav
  unfold Oper.wp
  rw [run_st2 a.eval w x y e1 e2 hX]
  exact ⟨undef, rfl, (fun e he => by cases he), RY.store hX hB⟩
end
end Go.Proofs.Ytejnieoneknbbaa
