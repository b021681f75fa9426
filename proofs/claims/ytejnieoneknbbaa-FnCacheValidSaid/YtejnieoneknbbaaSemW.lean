/-
  Regions that draw their order whose head reads, lays new blocks and calls functions that leave what was there as it was; the tail as a walk.
-/
import Derived.Test.YtejnieoneknbbaaSemT
namespace Go.Proofs.Ytejnieoneknbbaa
open Go.ChangeShapes Go.WideShapes Go.ChangeAt Go.RowKit Go.BigFrame

/-- what a slot holds: a value that is fixed; a slice that reads; a struct of such a slice and a number -/
inductive WV
  | val (u : Value)
  | row (k n : Nat) (xs : List Value)
  | str (k n : Nat) (xs : List Value) (m : Int)
def WV.P (t : WV) (v : Value) (w : World) : Prop :=
  match t with
  | .val u => v = u
  | .row k n xs => ∃ A c, v = .slice A n c ∧ n ≤ c ∧ c ≤ maxLen ∧ Rd w k A n xs
  | .str k n xs m => ∃ A c, v = .agg #[.slice A n c, .int .i64 m] ∧ n ≤ c ∧ c ≤ maxLen ∧ Rd w k A n xs
theorem WV.stay {t : WV} {v : Value} {w w' : World} (h : WV.P t v w) (hb : Below w.heap.size w w') : WV.P t v w' := by
  cases t with
  | val u => exact h
  | row k n xs => obtain ⟨A, c, e, h1, h2, h3⟩ := h; exact ⟨A, c, e, h1, h2, h3.below hb⟩
  | str k n xs m => obtain ⟨A, c, e, h1, h2, h3⟩ := h; exact ⟨A, c, e, h1, h2, h3.below hb⟩
def semW (env : Nat → WV) : Sem where
  T d v w := WV.P (env d) v w
  R w w' := Below w.heap.size w w'
  S _ _ := True
  refl w := Below.refl _ w
  trans h k := h.trans (k.mono h.size)
  stay _ _ _ _ h hb := WV.stay h hb
  more h := h

section
variable {env : Nat → WV} {ops : Array Oper} {par : List Nat} {n : Nat} {W0 : World} {A0 : Act} {Q : Exit → Act → World → Prop} {k d : Nat} {ty : TypeId} {pos : String} {after : Array Edge}

theorem hopw_go {o : Oper} (hk : ops[k]? = some o) (hg : o.guard = none)
    (h : ∀ (a : Act) (w : World), (∀ e, semAv ops par o e = true → WV.P (env e) (a.eval (.tmp e)) w) → Below W0.heap.size W0 w → Oper.wp Try.prog o a w (fun a' w' => ∃ v, a' = a.put o.dst v ∧ (∀ d, o.dst = some d → WV.P (env d) v w') ∧ Below w.heap.size w w') Q) : HOp (semW env) Try.prog ops par n W0 A0 Q k o := by
  intro j a w hj hav hS hR
  unfold wpOp
  rw [hk]
  simp only [Region.wanted, hg, if_true]
  refine .inl (Oper.wp_mono (fun a' w' hx => ?_) (h a w hav hR))
  obtain ⟨v, h1, h2, h3⟩ := hx
  exact ⟨v, h1, h2, h3, trivial⟩
/-- an operation that yields a value; the world may have grown -/
theorem hopw_run {o : Oper} (hk : ops[k]? = some o) (hg : o.guard = none) (hd : o.dst = some d)
    (h : ∀ (a : Act) (w : World), (∀ e, semAv ops par o e = true → WV.P (env e) (a.eval (.tmp e)) w) → Below W0.heap.size W0 w → ∃ v w', (execOp a.eval o).run Try.prog w = .ok (.value v) w' ∧ WV.P (env d) v w' ∧ Below w.heap.size w w') : HOp (semW env) Try.prog ops par n W0 A0 Q k o := by
  refine hopw_go hk hg fun a w hav hR => ?_
  obtain ⟨v, w', hv, hT, hb⟩ := h a w hav hR
  unfold Oper.wp
  rw [hv]
  exact ⟨v, rfl, fun e he => by rw [hd] at he; injection he with he; subst he; exact hT, hb⟩
theorem hopw_val {o : Oper} (u : Value) (hk : ops[k]? = some o) (hg : o.guard = none) (hd : o.dst = some d) (he : env d = .val u)
    (h : ∀ (a : Act) (w : World), (∀ e, semAv ops par o e = true → WV.P (env e) (a.eval (.tmp e)) w) → Below W0.heap.size W0 w → (execOp a.eval o).run Try.prog w = .ok (.value u) w) : HOp (semW env) Try.prog ops par n W0 A0 Q k o :=
  hopw_run hk hg hd fun a w hav hR => ⟨u, w, h a w hav hR, by rw [he]; rfl, Below.refl _ _⟩
theorem hopw_move (x : Operand) (hk : ops[k]? = some { dst := some d, op := .move x, type := ty, pos := pos, after := after, guard := none })
    (hx : ∀ (a : Act) (w : World), (∀ e, semAv ops par { dst := some d, op := .move x, type := ty, pos := pos, after := after, guard := none } e = true → WV.P (env e) (a.eval (.tmp e)) w) → WV.P (env d) (a.eval x) w) :
    HOp (semW env) Try.prog ops par n W0 A0 Q k { dst := some d, op := .move x, type := ty, pos := pos, after := after, guard := none } :=
  hopw_run hk rfl rfl fun a w hav _ => ⟨a.eval x, w, rfl, hx a w hav, Below.refl _ _⟩
/-- a call -/
theorem hopw_call {o : Oper} (hk : ops[k]? = some o) (hg : o.guard = none) (hd : o.dst = some d)
    (h : ∀ (a : Act) (w : World), (∀ e, semAv ops par o e = true → WV.P (env e) (a.eval (.tmp e)) w) → Below W0.heap.size W0 w → ∃ f args, (execOp a.eval o).run Try.prog w = .ok (.enter f args) w ∧ Calls Try.prog f args w fun e w' => ∃ v, e = .returned v ∧ WV.P (env d) v w' ∧ Below w.heap.size w w') : HOp (semW env) Try.prog ops par n W0 A0 Q k o := by
  refine hopw_go hk hg fun a w hav hR => ?_
  obtain ⟨f, args, hv, hc⟩ := h a w hav hR
  unfold Oper.wp
  rw [hv, Oper.upon_enter]
  refine hc.mono ?_
  rintro e w' ⟨v, rfl, hT, hb⟩
  exact ⟨v, rfl, fun e he => by rw [hd] at he; injection he with he; subst he; exact hT, hb⟩
end
end Go.Proofs.Ytejnieoneknbbaa
