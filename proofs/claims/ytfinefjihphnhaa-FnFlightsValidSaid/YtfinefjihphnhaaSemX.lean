/-
  Regions that draw their order whose head reads, calls, lays new blocks and appends to an empty list, also behind a guard that stands open; the tail as a walk.
-/
import Derived.Test.YtfinefjihphnhaaSemT
import Derived.ArgAppend
namespace Go.Proofs.Ytfinefjihphnhaa
open Go.ChangeShapes Go.WideShapes Go.ChangeAt Go.RowKit Go.BigFrame

/-- what a slot holds -/
inductive WX
  | val (u : Value)
  | row (k n : Nat) (xs : List Value)
  | emp
  | own (B E k n : Nat) (xs : List Value)
def WX.P (t : WX) (v : Value) (w : World) : Prop :=
  match t with
  | .val u => v = u
  | .row k n xs => ∃ A c, v = .slice A n c ∧ n ≤ c ∧ c ≤ maxLen ∧ Rd w k A n xs
  | .emp => ∃ ad, v = .slice (some ad) 0 0
  | .own B E k n xs => w.ownsRow B E k v n xs
theorem WX.stay {t : WX} {v : Value} {w w' : World} (h : WX.P t v w) (hb : Below w.heap.size w w') : WX.P t v w' := by
  cases t with
  | val u => exact h
  | row k n xs => obtain ⟨A, c, e, h1, h2, h3⟩ := h; exact ⟨A, c, e, h1, h2, h3.below hb⟩
  | emp => exact h
  | own B E k n xs => exact own_below h hb
def semX (env : Nat → WX) : Sem where
  T d v w := WX.P (env d) v w
  R w w' := Below w.heap.size w w'
  S _ _ := True
  refl w := Below.refl _ w
  trans h k := h.trans (k.mono h.size)
  stay _ _ _ _ h hb := WX.stay h hb
  more h := h
theorem wanted_of {ops : Array Oper} {o : Oper} {a : Act} {j dj : Nat} {b : Bool} (hg : o.guard = some (j, b)) (hj : (ops[j]?).bind (·.dst) = some dj) (ha : a.eval (.tmp dj) = .bool b) : Region.wanted o (yielded ops a.tmps) = true := by
  unfold Region.wanted yielded
  rw [hg]
  simp only [hj, Option.bind_some]
  have : a.tmps[dj]? = some (.bool b) := by
    unfold Act.eval at ha
    by_cases h : dj < a.tmps.size
    · simp [Array.getD, h] at ha
      simp [h, ha]
    · simp [Array.getD, h, undef] at ha
  rw [this]
  simp

section
variable {env : Nat → WX} {ops : Array Oper} {par : List Nat} {n : Nat} {W0 : World} {A0 : Act} {Q : Exit → Act → World → Prop} {k d : Nat} {ty : TypeId} {pos : String} {after : Array Edge} {gd : Option (Nat × Bool)}

theorem hopx_go {o : Oper} (hk : ops[k]? = some o) (hg : ∀ (a : Act) (w : World), (∀ e, semAv ops par o e = true → WX.P (env e) (a.eval (.tmp e)) w) → Region.wanted o (yielded ops a.tmps) = true)
    (h : ∀ (a : Act) (w : World), (∀ e, semAv ops par o e = true → WX.P (env e) (a.eval (.tmp e)) w) → Below W0.heap.size W0 w → Oper.wp Try.prog o a w (fun a' w' => ∃ v, a' = a.put o.dst v ∧ (∀ d, o.dst = some d → WX.P (env d) v w') ∧ Below w.heap.size w w') Q) : HOp (semX env) Try.prog ops par n W0 A0 Q k o := by
  intro j a w hj hav hS hR
  unfold wpOp
  rw [hk]
  simp only [hg a w hav, if_true]
  refine .inl (Oper.wp_mono (fun a' w' hx => ?_) (h a w hav hR))
  obtain ⟨v, h1, h2, h3⟩ := hx
  exact ⟨v, h1, h2, h3, trivial⟩
theorem open_none {o : Oper} (h : o.guard = none) : ∀ (a : Act) (w : World), (∀ e, semAv ops par o e = true → WX.P (env e) (a.eval (.tmp e)) w) → Region.wanted o (yielded ops a.tmps) = true := fun a w _ => by simp [Region.wanted, h]
theorem open_some {o : Oper} {j dj : Nat} {b : Bool} (hg : o.guard = some (j, b)) (hj : (ops[j]?).bind (·.dst) = some dj) (hav : semAv ops par o dj = true) (he : env dj = .val (.bool b)) : ∀ (a : Act) (w : World), (∀ e, semAv ops par o e = true → WX.P (env e) (a.eval (.tmp e)) w) → Region.wanted o (yielded ops a.tmps) = true := fun a w h => wanted_of hg hj (by have := h dj hav; rw [he] at this; exact this)
theorem hopx_run {o : Oper} (hk : ops[k]? = some o) (hg : ∀ (a : Act) (w : World), (∀ e, semAv ops par o e = true → WX.P (env e) (a.eval (.tmp e)) w) → Region.wanted o (yielded ops a.tmps) = true) (hd : o.dst = some d)
    (h : ∀ (a : Act) (w : World), (∀ e, semAv ops par o e = true → WX.P (env e) (a.eval (.tmp e)) w) → Below W0.heap.size W0 w → ∃ v w', (execOp a.eval o).run Try.prog w = .ok (.value v) w' ∧ WX.P (env d) v w' ∧ Below w.heap.size w w') : HOp (semX env) Try.prog ops par n W0 A0 Q k o := by
  refine hopx_go hk hg fun a w hav hR => ?_
  obtain ⟨v, w', hv, hT, hb⟩ := h a w hav hR
  unfold Oper.wp
  rw [hv]
  exact ⟨v, rfl, fun e he => by rw [hd] at he; injection he with he; subst he; exact hT, hb⟩
theorem hopx_val {o : Oper} (u : Value) (hk : ops[k]? = some o) (hg : ∀ (a : Act) (w : World), (∀ e, semAv ops par o e = true → WX.P (env e) (a.eval (.tmp e)) w) → Region.wanted o (yielded ops a.tmps) = true) (hd : o.dst = some d) (he : env d = .val u)
    (h : ∀ (a : Act) (w : World), (∀ e, semAv ops par o e = true → WX.P (env e) (a.eval (.tmp e)) w) → Below W0.heap.size W0 w → (execOp a.eval o).run Try.prog w = .ok (.value u) w) : HOp (semX env) Try.prog ops par n W0 A0 Q k o :=
  hopx_run hk hg hd fun a w hav hR => ⟨u, w, h a w hav hR, by rw [he]; rfl, Below.refl _ _⟩
theorem hopx_move (x : Operand) (hk : ops[k]? = some { dst := some d, op := .move x, type := ty, pos := pos, after := after, guard := gd })
    (hg : ∀ (a : Act) (w : World), (∀ e, semAv ops par { dst := some d, op := .move x, type := ty, pos := pos, after := after, guard := gd } e = true → WX.P (env e) (a.eval (.tmp e)) w) → Region.wanted { dst := some d, op := .move x, type := ty, pos := pos, after := after, guard := gd } (yielded ops a.tmps) = true)
    (hx : ∀ (a : Act) (w : World), (∀ e, semAv ops par { dst := some d, op := .move x, type := ty, pos := pos, after := after, guard := gd } e = true → WX.P (env e) (a.eval (.tmp e)) w) → WX.P (env d) (a.eval x) w) :
    HOp (semX env) Try.prog ops par n W0 A0 Q k { dst := some d, op := .move x, type := ty, pos := pos, after := after, guard := gd } :=
  hopx_run hk hg rfl fun a w hav _ => ⟨a.eval x, w, rfl, hx a w hav, Below.refl _ _⟩
theorem hopx_call {o : Oper} (hk : ops[k]? = some o) (hg : ∀ (a : Act) (w : World), (∀ e, semAv ops par o e = true → WX.P (env e) (a.eval (.tmp e)) w) → Region.wanted o (yielded ops a.tmps) = true) (hd : o.dst = some d)
    (h : ∀ (a : Act) (w : World), (∀ e, semAv ops par o e = true → WX.P (env e) (a.eval (.tmp e)) w) → Below W0.heap.size W0 w → ∃ f args, (execOp a.eval o).run Try.prog w = .ok (.enter f args) w ∧ Calls Try.prog f args w fun e w' => ∃ v, e = .returned v ∧ WX.P (env d) v w' ∧ Below w.heap.size w w') : HOp (semX env) Try.prog ops par n W0 A0 Q k o := by
  refine hopx_go hk hg fun a w hav hR => ?_
  obtain ⟨f, args, hv, hc⟩ := h a w hav hR
  unfold Oper.wp
  rw [hv, Oper.upon_enter]
  refine hc.mono ?_
  rintro e w' ⟨v, rfl, hT, hb⟩
  exact ⟨v, rfl, fun e he => by rw [hd] at he; injection he with he; subst he; exact hT, hb⟩
/-- append to an empty list that has no room -/
theorem hopx_append0 {o : Oper} (hk : ops[k]? = some o) (hg : ∀ (a : Act) (w : World), (∀ e, semAv ops par o e = true → WX.P (env e) (a.eval (.tmp e)) w) → Region.wanted o (yielded ops a.tmps) = true) (hd : o.dst = some d)
    (s x : Operand) (t : TypeId) (ho : o.op = .call { callee := .builtin .append, args := #[s, x], argTypes := #[t, t] })
    (e : TypeId) (z : Value) (size bytes : Nat) (ht : Try.prog.underlying t = some (.slice e)) (hinfo : (Try.prog.info? e).map (fun i => (i.zero, i.size, i.bytes)) = some (some z, size, bytes)) (hzs : z.cells.size = size) (hsz : 0 < size) (hby : bytes ≤ 1024)
    (m : Nat) (news : List Value) (hm : 0 < m) (hm2 : m ≤ 1073741824) (B : Nat) (hB : B ≤ W0.heap.size) (he : env d = .own B e size m news)
    (hx : ∀ (a : Act) (w : World), (∀ e, semAv ops par o e = true → WX.P (env e) (a.eval (.tmp e)) w) → Below W0.heap.size W0 w → WX.P .emp (a.eval s) w ∧ ∃ A c, a.eval x = .slice A m c ∧ Rd w size A m news) : HOp (semX env) Try.prog ops par n W0 A0 Q k o := by
  refine hopx_go hk hg fun a w hav hR => ?_
  obtain ⟨⟨ad, hs⟩, A, c, hxx, hr⟩ := hx a w hav hR
  obtain ⟨b, o', rfl, hc⟩ := hr.2 hm
  obtain ⟨i, hi, hz, hz1, hz2⟩ := info_parts hinfo
  have hbytes : (0 + m) * bytes ≤ 140737488355328 := by
    calc (0 + m) * bytes ≤ 1073741824 * 1024 := Nat.mul_le_mul (by omega) hby
      _ ≤ 140737488355328 := by decide
  obtain ⟨v', w', hrun, r1, r2⟩ := run_append_arg_grows (P := Try.prog) w t o.type e i z size bytes ht hi hz hz1 hz2 hzs hsz ad 0 0 [] (by simp) (fun j u hj => by simp at hj) ⟨b, o', none⟩ m c news hr.1 (fun j u hj => by rw [add_mid]; exact hc j u hj) (by omega) (by simp only [maxLen]; omega) hbytes
  unfold Oper.wp execOp
  simp only [ho, resolve, invoke, builtin, Sem.run_bind, Sem.run_pure, Result.andThen_ok, List.map_toArray, List.map_cons, List.map_nil, hs, hxx, hrun]
  refine ⟨v', rfl, fun e2 he2 => ?_, below_of_gb r2 (Nat.le_refl _) (fun k h => by cases h)⟩
  rw [hd] at he2
  injection he2 with he2
  subst he2
  rw [he]
  exact own_eq (own_base r1 (Nat.le_trans hB hR.size)) (Nat.zero_add _) (List.nil_append _)
end
end Go.Proofs.Ytfinefjihphnhaa
