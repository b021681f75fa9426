/-
  Regions that draw their order and hold picks: a check of types, op by op, serves every order.
-/
import Derived.Test.YtejnieoneknbbaaDraw
import Derived.Orders
import Derived.Great.BuildSlice
namespace Go.Proofs.Ytejnieoneknbbaa
open Go.ChangeShapes Go.WideShapes Go.ChangeAt Go.RowKit Go.BigFrame

/-- what a temporary holds: a number in bounds, a table of such numbers, the address of one of them, the reader, a value that is fixed -/
inductive Ty
  | int (lo hi : Int)
  | sl (n : Nat) (lo hi : Int)
  | ad (lo hi : Int)
  | rd
  | fix
  deriving DecidableEq

def Ty.T (g : Nat) (v0 : Value) (t : Ty) (v : Value) (w : World) : Prop :=
  match t with
  | .int lo hi => ∃ k : Int, v = .int .i64 k ∧ lo ≤ k ∧ k ≤ hi
  | .sl n lo hi => ∃ b, v = .slice (some ⟨b, 0, none⟩) n n ∧ b ≠ g ∧ ∀ j, j < n → ∃ k : Int, w.cell? ⟨b, j, none⟩ = some (.int .i64 k) ∧ lo ≤ k ∧ k ≤ hi
  | .ad lo hi => ∃ (b o : Nat) (k : Int), v = .pointer (some ⟨b, o, none⟩) ∧ b ≠ g ∧ w.cell? ⟨b, o, none⟩ = some (.int .i64 k) ∧ lo ≤ k ∧ k ≤ hi
  | .rd => v = .pointer (some ⟨g, 0, none⟩)
  | .fix => v = v0

theorem Ty.grow {g : Nat} {v0 : Value} {t : Ty} {v : Value} {w w' : World} (h : Ty.T g v0 t v w) (hg : w.grownBy w' (some g)) : Ty.T g v0 t v w' := by
  cases t with
  | int lo hi => exact h
  | sl n lo hi =>
    obtain ⟨b, e, hb, hc⟩ := h
    exact ⟨b, e, hb, fun j hj => by obtain ⟨k, h1, h2⟩ := hc j hj; exact ⟨k, hg.cell h1 (by simpa using hb), h2⟩⟩
  | ad lo hi =>
    obtain ⟨b, o, k, e, hb, hc, h2⟩ := h
    exact ⟨b, o, k, e, hb, hg.cell hc (by simpa using hb), h2⟩
  | rd => exact h
  | fix => exact h

def tyOf (env : Nat → Option Ty) (av : Nat → Bool) : Operand → Option Ty
  | .tmp t => if av t then env t else none
  | .const (.int .i64 k) => some (.int k k)
  | _ => none
def subT : Ty → Ty → Bool
  | .int l h, .int l' h' => decide (l' ≤ l) && decide (h ≤ h')
  | a, b => a == b
theorem subT_T {g : Nat} {v0 : Value} {t t' : Ty} {v : Value} {w : World} (hs : subT t t' = true) (h : Ty.T g v0 t v w) : Ty.T g v0 t' v w := by
  cases t <;> cases t' <;> simp only [subT, Bool.and_eq_true, decide_eq_true_eq] at hs
  · obtain ⟨k, e, h1, h2⟩ := h
    exact ⟨k, e, by omega, by omega⟩
  all_goals first | (simp at hs; done) | (simp at hs; obtain ⟨rfl, rfl, rfl⟩ := hs; exact h) | (simp at hs; obtain ⟨rfl, rfl⟩ := hs; exact h) | exact h

/-- the type of what an operation yields -/
def opTy (env : Nat → Option Ty) (av : Nat → Bool) (o : Op) (t : Ty) : Bool :=
  match o with
  | .move x => match tyOf env av x with | some t' => subT t' t | none => false
  | .assign x => match tyOf env av x with | some t' => subT t' t | none => false
  | .binOp .add ty x y _ => ty == 3 && match tyOf env av x, tyOf env av y with
    | some (.int a b), some (.int c d) => subT (.int (a + c) (b + d)) t && decide (-1000000 ≤ a) && decide (b ≤ 1000000) && decide (-1000000 ≤ c) && decide (d ≤ 1000000)
    | _, _ => false
  | .call c => match c.callee, c.args.toList with
    | .value (.func f), [x, y] => f == 51 && tyOf env av x == some .rd && match tyOf env av y with
      | some (.int n n') => n == n' && decide (1 ≤ n) && decide (n ≤ 1000000) && subT (.int 0 (n - 1)) t
      | _ => false
    | _, _ => false
  | .buildSlice ty n parts => ty == 40 && decide (0 < n) && decide (n ≤ 100) && (parts.toList.map Prod.fst == List.range n) && match t with
    | .sl m lo hi => m == n && parts.toList.all (fun p => match tyOf env av p.2 with | some t' => subT t' (.int lo hi) | none => false)
    | _ => false
  | .indexAddr ty x y => ty == 40 && match tyOf env av x, tyOf env av y with
    | some (.sl n lo hi), some (.int a b) => decide (0 ≤ a) && decide (b < n) && t == .ad lo hi
    | _, _ => false
  | .load ty x => ty == 3 && match tyOf env av x with
    | some (.ad lo hi) => subT (.int lo hi) t
    | _ => false
  | _ => false

theorem tyOf_T {env : Nat → Option Ty} {av : Nat → Bool} {g : Nat} {v0 : Value} {a : Act} {w : World} (hav : ∀ d, av d = true → ∀ t, env d = some t → Ty.T g v0 t (a.eval (.tmp d)) w) {x : Operand} {t : Ty} (h : tyOf env av x = some t) :
    Ty.T g v0 t (a.eval x) w := by
  cases x with
  | tmp d =>
    simp only [tyOf] at h
    split at h
    · rename_i hd; exact hav d hd t h
    · cases h
  | const v =>
    cases v with
    | int k n =>
      cases k <;> simp only [tyOf] at h <;> try (cases h; done)
      injection h with h
      subst h
      exact ⟨n, rfl, Int.le_refl _, Int.le_refl _⟩
    | _ => simp [tyOf] at h
  | global _ => simp [tyOf] at h
  | func _ => simp [tyOf] at h

/-- what is known behind an operation -/
def Next1 (_ : Nat → Option Ty) (g : Nat) (v0 : Value) (o : Oper) (t : Ty) (p : Int) (a : Act) (w : World) (a' : Act) (w' : World) : Prop :=
  ∃ v, a' = a.put o.dst v ∧ Ty.T g v0 t v w' ∧ w.grownBy w' (some g) ∧ Rdr w' g (p + 1)

section
variable (ρ : Operand → Value) (dst : Option Tmp) (ty : TypeId) (pos : String) (after : Array Edge) (guard : Option (Nat × Bool)) (w : World)
theorem run_load_ (x : Operand) {b o : Nat} {k : Int} (e : ρ x = .pointer (some ⟨b, o, none⟩)) (hc : w.cell? ⟨b, o, none⟩ = some (.int .i64 k)) :
    (execOp ρ { dst := dst, op := .load 3 x, type := ty, pos := pos, after := after, guard := guard }).run Try.prog w = .ok (.value (.int .i64 k)) w := by
  simp [execOp, e, go_sem, hc]
theorem run_add_ (x y : Operand) (t2 : TypeId) {a b : Int} (ex : ρ x = .int .i64 a) (ey : ρ y = .int .i64 b) (ha : -1000000 ≤ a ∧ a ≤ 1000000) (hb : -1000000 ≤ b ∧ b ≤ 1000000) :
    (execOp ρ { dst := dst, op := .binOp .add 3 x y t2, type := ty, pos := pos, after := after, guard := guard }).run Try.prog w = .ok (.value (.int .i64 (a + b))) w := by
  have : IntKind.i64.wrap (a + b) = a + b := by
    simp only [IntKind.wrap, IntKind.bits, IntKind.signed]
    simp
    omega
  simp [execOp, ex, ey, go_sem, this]
theorem run_index_ (x y : Operand) {b n : Nat} {i : Int} (ex : ρ x = .slice (some ⟨b, 0, none⟩) n n) (ey : ρ y = .int .i64 i) (h0 : 0 ≤ i) (h1 : i < n) :
    (execOp ρ { dst := dst, op := .indexAddr 40 x y, type := ty, pos := pos, after := after, guard := guard }).run Try.prog w = .ok (.value (.pointer (some ⟨b, i.toNat, none⟩))) w := by
  simp [execOp, ex, ey, go_sem, h0, h1]
theorem run_pick_ (x y : Operand) (ats : Array TypeId) {a b : Value} (hf : ρ (.func 51) = .func (.func 51) #[] #[]) (ex : ρ x = a) (ey : ρ y = b) :
    (execOp ρ { dst := dst, op := .call { callee := .value (.func 51), args := #[x, y], argTypes := ats }, type := ty, pos := pos, after := after, guard := guard }).run Try.prog w = .ok (.enter 51 #[a, b]) w := by
  simp [execOp, resolve, hf, ex, ey, go_sem]
end

theorem parts_list (ρ : Operand → Value) (l : List (Nat × Operand)) (n : Nat) (h : l.map Prod.fst = List.range n) :
    l.map (fun (i, x) => (i, ρ x)) = ((l.map fun p => ρ p.2).zipIdx 0).map fun x => (x.2, x.1) := by
  apply List.ext_getElem
  · simp
  · intro i h1 h2
    have hl : i < l.length := by simpa using h1
    have hi : (l.map Prod.fst)[i]'(by simpa using hl) = i := by
      have hn : l.length = n := by have := congrArg List.length h; simpa using this
      have : (l.map Prod.fst)[i]'(by simpa using hl) = (List.range n)[i]'(by rw [List.length_range]; omega) := by congr 1
      rw [this]; simp
    simp only [List.getElem_map] at hi
    simp only [List.getElem_map, List.getElem_zipIdx, Nat.zero_add]
    rw [hi]

theorem wp_table {dst : Option Tmp} {ty : TypeId} {pos : String} {after : Array Edge} {guard : Option (Nat × Bool)} {a : Act} {w : World} {K : Act → World → Prop} {Q : Exit → Act → World → Prop} (n : Nat) (parts : Array (Nat × Operand)) (h0 : 0 < n) (h1 : n ≤ 100) (hl : parts.toList.map Prod.fst = List.range n)
    (hv : ∀ p ∈ parts.toList, ∃ k : Int, a.eval p.2 = .int .i64 k)
    (h : K (a.put dst (.slice (some ⟨w.heap.size, 0, none⟩) n n)) (w.alloc (.cells ((parts.toList.map fun p => a.eval p.2).toArray) 3))) :
    Oper.wp Try.prog { dst := dst, op := .buildSlice 40 n parts, type := ty, pos := pos, after := after, guard := guard } a w K Q := by
  obtain ⟨ie, hie, hz, hz1, hz2⟩ := info_parts int_info
  have hlen : parts.toList.length = n := by have := congrArg List.length hl; simpa using this
  refine wp_buildSlice (o := { dst := dst, op := .buildSlice 40 n parts, type := ty, pos := pos, after := after, guard := guard }) 40 3 n parts rfl _ ie (.int .i64 0) Try.underlying40 hie (by simpa using hz) (by rw [hz1]; omega) (by rw [hz1]; omega) ?_ h
  rw [Array.toList_map, parts_list a.eval _ n hl, hz1]
  exact Great.fill_flat _ _ (fun v hv' => by
    obtain ⟨p, hp, rfl⟩ := List.mem_map.1 hv'
    obtain ⟨k, e⟩ := hv p hp
    rw [e]; rfl) (by simp [hlen])

theorem op_sound {env : Nat → Option Ty} {av : Nat → Bool} {g : Nat} {v0 : Value} {a : Act} {w : World} {p : Int} {Q : Exit → Act → World → Prop} {o : Oper} {t : Ty}
    (hav : ∀ d, av d = true → ∀ t, env d = some t → Ty.T g v0 t (a.eval (.tmp d)) w) (hR : Rdr w g p) (hp : p ≤ 1000000) (h : opTy env av o.op t = true) :
    o.wp Try.prog a w (Next1 env g v0 o t p a w) Q := by
  obtain ⟨dst, op, ty, pos, after, guard⟩ := o
  have hlt := hR.lt
  cases op with
  | move x =>
    simp only [opTy] at h
    cases hx : tyOf env av x with
    | none => rw [hx] at h; cases h
    | some t' =>
      rw [hx] at h
      exact ⟨a.eval x, rfl, subT_T h (tyOf_T hav hx), World.grownBy.refl _ _, hR.mono (by omega)⟩
  | assign x =>
    simp only [opTy] at h
    cases hx : tyOf env av x with
    | none => rw [hx] at h; cases h
    | some t' =>
      rw [hx] at h
      exact ⟨a.eval x, rfl, subT_T h (tyOf_T hav hx), World.grownBy.refl _ _, hR.mono (by omega)⟩
  | load ty x =>
    simp only [opTy, Bool.and_eq_true, beq_iff_eq] at h
    obtain ⟨rfl, h⟩ := h
    cases hx : tyOf env av x with
    | none => rw [hx] at h; cases h
    | some t' =>
      rw [hx] at h
      cases t' <;> simp only at h <;> try (cases h; done)
      obtain ⟨b, o, k, e, hb, hc, h1, h2⟩ := tyOf_T hav hx
      unfold Oper.wp
      rw [run_load_ a.eval dst ty pos after guard w x e hc]
      exact ⟨.int .i64 k, rfl, subT_T h ⟨k, rfl, h1, h2⟩, World.grownBy.refl _ _, hR.mono (by omega)⟩
  | binOp bo ty x y t2 =>
    cases bo <;> simp only [opTy] at h <;> try (cases h; done)
    simp only [Bool.and_eq_true, beq_iff_eq] at h
    obtain ⟨rfl, h⟩ := h
    cases hx : tyOf env av x with
    | none => rw [hx] at h; cases h
    | some tx =>
      cases hy : tyOf env av y with
      | none => rw [hx, hy] at h; cases tx <;> cases h
      | some t' =>
        rw [hx, hy] at h
        cases tx <;> cases t' <;> simp only at h <;> try (cases h; done)
        simp only [Bool.and_eq_true, decide_eq_true_eq] at h
        obtain ⟨⟨⟨⟨hs, a0⟩, a1⟩, b0⟩, b1⟩ := h
        obtain ⟨i, ei, i0, i1⟩ := tyOf_T hav hx
        obtain ⟨j, ej, j0, j1⟩ := tyOf_T hav hy
        unfold Oper.wp
        rw [run_add_ a.eval dst _ pos after guard w x y t2 ei ej (by omega) (by omega)]
        exact ⟨.int .i64 (i + j), rfl, subT_T hs ⟨_, rfl, by omega, by omega⟩, World.grownBy.refl _ _, hR.mono (by omega)⟩
  | indexAddr ty x y =>
    simp only [opTy, Bool.and_eq_true, beq_iff_eq] at h
    obtain ⟨rfl, h⟩ := h
    cases hx : tyOf env av x with
    | none => rw [hx] at h; cases h
    | some tx =>
      cases hy : tyOf env av y with
      | none => rw [hx, hy] at h; cases tx <;> cases h
      | some t' =>
        rw [hx, hy] at h
        cases tx <;> cases t' <;> simp only at h <;> try (cases h; done)
        simp only [Bool.and_eq_true, decide_eq_true_eq, beq_iff_eq] at h
        obtain ⟨⟨a0, a1⟩, rfl⟩ := h
        obtain ⟨b, e, hb, hc⟩ := tyOf_T hav hx
        obtain ⟨j, ej, j0, j1⟩ := tyOf_T hav hy
        obtain ⟨k, hk, h1, h2⟩ := hc j.toNat (by omega)
        unfold Oper.wp
        rw [run_index_ a.eval dst _ pos after guard w x y e ej (by omega) (by omega)]
        exact ⟨_, rfl, ⟨b, j.toNat, k, rfl, hb, hk, h1, h2⟩, World.grownBy.refl _ _, hR.mono (by omega)⟩
  | buildSlice ty n parts =>
    simp only [opTy, Bool.and_eq_true, decide_eq_true_eq, beq_iff_eq] at h
    obtain ⟨⟨⟨⟨rfl, h0⟩, h1⟩, hl⟩, h⟩ := h
    cases t <;> simp only at h <;> try (cases h; done)
    rename_i m lo hi
    simp only [Bool.and_eq_true, beq_iff_eq, List.all_eq_true] at h
    obtain ⟨rfl, hall⟩ := h
    have hval : ∀ q ∈ parts.toList, ∃ k : Int, a.eval q.2 = .int .i64 k ∧ lo ≤ k ∧ k ≤ hi := by
      intro q hq
      have := hall q hq
      cases hx : tyOf env av q.2 with
      | none => rw [hx] at this; cases this
      | some t' =>
        rw [hx] at this
        exact subT_T this (tyOf_T hav hx)
    have hlen : parts.toList.length = m := by have := congrArg List.length hl; simpa using this
    refine wp_table m parts h0 h1 hl (fun q hq => by obtain ⟨k, e, _⟩ := hval q hq; exact ⟨k, e⟩) ?_
    refine ⟨_, rfl, ⟨w.heap.size, rfl, by omega, fun j hj => ?_⟩, World.grownBy_alloc w _ _, (hR.alloc _).mono (by omega)⟩
    obtain ⟨k, e, hk⟩ := hval (parts.toList[j]'(by omega)) (List.getElem_mem _)
    refine ⟨k, ?_, hk⟩
    have hj' : j < (parts.toList.map fun p => a.eval p.2).length := by simp only [List.length_map]; omega
    have := news_alloc w (parts.toList.map fun p => a.eval p.2) 3 j (.int .i64 k) (by rw [List.getElem?_eq_getElem hj', List.getElem_map]; exact congrArg some e)
    rwa [add_mid, Nat.zero_add] at this
  | call c =>
    obtain ⟨callee, args, ats⟩ := c
    simp only [opTy] at h
    cases callee with
    | builtin _ => cases h
    | invoke _ _ => cases h
    | value f0 =>
    cases f0 with
    | tmp _ => cases h
    | const _ => cases h
    | global _ => cases h
    | func f =>
    obtain ⟨l, hl⟩ : ∃ l, args.toList = l := ⟨_, rfl⟩
    rw [hl] at h
    rcases l with _ | ⟨x, _ | ⟨y, _ | ⟨_, _⟩⟩⟩
    · cases h
    · cases h
    rotate_left
    · cases h
    simp only [Bool.and_eq_true, beq_iff_eq] at h
    obtain ⟨⟨rfl, hx⟩, h⟩ := h
    have hargs : args = #[x, y] := by apply Array.toList_inj.1; simpa using hl
    subst hargs
    have hrd := tyOf_T hav hx
    cases hy : tyOf env av y with
    | none => rw [hy] at h; cases h
    | some t' =>
      rw [hy] at h
      cases t' <;> simp only at h <;> try (cases h; done)
      simp only [Bool.and_eq_true, beq_iff_eq, decide_eq_true_eq] at h
      obtain ⟨⟨⟨rfl, n1⟩, n2⟩, hs⟩ := h
      obtain ⟨k, ek, k0, k1⟩ := tyOf_T hav hy
      have hrd' : a.eval x = .pointer (some ⟨g, 0, none⟩) := hrd
      unfold Oper.wp
      rw [run_pick_ a.eval dst ty pos after guard w x y ats rfl hrd' ek, Oper.upon_enter]
      refine (pick_any g p k w hp (by omega) (by omega) hR).mono ?_
      rintro e w' ⟨j, rfl, j0, j1, _, hr', hg'⟩
      have := j1 (by omega)
      exact ⟨_, rfl, subT_T hs ⟨j, rfl, j0, by omega⟩, hg', hr'⟩
  | _ => simp [opTy] at h

/-- the operations whose end number k waits for -/
def waits (ops : Array Oper) (o : Oper) (d : Nat) : Bool := o.after.any (fun e => Region.binds .any e && ((ops[e.on]?).bind (·.dst)) == some d)
def opOK (ops : Array Oper) (env : Nat → Option Ty) (par : List Nat) (N k : Nat) : Bool :=
  match ops[k]? with
  | none => false
  | some o => o.guard == none && o.after.all (fun e => !Region.binds .any e || decide (e.on < k)) && match o.dst with
    | none => false
    | some d => decide (d < N) && !par.contains d && ((List.range ops.size).all fun j => j == k || ((ops[j]?).bind (·.dst)) != some d) && match env d with
      | none => false
      | some t => opTy env (fun x => par.contains x || waits ops o x) o.op t
def checkB (ops : Array Oper) (env : Nat → Option Ty) (par : List Nat) (N : Nat) : Bool := (List.range ops.size).all (opOK ops env par N)

theorem countP_lt {l : List Nat} {p q : Nat → Bool} (h : ∀ x ∈ l, q x = true → p x = true) {i : Nat} (hi : i ∈ l) (hp : p i = true) (hq : q i = false) : l.countP q < l.countP p := by
  induction l with
  | nil => cases hi
  | cons x r ih =>
    have hle : r.countP q ≤ r.countP p := List.countP_mono_left (fun y hy => h y (List.mem_cons_of_mem _ hy))
    simp only [List.countP_cons]
    rcases List.mem_cons.1 hi with rfl | hi
    · simp [hp, hq]; omega
    · have := ih (fun y hy => h y (List.mem_cons_of_mem _ hy)) hi
      by_cases hx : q x = true
      · simp [hx, h x List.mem_cons_self hx]; omega
      · simp [hx]; omega

/-- what holds between two operations -/
structure St (ops : Array Oper) (env : Nat → Option Ty) (par : List Nat) (N g : Nat) (v0 : Value) (W0 : World) (A0 : Act) (q : Int) (fuel : Nat) (listed : Array Bool) (a : Act) (w : World) : Prop where
  sizeL : listed.size = ops.size
  left : (List.range ops.size).countP (fun i => !listed.getD i true) ≤ fuel
  par : ∀ d, par.contains d = true → ∀ t, env d = some t → Ty.T g v0 t (a.eval (.tmp d)) w
  done : ∀ (j : Nat) (o : Oper) (d : Nat) (t : Ty), ops[j]? = some o → listed.getD j false = true → o.dst = some d → env d = some t → Ty.T g v0 t (a.eval (.tmp d)) w
  size : a.tmps.size = N
  defers : a.defers = A0.defers
  same : ∀ d, (∀ (j : Nat) (o : Oper), ops[j]? = some o → o.dst ≠ some d) → a.eval (.tmp d) = A0.eval (.tmp d)
  rdr : Rdr w g (q - fuel)
  grown : W0.grownBy w (some g)

theorem eval_put_same {a : Act} {d : Nat} {v : Value} (h : d < a.tmps.size) : (a.put (some d) v).eval (.tmp d) = v := by
  simp [Act.put, Act.eval, h]
theorem eval_put_ne {a : Act} {d e : Nat} {v : Value} (h : d ≠ e) : (a.put (some d) v).eval (.tmp e) = a.eval (.tmp e) := by
  simp [Act.put, Act.eval, h]

theorem opOK_parts {ops : Array Oper} {env : Nat → Option Ty} {par : List Nat} {N k : Nat} {o : Oper} (h : opOK ops env par N k = true) (ho : ops[k]? = some o) :
    o.guard = none ∧ (∀ e ∈ o.after, Region.binds .any e = true → e.on < k) ∧ ∃ d t, o.dst = some d ∧ d < N ∧ par.contains d = false ∧ (∀ j oj, ops[j]? = some oj → j ≠ k → oj.dst ≠ some d) ∧ env d = some t ∧ opTy env (fun x => par.contains x || waits ops o x) o.op t = true := by
  unfold opOK at h
  rw [ho] at h
  simp only [Bool.and_eq_true] at h
  obtain ⟨⟨h1, h2⟩, h3⟩ := h
  refine ⟨by simpa using h1, fun e he hb => ?_, ?_⟩
  · have := Array.all_eq_true_iff_forall_mem.1 h2 e he
    simpa [hb] using this
  · cases hd : o.dst with
    | none => rw [hd] at h3; cases h3
    | some d =>
      rw [hd] at h3
      simp only [Bool.and_eq_true, decide_eq_true_eq] at h3
      obtain ⟨⟨⟨h4, h5⟩, h6⟩, h7⟩ := h3
      cases ht : env d with
      | none => rw [ht] at h7; cases h7
      | some t =>
        rw [ht] at h7
        refine ⟨d, t, rfl, h4, by simpa using h5, fun j oj hj hne he => ?_, ht, h7⟩
        have hjs : j < ops.size := (Array.getElem?_eq_some_iff.1 hj).1
        have := (List.all_eq_true.1 h6) j (List.mem_range.2 hjs)
        rw [hj] at this
        simp [hne, he] at this

theorem st_step {ops : Array Oper} {env : Nat → Option Ty} {par : List Nat} {N g : Nat} {v0 : Value} {W0 : World} {A0 : Act} {q : Int} {fuel : Nat} {listed : Array Bool} {a : Act} {w : World} {Q : Exit → Act → World → Prop}
    (hB : checkB ops env par N = true) (hq : q ≤ 1000000) (h : St ops env par N g v0 W0 A0 q (fuel + 1) listed a w) (i : Nat) (hi : i ∈ Region.ready .any ops listed) :
    wpOp Try.prog ops Q i (fun a' w' => St ops env par N g v0 W0 A0 q fuel (listed.setIfInBounds i true) a' w') a w := by
  obtain ⟨hjun, o, ho, hall⟩ := mem_ready.1 hi
  have his : i < ops.size := (Array.getElem?_eq_some_iff.1 ho).1
  obtain ⟨hg, _, d, t, hd, hdN, hdp, hdu, ht, hop⟩ := opOK_parts (List.all_eq_true.1 hB i (List.mem_range.2 his)) ho
  have hil : i < listed.size := by rw [h.sizeL]; exact his
  unfold wpOp
  rw [ho]
  simp only [Region.wanted, hg, if_true]
  refine .inl (Oper.wp_mono (K := Next1 env g v0 o t (q - (fuel + 1 : Nat)) a w) (fun a' w' hn => ?_) (op_sound (fun x hx tx hex => ?_) h.rdr (by omega) hop))
  · obtain ⟨v, rfl, hv, hgr, hr⟩ := hn
    rw [hd]
    have hds : d < a.tmps.size := by rw [h.size]; exact hdN
    refine ⟨by simpa using h.sizeL, ?_, ?_, ?_, ?_, ?_, ?_, ?_, gb_trans h.grown hgr⟩
    · have h1 := countP_lt (l := List.range ops.size) (p := fun j => !listed.getD j true) (q := fun j => !(listed.setIfInBounds i true).getD j true) (fun x _ hx => by
        by_cases e : i = x
        · subst e; simp [hil] at hx
        · rw [getD_set_ne true e] at hx; exact hx) (List.mem_range.2 his) (by show (!listed.getD i true) = true; rw [hjun]; rfl) (by simp [hil])
      have := h.left
      omega
    · intro x hx tx hex
      have hne : d ≠ x := fun e => by subst e; rw [hdp] at hx; cases hx
      rw [eval_put_ne hne]
      exact Ty.grow (h.par x hx tx hex) hgr
    · intro j oj x tx hoj hlj hdj hex
      by_cases e : i = j
      · subst e
        rw [ho] at hoj; injection hoj with hoj; subst hoj
        rw [hd] at hdj; injection hdj with hdj; subst hdj
        rw [ht] at hex; injection hex with hex; subst hex
        rw [eval_put_same hds]
        exact hv
      · rw [getD_set_ne false e] at hlj
        have hne : d ≠ x := fun e2 => by subst e2; exact hdu j oj hoj (fun e3 => e e3.symm) hdj
        rw [eval_put_ne hne]
        exact Ty.grow (h.done j oj x tx hoj hlj hdj hex) hgr
    · simpa [Act.put] using h.size
    · simpa [Act.put] using h.defers
    · intro x hx
      rw [eval_put_ne (fun e => hx i o ho (by rw [hd, e]))]
      exact h.same x hx
    · have e : q - ((fuel + 1 : Nat) : Int) + 1 = q - (fuel : Int) := by omega
      rw [← e]; exact hr
  · simp only [Bool.or_eq_true] at hx
    rcases hx with hx | hx
    · exact h.par x hx tx hex
    · unfold waits at hx
      obtain ⟨ei, hei, h1⟩ := Array.any_eq_true.1 hx
      obtain ⟨e, he0⟩ : ∃ e, e = o.after[ei] := ⟨_, rfl⟩
      have he : e ∈ o.after := by rw [he0]; exact Array.getElem_mem hei
      rw [← he0] at h1
      simp only [Bool.and_eq_true, beq_iff_eq] at h1
      cases hoe : ops[e.on]? with
      | none => rw [hoe] at h1; simp at h1
      | some oe =>
        rw [hoe] at h1
        exact h.done e.on oe x tx hoe (hall e he h1.1) (by simpa using h1.2) hex

theorem st_done {ops : Array Oper} {env : Nat → Option Ty} {par : List Nat} {N g : Nat} {v0 : Value} {W0 : World} {A0 : Act} {q : Int} {fuel : Nat} {listed : Array Bool} {a : Act} {w : World}
    (hB : checkB ops env par N = true) (h : St ops env par N g v0 W0 A0 q fuel listed a w) (hr : Region.ready .any ops listed = []) : ∀ j, j < ops.size → listed.getD j false = true := by
  intro j
  induction j using Nat.strongRecOn with
  | ind j ih =>
    intro hj
    cases hl : listed.getD j false with
    | true => rfl
    | false =>
      exfalso
      have ho : ops[j]? = some ops[j] := Array.getElem?_eq_getElem hj
      obtain ⟨hg, hlow, _⟩ := opOK_parts (List.all_eq_true.1 hB j (List.mem_range.2 hj)) ho
      have : j ∈ Region.ready .any ops listed := mem_ready.2 ⟨by
        have hjl : j < listed.size := by rw [h.sizeL]; exact hj
        simp [Array.getD, hjl] at hl ⊢
        exact hl, _, ho, fun e he hb => ih e.on (hlow e he hb) (by have := hlow e he hb; omega)⟩
      rw [hr] at this
      cases this

theorem wpAny_typed {ops : Array Oper} {env : Nat → Option Ty} {par : List Nat} {N g : Nat} {v0 : Value} {W0 : World} {A0 : Act} {q : Int} {Q : Exit → Act → World → Prop}
    (hB : checkB ops env par N = true) (hq : q ≤ 1000000)
    (hQ : ∀ fuel listed a w, St ops env par N g v0 W0 A0 q fuel listed a w → (∀ j, j < ops.size → listed.getD j false = true) → Q .normal a w) :
    ∀ (fuel : Nat) (listed : Array Bool) (a : Act) (w : World), St ops env par N g v0 W0 A0 q fuel listed a w → wpAny Try.prog .any ops Q fuel listed a w := by
  intro fuel
  induction fuel with
  | zero =>
    intro listed a w h
    have hr : Region.ready .any ops listed = [] := by
      apply List.eq_nil_iff_forall_not_mem.2
      intro i hi
      obtain ⟨hjun, o, ho, _⟩ := mem_ready.1 hi
      have his : i < ops.size := (Array.getElem?_eq_some_iff.1 ho).1
      have := h.left
      have h2 : 0 < (List.range ops.size).countP (fun i => !listed.getD i true) := List.countP_pos_iff.2 ⟨i, List.mem_range.2 his, by show (!listed.getD i true) = true; rw [hjun]; rfl⟩
      omega
    exact ⟨hr, hQ _ _ _ _ h (st_done hB h hr)⟩
  | succ fuel ih =>
    intro listed a w h
    exact ⟨fun hr => hQ _ _ _ _ h (st_done hB h hr), fun i hi => wpOp_mono (fun a' w' hs => ih _ a' w' hs) (st_step hB hq h i hi)⟩

/-- what is known behind the region -/
structure After (ops : Array Oper) (env : Nat → Option Ty) (N g : Nat) (v0 : Value) (W0 : World) (A0 : Act) (q : Int) (a : Act) (w : World) : Prop where
  ty : ∀ (j : Nat) (o : Oper) (d : Nat) (t : Ty), ops[j]? = some o → o.dst = some d → env d = some t → Ty.T g v0 t (a.eval (.tmp d)) w
  size : a.tmps.size = N
  defers : a.defers = A0.defers
  same : ∀ d, (∀ (j : Nat) (o : Oper), ops[j]? = some o → o.dst ≠ some d) → a.eval (.tmp d) = A0.eval (.tmp d)
  rdr : Rdr w g q
  grown : W0.grownBy w (some g)

/-- A REGION WITH PICKS: ONE CHECK OF TYPES SERVES EVERY ORDER. -/
theorem wp_region_typed {id : Nat} {ops : Array Oper} {Q : Exit → Act → World → Prop} {a : Act} {w : World} (env : Nat → Option Ty) (par : List Nat) (N g : Nat) (v0 : Value) (p : Int)
    (hm : Try.prog.follows .mixedOrders = true) (hB : checkB ops env par N = true) (hN : a.tmps.size = N)
    (hpar : ∀ d, par.contains d = true → ∀ t, env d = some t → Ty.T g v0 t (a.eval (.tmp d)) w) (hR : Rdr w g p) (hp : p + ops.size ≤ 1000000)
    (hQ : ∀ a' w', After ops env N g v0 w a (p + ops.size) a' w' → Q .normal a' w') : (Code.region id ops true).wp Try.prog Q a w := by
  have hgd : w.grownBy { w with drawn := w.drawn + 1 } (some g) := ⟨rfl, rfl, rfl, Nat.le_refl _, fun _ _ _ => rfl⟩
  refine wp_region_any hm (wpAny_typed (W0 := w) (A0 := a) (q := p + ops.size) (g := g) (v0 := v0) hB hp (fun fuel listed a' w' h hall => hQ a' w' ⟨fun j o d t ho hd ht => h.done j o d t ho (hall j (Array.getElem?_eq_some_iff.1 ho).1) hd ht, h.size, h.defers, h.same, h.rdr.mono (by omega), h.grown⟩) _ _ _ _ ?_)
  refine ⟨by simp, ?_, fun d hd t ht => Ty.grow (hpar d hd t ht) hgd, fun j o d t ho hl => ?_, hN, rfl, fun _ _ => rfl, ?_, hgd⟩
  · exact Nat.le_trans List.countP_le_length (by simp)
  · exfalso
    have hj := (Array.getElem?_eq_some_iff.1 ho).1
    simp [Array.getD, hj] at hl
  · have e : p + (ops.size : Int) - (ops.size : Int) = p := by omega
    rw [e]
    exact hR.keep (fun _ _ => rfl)

/-- a pick, at a step of a region that draws its order -/
theorem step_pick_ {ops : Array Oper} {o : Oper} {a : Act} {w : World} {K : Act → World → Prop} {Q : Exit → Act → World → Prop} {E : Prop} (hw : Region.wanted o (yielded ops a.tmps) = true) (x y : Operand) (ats : Array TypeId)
    (ho : o.op = .call { callee := .value (.func 51), args := #[x, y], argTypes := ats }) (g : Nat) (p n : Int) (hx : a.eval x = .pointer (some ⟨g, 0, none⟩)) (hy : a.eval y = .int .i64 n) (hp : p ≤ 1000000) (hn1 : 1 ≤ n) (hn : n ≤ 1000000) (hR : Rdr w g p)
    (h : ∀ (k : Int) (w' : World), 0 ≤ k → k < n → Rdr w' g (p + 1) → w.grownBy w' (some g) → K (a.put o.dst (.int .i64 k)) w') :
    if Region.wanted o (yielded ops a.tmps) = true then Oper.wp Try.prog o a w K Q else E := by
  rw [if_pos hw]
  clear hw
  obtain ⟨dst, op, ty, pos, after, guard⟩ := o
  simp only at ho
  subst ho
  unfold Oper.wp
  rw [run_pick_ a.eval dst ty pos after guard w x y ats rfl hx hy, Oper.upon_enter]
  refine (pick_any g p n w hp (by omega) hn hR).mono ?_
  rintro e w' ⟨k, rfl, k0, k1, _, hr', hg'⟩
  exact h k w' k0 (k1 hn1) hr' hg'
end Go.Proofs.Ytejnieoneknbbaa
