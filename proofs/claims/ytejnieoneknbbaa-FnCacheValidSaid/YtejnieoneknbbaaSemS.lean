/-
  Regions that draw their order, pick from a reader and store into a box: what each operation does, said once, serves every order.
-/
import Derived.Test.YtejnieoneknbbaaCkD
import Derived.Test.YtejnieoneknbbaaSemT
namespace Go.Proofs.Ytejnieoneknbbaa
open Go.ChangeShapes Go.WideShapes Go.ChangeAt Go.RowKit Go.BigFrame

def semOKs (ops : Array Oper) (par : List Nat) (N : Nat) (k : Nat) : Bool :=
  match ops[k]? with
  | none => false
  | some o => o.after.all (fun e => !Region.binds .any e || decide (e.on < k)) &&
    (match o.dst with
      | none => true
      | some d => decide (d < N) && !par.contains d && ((List.range ops.size).all fun j => j == k || ((ops[j]?).bind (·.dst)) != some d))
def semBs (ops : Array Oper) (par : List Nat) (N : Nat) : Bool := (List.range ops.size).all (semOKs ops par N)

/-- predicates with a note on operations without slot -/
structure SemU extends Sem where
  U : Nat → World → Prop
  keep : ∀ j w w', U j w → R w w' → U j w'

section
variable (M : SemU) (P : Program) (ops : Array Oper) (par : List Nat) (N : Nat) (W0 : World) (A0 : Act) (Q : Exit → Act → World → Prop)

def SemNextS (k : Nat) (o : Oper) (j : Nat) (a : Act) (w : World) (a' : Act) (w' : World) : Prop :=
  ∃ v, a' = a.put o.dst v ∧ (∀ d, o.dst = some d → M.T d v w') ∧ (o.dst = none → M.U k w') ∧ M.R w w' ∧ M.S (j + 1) w'
def SemOpS (k : Nat) (o : Oper) : Prop :=
  ∀ (j : Nat) (a : Act) (w : World), j < ops.size → (∀ d, semAv ops par o d = true → M.T d (a.eval (.tmp d)) w) → M.S j w → M.R W0 w →
    wpOp P ops Q k (SemNextS M k o j a w) a w

structure SemAfterS (a : Act) (w : World) : Prop where
  ty : ∀ (j : Nat) (o : Oper) (d : Nat), ops[j]? = some o → o.dst = some d → M.T d (a.eval (.tmp d)) w
  un : ∀ (j : Nat) (o : Oper), ops[j]? = some o → o.dst = none → M.U j w
  par : ∀ d, par.contains d = true → M.T d (a.eval (.tmp d)) w
  size : a.tmps.size = N
  defers : a.defers = A0.defers
  same : ∀ d, (∀ (j : Nat) (o : Oper), ops[j]? = some o → o.dst ≠ some d) → a.eval (.tmp d) = A0.eval (.tmp d)
  s : M.S ops.size w
  r : M.R W0 w

structure SemStS (fuel : Nat) (listed : Array Bool) (a : Act) (w : World) : Prop where
  sizeL : listed.size = ops.size
  left : (List.range ops.size).countP (fun i => !listed.getD i true) ≤ fuel
  par : ∀ d, par.contains d = true → M.T d (a.eval (.tmp d)) w
  done : ∀ (j : Nat) (o : Oper) (d : Nat), ops[j]? = some o → listed.getD j false = true → o.dst = some d → M.T d (a.eval (.tmp d)) w
  un : ∀ (j : Nat) (o : Oper), ops[j]? = some o → listed.getD j false = true → o.dst = none → M.U j w
  size : a.tmps.size = N
  defers : a.defers = A0.defers
  same : ∀ d, (∀ (j : Nat) (o : Oper), ops[j]? = some o → o.dst ≠ some d) → a.eval (.tmp d) = A0.eval (.tmp d)
  s : ∃ j, j + fuel ≤ ops.size ∧ M.S j w
  r : M.R W0 w
end

section
variable {M : SemU} {P : Program} {ops : Array Oper} {par : List Nat} {N : Nat} {W0 : World} {A0 : Act} {Q : Exit → Act → World → Prop}

theorem semOKs_low {k : Nat} {o : Oper} (h : semOKs ops par N k = true) (ho : ops[k]? = some o) : ∀ e ∈ o.after, Region.binds .any e = true → e.on < k := by
  unfold semOKs at h
  rw [ho] at h
  simp only [Bool.and_eq_true] at h
  intro e he hb
  have := Array.all_eq_true_iff_forall_mem.1 h.1 e he
  simpa [hb] using this
theorem semOKs_parts {k d : Nat} {o : Oper} (h : semOKs ops par N k = true) (ho : ops[k]? = some o) (hd : o.dst = some d) :
    d < N ∧ par.contains d = false ∧ ∀ j oj, ops[j]? = some oj → j ≠ k → oj.dst ≠ some d := by
  unfold semOKs at h
  rw [ho] at h
  simp only [Bool.and_eq_true, hd, decide_eq_true_eq] at h
  obtain ⟨-, ⟨h4, h5⟩, h6⟩ := h
  refine ⟨h4, by simpa using h5, fun j oj hj hne he => ?_⟩
  have hjs : j < ops.size := (Array.getElem?_eq_some_iff.1 hj).1
  have := (List.all_eq_true.1 h6) j (List.mem_range.2 hjs)
  rw [hj] at this
  simp [hne, he] at this

theorem semS_step {fuel : Nat} {listed : Array Bool} {a : Act} {w : World} (hB : semBs ops par N = true) (hop : ∀ k o, ops[k]? = some o → SemOpS M P ops par W0 Q k o)
    (h : SemStS M ops par N W0 A0 (fuel + 1) listed a w) (i : Nat) (hi : i ∈ Region.ready .any ops listed) :
    wpOp P ops Q i (fun a' w' => SemStS M ops par N W0 A0 fuel (listed.setIfInBounds i true) a' w') a w := by
  obtain ⟨hjun, o, ho, hall⟩ := mem_ready.1 hi
  have his : i < ops.size := (Array.getElem?_eq_some_iff.1 ho).1
  have hok := List.all_eq_true.1 hB i (List.mem_range.2 his)
  have hil : i < listed.size := by rw [h.sizeL]; exact his
  obtain ⟨j, hj, hS⟩ := h.s
  have hop' := hop i o ho j a w (by omega) (fun x hx => ?_) hS h.r
  · refine wpOp_mono (fun a' w' hn => ?_) hop'
    obtain ⟨v, rfl, hv, hu, hgr, hs'⟩ := hn
    have hleft : (List.range ops.size).countP (fun k => !(listed.setIfInBounds i true).getD k true) ≤ fuel := by
      have h1 := sem_countP_lt (l := List.range ops.size) (p := fun j => !listed.getD j true) (q := fun j => !(listed.setIfInBounds i true).getD j true) (fun x _ hx => by
        by_cases e : i = x
        · subst e; simp [hil] at hx
        · rw [getD_set_ne true e] at hx; exact hx) (List.mem_range.2 his) (by show (!listed.getD i true) = true; rw [hjun]; rfl) (by simp [hil])
      have := h.left
      omega
    have hun : ∀ (k : Nat) (ok : Oper), ops[k]? = some ok → (listed.setIfInBounds i true).getD k false = true → ok.dst = none → M.U k w' := by
      intro k ok hok' hlk hdk
      by_cases e : i = k
      · subst e
        rw [ho] at hok'; injection hok' with hok'; subst hok'
        exact hu hdk
      · rw [getD_set_ne false e] at hlk
        exact M.keep _ _ _ (h.un k ok hok' hlk hdk) hgr
    cases hd : o.dst with
    | none =>
      refine ⟨by simpa using h.sizeL, hleft, fun x hx => M.stay _ _ _ _ (h.par x hx) hgr, ?_, hun, h.size, h.defers, h.same, ⟨j + 1, by omega, hs'⟩, M.trans h.r hgr⟩
      intro k ok x hok' hlk hdk
      by_cases e : i = k
      · subst e
        rw [ho] at hok'; injection hok' with hok'; subst hok'
        rw [hd] at hdk; cases hdk
      · rw [getD_set_ne false e] at hlk
        exact M.stay _ _ _ _ (h.done k ok x hok' hlk hdk) hgr
    | some d =>
      obtain ⟨hdN, hdp, hdu⟩ := semOKs_parts hok ho hd
      have hds : d < a.tmps.size := by rw [h.size]; exact hdN
      have hvd := hv d hd
      refine ⟨by simpa using h.sizeL, hleft, ?_, ?_, hun, ?_, ?_, ?_, ⟨j + 1, by omega, hs'⟩, M.trans h.r hgr⟩
      · intro x hx
        have hne : d ≠ x := fun e => by subst e; rw [hdp] at hx; cases hx
        rw [sem_put_ne hne]
        exact M.stay _ _ _ _ (h.par x hx) hgr
      · intro k ok x hok' hlk hdk
        by_cases e : i = k
        · subst e
          rw [ho] at hok'; injection hok' with hok'; subst hok'
          rw [hd] at hdk; injection hdk with hdk; subst hdk
          rw [sem_put_same hds]
          exact hvd
        · rw [getD_set_ne false e] at hlk
          have hne : d ≠ x := fun e2 => by subst e2; exact hdu k ok hok' (fun e3 => e e3.symm) hdk
          rw [sem_put_ne hne]
          exact M.stay _ _ _ _ (h.done k ok x hok' hlk hdk) hgr
      · simpa [Act.put] using h.size
      · simpa [Act.put] using h.defers
      · intro x hx
        rw [sem_put_ne (fun e => hx i o ho (by rw [hd, e]))]
        exact h.same x hx
  · unfold semAv at hx
    simp only [Bool.or_eq_true] at hx
    rcases hx with hx | hx
    · exact h.par x hx
    · obtain ⟨ei, hei, h1⟩ := Array.any_eq_true.1 hx
      simp only [Bool.and_eq_true, beq_iff_eq] at h1
      cases hoe : ops[o.after[ei].on]? with
      | none => rw [hoe] at h1; simp at h1
      | some oe =>
        rw [hoe] at h1
        exact h.done _ oe x hoe (hall _ (Array.getElem_mem hei) h1.1) (by simpa using h1.2)

theorem semS_done {fuel : Nat} {listed : Array Bool} {a : Act} {w : World} (hB : semBs ops par N = true) (h : SemStS M ops par N W0 A0 fuel listed a w) (hr : Region.ready .any ops listed = []) : ∀ j, j < ops.size → listed.getD j false = true := by
  intro j
  induction j using Nat.strongRecOn with
  | ind j ih =>
    intro hj
    cases hl : listed.getD j false with
    | true => rfl
    | false =>
      exfalso
      have ho : ops[j]? = some ops[j] := Array.getElem?_eq_getElem hj
      have hlow := semOKs_low (List.all_eq_true.1 hB j (List.mem_range.2 hj)) ho
      have : j ∈ Region.ready .any ops listed := mem_ready.2 ⟨by
        have hjl : j < listed.size := by rw [h.sizeL]; exact hj
        simp [Array.getD, hjl] at hl ⊢
        exact hl, _, ho, fun e he hb => ih e.on (hlow e he hb) (by have := hlow e he hb; omega)⟩
      rw [hr] at this
      cases this

theorem wpAny_semS (hB : semBs ops par N = true) (hop : ∀ k o, ops[k]? = some o → SemOpS M P ops par W0 Q k o)
    (hQ : ∀ a w, SemAfterS M ops par N W0 A0 a w → Q .normal a w) :
    ∀ (fuel : Nat) (listed : Array Bool) (a : Act) (w : World), SemStS M ops par N W0 A0 fuel listed a w → wpAny P .any ops Q fuel listed a w := by
  have fin : ∀ fuel listed a w, SemStS M ops par N W0 A0 fuel listed a w → Region.ready .any ops listed = [] → Q .normal a w := by
    intro fuel listed a w h hr
    have hall := semS_done hB h hr
    obtain ⟨j, hj, hS⟩ := h.s
    exact hQ a w ⟨fun j o d ho hd => h.done j o d ho (hall j (Array.getElem?_eq_some_iff.1 ho).1) hd, fun j o ho hd => h.un j o ho (hall j (Array.getElem?_eq_some_iff.1 ho).1) hd, h.par, h.size, h.defers, h.same, sem_more hS (by omega), h.r⟩
  intro fuel
  induction fuel with
  | zero =>
    intro listed a w h
    have hr : Region.ready .any ops listed = [] := by
      apply List.eq_nil_iff_forall_not_mem.2
      intro i hi
      obtain ⟨hjun, o, ho, _⟩ := mem_ready.1 hi
      have his : i < ops.size := (Array.getElem?_eq_some_iff.1 ho).1
      have := h.left
      have h2 : 0 < (List.range ops.size).countP (fun i => !listed.getD i true) := List.countP_pos_iff.2 ⟨i, List.mem_range.2 his, by show (!listed.getD i true) = true; rw [hjun]; rfl⟩
      omega
    exact ⟨hr, fin _ _ _ _ h hr⟩
  | succ fuel ih =>
    intro listed a w h
    exact ⟨fun hr => fin _ _ _ _ h hr, fun i hi => wpOp_mono (fun a' w' hs => ih _ a' w' hs) (semS_step hB hop h i hi)⟩

/-- the operations, one behind the other -/
def SemAllS (M : SemU) (P : Program) (ops : Array Oper) (par : List Nat) (W0 : World) (Q : Exit → Act → World → Prop) : List Oper → Nat → Prop
  | [], _ => True
  | o :: r, k => SemOpS M P ops par W0 Q k o ∧ SemAllS M P ops par W0 Q r (k + 1)
theorem semAllS_get : ∀ (l : List Oper) (k0 : Nat), SemAllS M P ops par W0 Q l k0 → ∀ i o, l[i]? = some o → SemOpS M P ops par W0 Q (k0 + i) o := by
  intro l
  induction l with
  | nil => intro k0 _ i o h; simp at h
  | cons x r ih =>
    intro k0 h i o ho
    cases i with
    | zero => simp at ho; subst ho; exact h.1
    | succ i =>
      have := ih (k0 + 1) h.2 i o (by simpa using ho)
      rwa [show k0 + 1 + i = k0 + (i + 1) by omega] at this

theorem wp_region_semS {id : Nat} {a : Act} {w : World} {l : List Oper} (M : SemU) (par : List Nat) (N : Nat) (hm : P.follows .mixedOrders = true) (hB : semBs l.toArray par N = true) (hN : a.tmps.size = N)
    (hpar : ∀ d, par.contains d = true → M.T d (a.eval (.tmp d)) w.drew) (hS : M.S 0 w.drew)
    (hop : SemAllS M P l.toArray par w.drew Q l 0)
    (hQ : ∀ a' w', SemAfterS M l.toArray par N w.drew a a' w' → Q .normal a' w') : (Code.region id l.toArray true).wp P Q a w := by
  refine wp_region_any hm (wpAny_semS (M := M) (par := par) (N := N) (W0 := w.drew) (A0 := a) hB (fun k o ho => ?_) hQ _ _ _ _ ?_)
  · have := semAllS_get l 0 hop k o (by simpa using ho)
    rwa [Nat.zero_add] at this
  · refine ⟨by simp, ?_, hpar, fun j o d ho hl => ?_, fun j o ho hl => ?_, hN, rfl, fun _ _ => rfl, ⟨0, by simp, hS⟩, M.refl _⟩
    · exact Nat.le_trans List.countP_le_length (by simp)
    · rw [getD_replicate_false] at hl; cases hl
    · rw [getD_replicate_false] at hl; cases hl

/-- the slots that are written, one by one -/
theorem SemAfterS.ex {a : Act} {w : World} (h : SemAfterS M ops par N W0 A0 a w) (hN : A0.tmps.size = N) (ds : List Nat) (hd : dstsB ops ops.size ds = true) : SemEx M.toSem w a ds A0 := by
  unfold dstsB at hd
  simp only [Bool.and_eq_true, List.all_eq_true] at hd
  refine sem_ex w a ds A0 (by rw [h.size, hN]) h.defers (fun d hm => ?_) (fun d hm => h.same d (fun j o ho he => ?_))
  · have := hd.2 d hm
    obtain ⟨j, hj, hj2⟩ := List.any_eq_true.1 this
    cases ho : ops[j]? with
    | none => rw [ho] at hj2; simp at hj2
    | some o =>
      rw [ho] at hj2
      exact h.ty j o d ho (by simpa using hj2)
  · have := hd.1 j (List.mem_range.2 (Array.getElem?_eq_some_iff.1 ho).1)
    rw [ho] at this
    simp [he] at this
    exact hm this
end

/-- what a slot holds: a fixed value; some number -/
inductive SZ
  | val (u : Value)
  | int (lo hi : Int)
def SZ.P (t : SZ) (v : Value) : Prop :=
  match t with
  | .val u => v = u
  | .int lo hi => ∃ k : Int, v = .int .i64 k ∧ lo ≤ k ∧ k ≤ hi
/-- all blocks but two are as they were, and a full box stays full -/
def RBx (g β : Nat) (v : Value) (m : Int) (w w' : World) : Prop :=
  w'.os = w.os ∧ w'.tape = w.tape ∧ w'.output = w.output ∧ w.heap.size ≤ w'.heap.size ∧ (∀ b, b < w.heap.size → b ≠ g → b ≠ β → w'.heap[b]? = w.heap[b]?) ∧ (OutBox w β v m → OutBox w' β v m)
theorem RBx.refl (g β : Nat) (v : Value) (m : Int) (w : World) : RBx g β v m w w := ⟨rfl, rfl, rfl, Nat.le_refl _, fun _ _ _ _ => rfl, id⟩
theorem RBx.trans {g β : Nat} {v : Value} {m : Int} {a b c : World} (h : RBx g β v m a b) (k : RBx g β v m b c) : RBx g β v m a c :=
  ⟨k.1.trans h.1, k.2.1.trans h.2.1, k.2.2.1.trans h.2.2.1, Nat.le_trans h.2.2.2.1 k.2.2.2.1,
    fun x hx h1 h2 => (k.2.2.2.2.1 x (Nat.lt_of_lt_of_le hx h.2.2.2.1) h1 h2).trans (h.2.2.2.2.1 x hx h1 h2), fun q => k.2.2.2.2.2 (h.2.2.2.2.2 q)⟩
/-- picks at reader g from place p on; a box at β that is filled once -/
def semS (g : Nat) (p : Int) (β : Nat) (v : Value) (m : Int) (env : Nat → SZ) : SemU where
  T d u _ := SZ.P (env d) u
  R := RBx g β v m
  S n w := Rdr w g (p + n) ∧ ∃ A n c k, OutBox w β (.slice A n c) k
  U _ w := OutBox w β v m
  refl := RBx.refl g β v m
  trans h k := h.trans k
  stay _ _ _ _ h _ := h
  more h := ⟨h.1.mono (by omega), h.2⟩
  keep _ _ _ h k := k.2.2.2.2.2 h

section
variable {g β : Nat} {p : Int} {v : Value} {m : Int} {env : Nat → SZ} {ops : Array Oper} {par : List Nat} {W0 : World} {Q : Exit → Act → World → Prop} {k d : Nat} {ty : TypeId} {pos : String} {after : Array Edge}

theorem hops_go {o : Oper} (hk : ops[k]? = some o) (hg : o.guard = none)
    (h : ∀ (j : Nat) (a : Act) (w : World), j < ops.size → (∀ e, semAv ops par o e = true → SZ.P (env e) (a.eval (.tmp e))) → Rdr w g (p + j) → (∃ A n c k, OutBox w β (.slice A n c) k) → RBx g β v m W0 w →
      Oper.wp Try.prog o a w (SemNextS (semS g p β v m env) k o j a w) Q) : SemOpS (semS g p β v m env) Try.prog ops par W0 Q k o := by
  intro j a w hj hav hS hR
  unfold wpOp
  rw [hk]
  simp only [Region.wanted, hg, if_true]
  exact .inl (h j a w hj hav hS.1 hS.2 hR)
/-- an operation that yields a value and leaves the world -/
theorem hops_run {o : Oper} (hk : ops[k]? = some o) (hg : o.guard = none) (hd : o.dst = some d)
    (h : ∀ (a : Act) (w : World), (∀ e, semAv ops par o e = true → SZ.P (env e) (a.eval (.tmp e))) → RBx g β v m W0 w → ∃ u, (execOp a.eval o).run Try.prog w = .ok (.value u) w ∧ SZ.P (env d) u) : SemOpS (semS g p β v m env) Try.prog ops par W0 Q k o := by
  refine hops_go hk hg fun j a w _ hav hS hX hR => ?_
  obtain ⟨u, hv, hT⟩ := h a w hav hR
  unfold Oper.wp
  rw [hv]
  exact ⟨u, rfl, fun e he => by rw [hd] at he; injection he with he; subst he; exact hT, fun e => by rw [hd] at e; (cases e), RBx.refl _ _ _ _ _, hS.mono (by omega), hX⟩
theorem hops_move (x : Operand) (hk : ops[k]? = some { dst := some d, op := .move x, type := ty, pos := pos, after := after, guard := none })
    (hx : ∀ (a : Act), (∀ e, semAv ops par { dst := some d, op := .move x, type := ty, pos := pos, after := after, guard := none } e = true → SZ.P (env e) (a.eval (.tmp e))) → SZ.P (env d) (a.eval x)) :
    SemOpS (semS g p β v m env) Try.prog ops par W0 Q k { dst := some d, op := .move x, type := ty, pos := pos, after := after, guard := none } :=
  hops_run hk rfl rfl fun a _ hav _ => ⟨a.eval x, rfl, hx a hav⟩
theorem hops_assign (x : Operand) (hk : ops[k]? = some { dst := some d, op := .assign x, type := ty, pos := pos, after := after, guard := none })
    (hx : ∀ (a : Act), (∀ e, semAv ops par { dst := some d, op := .assign x, type := ty, pos := pos, after := after, guard := none } e = true → SZ.P (env e) (a.eval (.tmp e))) → SZ.P (env d) (a.eval x)) :
    SemOpS (semS g p β v m env) Try.prog ops par W0 Q k { dst := some d, op := .assign x, type := ty, pos := pos, after := after, guard := none } :=
  hops_run hk rfl rfl fun a _ hav _ => ⟨a.eval x, rfl, hx a hav⟩
theorem hops_pick (x y : Operand) (ats : Array TypeId) (N : Int) (_ : 0 ≤ p) (hp : p + ops.size ≤ 1000000) (hN0 : 0 < N) (hN : N ≤ 1000000) (hgβ : g ≠ β)
    (hk : ops[k]? = some { dst := some d, op := .call { callee := .value (.func 51), args := #[x, y], argTypes := ats }, type := ty, pos := pos, after := after, guard := none })
    (hx : ∀ (a : Act), (∀ e, semAv ops par { dst := some d, op := .call { callee := .value (.func 51), args := #[x, y], argTypes := ats }, type := ty, pos := pos, after := after, guard := none } e = true → SZ.P (env e) (a.eval (.tmp e))) → a.eval x = .pointer (some ⟨g, 0, none⟩) ∧ a.eval y = .int .i64 N)
    (he : env d = .int 0 (N - 1)) :
    SemOpS (semS g p β v m env) Try.prog ops par W0 Q k { dst := some d, op := .call { callee := .value (.func 51), args := #[x, y], argTypes := ats }, type := ty, pos := pos, after := after, guard := none } := by
  refine hops_go hk rfl fun j a w hj hav hS hX hR => ?_
  obtain ⟨h1, h2⟩ := hx a hav
  unfold Oper.wp
  rw [run_pick_ a.eval (some d) ty pos after none w x y ats rfl h1 h2, Oper.upon_enter]
  refine (pick_any g (p + j) N _ (by omega) (by omega) hN hS).mono ?_
  rintro e w' ⟨q, rfl, q0, q1, -, hr, hg⟩
  have hs := hg.size
  have hbx : ∀ {u : Value} {c : Int}, OutBox w β u c → OutBox w' β u c := fun h => OutBox.block h (hg.block β h.lt (by simpa using fun e => hgβ e.symm))
  refine ⟨.int .i64 q, rfl, fun e he2 => ?_, (fun e => by cases e), ⟨hg.os, hg.tape, hg.output, hs, fun b hb h1 _ => hg.block b hb (by simpa using h1), hbx⟩, hr.mono (by omega), ?_⟩
  · injection he2 with he2
    subst he2
    show SZ.P (env d) _
    rw [he]
    exact ⟨q, rfl, q0, by have := q1 (by omega); omega⟩
  · obtain ⟨A, n, c, x, h⟩ := hX
    exact ⟨A, n, c, x, hbx h⟩
/-- a box of a cache is no reader and holds no bytes -/
theorem Rdr.setBox {w : World} {g β o : Nat} {p : Int} {A : Option Addr} {n c : Nat} {x : Int} {u : Value} (h : Rdr w g p) (hX : OutBox w β (.slice A n c) x) (hne : g ≠ β) : Rdr (w.setCell ⟨β, o, none⟩ u) g p := by
  obtain ⟨q, hq, A', n', c', h1, h2, h3, h4⟩ := h
  refine ⟨q, hq, A', n', c', (Below.heap_setCell _ _ _ _ hne).trans h1, h2, h3, fun hn => ?_⟩
  obtain ⟨b, o', e, hlt, hc⟩ := h4 hn
  have hb : b ≠ β := fun e => by
    subst e
    obtain ⟨z, _, _, hz⟩ := hc 0 hn
    unfold OutBox at hX
    unfold World.cell? at hz
    simp [hX] at hz
    rcases o' with _ | _ | o' <;> simp at hz
  refine ⟨b, o', e, hlt, fun j hj => ?_⟩
  obtain ⟨z, z0, z1, hz⟩ := hc j hj
  exact ⟨z, z0, z1, (World.cell?_of_block (w := w) (Below.heap_setCell _ _ _ _ hb)).trans hz⟩
theorem OutBox.store {w : World} {b : Nat} {u v0 : Value} {c c0 : Int} (h : OutBox w b u c) : OutBox ((w.setCell ⟨b, 0, none⟩ v0).setCell ⟨b, 1, none⟩ (.int .i64 c0)) b v0 c0 := by
  unfold OutBox at *
  simp [World.setCell, Array.getElem?_modify, h]
theorem run_st2 (ρ : Operand → Value) (w : World) (x y : Operand) {A : Option Addr} {n c : Nat} {u : Value} {m k : Int} (e1 : ρ x = .pointer (some ⟨β, 0, none⟩)) (e2 : ρ y = .agg #[.slice A n c, .int .i64 m]) (hX : OutBox w β u k) :
    (execOp ρ { dst := none, op := .store 29 x y, type := ty, pos := pos, after := after, guard := none }).run Try.prog w = .ok .skip ((w.setCell ⟨β, 0, none⟩ (.slice A n c)).setCell ⟨β, 1, none⟩ (.int .i64 m)) := by
  have u0 := hX.c0
  have u1 := hX.c1
  have u2 := hX.f (o := 0)
  have u3 := hX.f (o := 1)
  simp [execOp, e1, e2, go_sem, u0, u1, u2, u3]
/-- the store -/
theorem hops_store {A : Option Addr} {n c : Nat} (x y : Operand) (hgβ : g ≠ β) (hvs : v = .slice A n c)
    (hk : ops[k]? = some { dst := none, op := .store 29 x y, type := ty, pos := pos, after := after, guard := none })
    (hx : ∀ (a : Act), (∀ e, semAv ops par { dst := none, op := .store 29 x y, type := ty, pos := pos, after := after, guard := none } e = true → SZ.P (env e) (a.eval (.tmp e))) → a.eval x = .pointer (some ⟨β, 0, none⟩) ∧ a.eval y = .agg #[v, .int .i64 m]) :
    SemOpS (semS g p β v m env) Try.prog ops par W0 Q k { dst := none, op := .store 29 x y, type := ty, pos := pos, after := after, guard := none } := by
  refine hops_go hk rfl fun j a w hj hav hS hX hR => ?_
  obtain ⟨h1, h2⟩ := hx a hav
  subst hvs
  obtain ⟨A0, n0, c0, x0, hX⟩ := hX
  unfold Oper.wp
  rw [run_st2 a.eval w x y h1 h2 hX]
  have hst : OutBox ((w.setCell ⟨β, 0, none⟩ (.slice A n c)).setCell ⟨β, 1, none⟩ (.int .i64 m)) β (.slice A n c) m := hX.store
  refine ⟨undef, rfl, (fun e he => by cases he), fun _ => hst, ⟨rfl, rfl, rfl, by simp, fun b hb _ hbβ => ?_, fun _ => hst⟩, ((hS.mono (by omega)).setBox hX hgβ).setBox (hX.set _) hgβ, A, n, c, m, hst⟩
  rw [Below.heap_setCell _ _ _ _ hbβ, Below.heap_setCell _ _ _ _ hbβ]
end
end Go.Proofs.Ytejnieoneknbbaa
