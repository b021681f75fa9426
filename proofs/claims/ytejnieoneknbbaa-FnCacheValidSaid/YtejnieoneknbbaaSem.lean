/-
  Regions that draw their order: what each operation does, said once, serves every order. A slot's content is told by a predicate that stays true as the world grows.
-/
import Derived.Test.YtejnieoneknbbaaBase
import Derived.Orders
import Derived.BigFrame
namespace Go.Proofs.Ytejnieoneknbbaa
open Go.ChangeShapes Go.WideShapes Go.ChangeAt Go.RowKit Go.BigFrame

/-- slot d is laid when operation o comes up -/
def semAv (ops : Array Oper) (par : List Nat) (o : Oper) (d : Nat) : Bool := par.contains d || o.after.any (fun e => Region.binds .any e && ((ops[e.on]?).bind (·.dst)) == some d)
def semOK (ops : Array Oper) (par : List Nat) (N : Nat) (lst : Bool) (k : Nat) : Bool :=
  match ops[k]? with
  | none => false
  | some o => o.after.all (fun e => !Region.binds .any e || decide (e.on < k)) &&
    (if lst && k + 1 == ops.size then (List.range k).all (fun j => o.after.any fun e => Region.binds .any e && e.on == j)
     else match o.dst with
      | none => false
      | some d => decide (d < N) && !par.contains d && ((List.range ops.size).all fun j => j == k || ((ops[j]?).bind (·.dst)) != some d))
def semB (ops : Array Oper) (par : List Nat) (N : Nat) (lst : Bool) : Bool := (List.range ops.size).all (semOK ops par N lst)

theorem sem_countP_lt {l : List Nat} {p q : Nat → Bool} (h : ∀ x ∈ l, q x = true → p x = true) {i : Nat} (hi : i ∈ l) (hp : p i = true) (hq : q i = false) : l.countP q < l.countP p := by
  induction l with
  | nil => cases hi
  | cons x r ih =>
    have hle : r.countP q ≤ r.countP p := List.countP_mono_left (fun y hy => h y (List.mem_cons_of_mem _ hy))
    simp only [List.countP_cons]
    rcases List.mem_cons.1 hi with rfl | hi
    · simp [hp, hq]; omega
    · have := ih (fun y hy => h y (List.mem_cons_of_mem _ hy)) hi
      by_cases hx : q x = true
      · simp [hx, h x List.mem_cons_self hx]; omega
      · simp [hx]; omega
theorem sem_put_same {a : Act} {d : Nat} {v : Value} (h : d < a.tmps.size) : (a.put (some d) v).eval (.tmp d) = v := by
  simp [Act.put, Act.eval, h]
theorem sem_put_ne {a : Act} {d e : Nat} {v : Value} (h : d ≠ e) : (a.put (some d) v).eval (.tmp e) = a.eval (.tmp e) := by
  simp [Act.put, Act.eval, h]

/-- what the predicates are, and how they stay -/
structure Sem where
  T : Nat → Value → World → Prop
  R : World → World → Prop
  S : Nat → World → Prop
  refl : ∀ w, R w w
  trans : ∀ {a b c}, R a b → R b c → R a c
  stay : ∀ d v w w', T d v w → R w w' → T d v w'
  more : ∀ {n w}, S n w → S (n + 1) w

section
variable (M : Sem) (P : Program) (ops : Array Oper) (par : List Nat) (N : Nat) (lst : Bool) (W0 : World) (A0 : Act) (Q : Exit → Act → World → Prop)

/-- what is known behind an operation -/
def SemNext (o : Oper) (j : Nat) (a : Act) (w : World) (a' : Act) (w' : World) : Prop :=
  ∃ v, a' = a.put o.dst v ∧ (∀ d, o.dst = some d → M.T d v w') ∧ M.R w w' ∧ M.S (j + 1) w'
/-- an operation keeps what is asked -/
def SemOp (k : Nat) (o : Oper) : Prop :=
  ∀ (j : Nat) (a : Act) (w : World), j ≤ ops.size → (∀ d, semAv ops par o d = true → M.T d (a.eval (.tmp d)) w) → (∀ d, (∀ (i : Nat) (oi : Oper), ops[i]? = some oi → oi.dst ≠ some d) → a.eval (.tmp d) = A0.eval (.tmp d)) → M.S j w → M.R W0 w → a.tmps.size = N →
    wpOp P ops Q k (SemNext M o j a w) a w

/-- what is known behind the region -/
structure SemAfter (upto : Nat) (a : Act) (w : World) : Prop where
  ty : ∀ (j : Nat) (o : Oper) (d : Nat), j < upto → ops[j]? = some o → o.dst = some d → M.T d (a.eval (.tmp d)) w
  par : ∀ d, par.contains d = true → M.T d (a.eval (.tmp d)) w
  size : a.tmps.size = N
  defers : a.defers = A0.defers
  same : ∀ d, (∀ (j : Nat) (o : Oper), ops[j]? = some o → o.dst ≠ some d) → a.eval (.tmp d) = A0.eval (.tmp d)
  s : M.S ops.size w
  r : M.R W0 w

structure SemSt (fuel : Nat) (listed : Array Bool) (a : Act) (w : World) : Prop where
  sizeL : listed.size = ops.size
  left : (List.range ops.size).countP (fun i => !listed.getD i true) ≤ fuel
  open_ : lst = true → ∀ i, i + 1 = ops.size → listed.getD i true = false
  par : ∀ d, par.contains d = true → M.T d (a.eval (.tmp d)) w
  done : ∀ (j : Nat) (o : Oper) (d : Nat), ops[j]? = some o → listed.getD j false = true → o.dst = some d → M.T d (a.eval (.tmp d)) w
  size : a.tmps.size = N
  defers : a.defers = A0.defers
  same : ∀ d, (∀ (j : Nat) (o : Oper), ops[j]? = some o → o.dst ≠ some d) → a.eval (.tmp d) = A0.eval (.tmp d)
  s : ∃ j, j + fuel ≤ ops.size ∧ M.S j w
  r : M.R W0 w
end

theorem sem_more {M : Sem} {i j : Nat} {w : World} (h : M.S i w) (hij : i ≤ j) : M.S j w := by
  induction j with
  | zero => have : i = 0 := by omega
            subst this; exact h
  | succ j ih =>
    by_cases e : i = j + 1
    · subst e; exact h
    · exact M.more (ih (by omega))

section
variable {M : Sem} {P : Program} {ops : Array Oper} {par : List Nat} {N : Nat} {lst : Bool} {W0 : World} {A0 : Act} {Q : Exit → Act → World → Prop}

theorem semOK_low {k : Nat} {o : Oper} (h : semOK ops par N lst k = true) (ho : ops[k]? = some o) : ∀ e ∈ o.after, Region.binds .any e = true → e.on < k := by
  unfold semOK at h
  rw [ho] at h
  simp only [Bool.and_eq_true] at h
  intro e he hb
  have := Array.all_eq_true_iff_forall_mem.1 h.1 e he
  simpa [hb] using this
theorem semOK_parts {k : Nat} {o : Oper} (h : semOK ops par N lst k = true) (ho : ops[k]? = some o) (hl : ¬ (lst = true ∧ k + 1 = ops.size)) :
    ∃ d, o.dst = some d ∧ d < N ∧ par.contains d = false ∧ ∀ j oj, ops[j]? = some oj → j ≠ k → oj.dst ≠ some d := by
  unfold semOK at h
  rw [ho] at h
  simp only [Bool.and_eq_true] at h
  have h2 := h.2
  rw [if_neg (by simpa using hl)] at h2
  cases hd : o.dst with
  | none => rw [hd] at h2; cases h2
  | some d =>
    rw [hd] at h2
    simp only [Bool.and_eq_true, decide_eq_true_eq] at h2
    obtain ⟨⟨h4, h5⟩, h6⟩ := h2
    refine ⟨d, rfl, h4, by simpa using h5, fun j oj hj hne he => ?_⟩
    have hjs : j < ops.size := (Array.getElem?_eq_some_iff.1 hj).1
    have := (List.all_eq_true.1 h6) j (List.mem_range.2 hjs)
    rw [hj] at this
    simp [hne, he] at this
theorem semOK_last {k : Nat} {o : Oper} (h : semOK ops par N lst k = true) (ho : ops[k]? = some o) (hl : lst = true ∧ k + 1 = ops.size) : ∀ j, j < k → ∃ e ∈ o.after, Region.binds .any e = true ∧ e.on = j := by
  unfold semOK at h
  rw [ho] at h
  simp only [Bool.and_eq_true] at h
  have h2 := h.2
  rw [if_pos (by simpa using hl)] at h2
  intro j hj
  have := (List.all_eq_true.1 h2) j (List.mem_range.2 hj)
  obtain ⟨ei, hei, h1⟩ := Array.any_eq_true.1 this
  simp only [Bool.and_eq_true, beq_iff_eq] at h1
  exact ⟨o.after[ei], Array.getElem_mem hei, h1.1, h1.2⟩

theorem sem_step {fuel : Nat} {listed : Array Bool} {a : Act} {w : World} (hB : semB ops par N lst = true) (hop : ∀ k o, ops[k]? = some o → ¬ (lst = true ∧ k + 1 = ops.size) → SemOp M P ops par N W0 A0 Q k o)
    (h : SemSt M ops par N lst W0 A0 (fuel + 1) listed a w) (i : Nat) (hi : i ∈ Region.ready .any ops listed) (hl : ¬ (lst = true ∧ i + 1 = ops.size)) :
    wpOp P ops Q i (fun a' w' => SemSt M ops par N lst W0 A0 fuel (listed.setIfInBounds i true) a' w') a w := by
  obtain ⟨hjun, o, ho, hall⟩ := mem_ready.1 hi
  have his : i < ops.size := (Array.getElem?_eq_some_iff.1 ho).1
  have hok := List.all_eq_true.1 hB i (List.mem_range.2 his)
  obtain ⟨d, hd, hdN, hdp, hdu⟩ := semOK_parts hok ho hl
  have hil : i < listed.size := by rw [h.sizeL]; exact his
  obtain ⟨j, hj, hS⟩ := h.s
  have hop' := hop i o ho hl j a w (by omega) (fun x hx => ?_) h.same hS h.r h.size
  · refine wpOp_mono (fun a' w' hn => ?_) hop'
    obtain ⟨v, rfl, hv, hgr, hs'⟩ := hn
    rw [hd]
    have hds : d < a.tmps.size := by rw [h.size]; exact hdN
    have hvd := hv d hd
    refine ⟨by simpa using h.sizeL, ?_, ?_, ?_, ?_, ?_, ?_, ?_, ⟨j + 1, by omega, hs'⟩, M.trans h.r hgr⟩
    · have h1 := sem_countP_lt (l := List.range ops.size) (p := fun j => !listed.getD j true) (q := fun j => !(listed.setIfInBounds i true).getD j true) (fun x _ hx => by
        by_cases e : i = x
        · subst e; simp [hil] at hx
        · rw [getD_set_ne true e] at hx; exact hx) (List.mem_range.2 his) (by show (!listed.getD i true) = true; rw [hjun]; rfl) (by simp [hil])
      have := h.left
      omega
    · intro hlst x hx
      have hne : i ≠ x := fun e => hl ⟨hlst, by omega⟩
      rw [getD_set_ne true hne]
      exact h.open_ hlst x hx
    · intro x hx
      have hne : d ≠ x := fun e => by subst e; rw [hdp] at hx; cases hx
      rw [sem_put_ne hne]
      exact M.stay _ _ _ _ (h.par x hx) hgr
    · intro k ok x hok' hlk hdk
      by_cases e : i = k
      · subst e
        rw [ho] at hok'; injection hok' with hok'; subst hok'
        rw [hd] at hdk; injection hdk with hdk; subst hdk
        rw [sem_put_same hds]
        exact hvd
      · rw [getD_set_ne false e] at hlk
        have hne : d ≠ x := fun e2 => by subst e2; exact hdu k ok hok' (fun e3 => e e3.symm) hdk
        rw [sem_put_ne hne]
        exact M.stay _ _ _ _ (h.done k ok x hok' hlk hdk) hgr
    · simpa [Act.put] using h.size
    · simpa [Act.put] using h.defers
    · intro x hx
      rw [sem_put_ne (fun e => hx i o ho (by rw [hd, e]))]
      exact h.same x hx
  · unfold semAv at hx
    simp only [Bool.or_eq_true] at hx
    rcases hx with hx | hx
    · exact h.par x hx
    · obtain ⟨ei, hei, h1⟩ := Array.any_eq_true.1 hx
      simp only [Bool.and_eq_true, beq_iff_eq] at h1
      cases hoe : ops[o.after[ei].on]? with
      | none => rw [hoe] at h1; simp at h1
      | some oe =>
        rw [hoe] at h1
        exact h.done _ oe x hoe (hall _ (Array.getElem_mem hei) h1.1) (by simpa using h1.2)

theorem sem_done {fuel : Nat} {listed : Array Bool} {a : Act} {w : World} (hB : semB ops par N lst = true) (h : SemSt M ops par N lst W0 A0 fuel listed a w) (hr : Region.ready .any ops listed = []) : ∀ j, j < ops.size → listed.getD j false = true := by
  intro j
  induction j using Nat.strongRecOn with
  | ind j ih =>
    intro hj
    cases hl : listed.getD j false with
    | true => rfl
    | false =>
      exfalso
      have ho : ops[j]? = some ops[j] := Array.getElem?_eq_getElem hj
      have hlow := semOK_low (List.all_eq_true.1 hB j (List.mem_range.2 hj)) ho
      have : j ∈ Region.ready .any ops listed := mem_ready.2 ⟨by
        have hjl : j < listed.size := by rw [h.sizeL]; exact hj
        simp [Array.getD, hjl] at hl ⊢
        exact hl, _, ho, fun e he hb => ih e.on (hlow e he hb) (by have := hlow e he hb; omega)⟩
      rw [hr] at this
      cases this

theorem sem_full {listed : Array Bool} (hs : listed.size = ops.size) (h : ∀ j, j < ops.size → listed.getD j false = true) : Region.ready .any ops listed = [] := by
  apply List.eq_nil_iff_forall_not_mem.2
  intro i hi
  obtain ⟨hjun, o, ho, _⟩ := mem_ready.1 hi
  have his : i < ops.size := (Array.getElem?_eq_some_iff.1 ho).1
  have h1 := h i his
  have hil : i < listed.size := by rw [hs]; exact his
  simp [Array.getD, hil] at hjun h1
  rw [hjun] at h1
  cases h1

theorem wpAny_sem (hpos : 0 < ops.size) (hB : semB ops par N lst = true) (hop : ∀ k o, ops[k]? = some o → ¬ (lst = true ∧ k + 1 = ops.size) → SemOp M P ops par N W0 A0 Q k o)
    (hQ : lst = false → ∀ a w, SemAfter M ops par N W0 A0 ops.size a w → Q .normal a w)
    (hL : lst = true → ∀ a w, SemAfter M ops par N W0 A0 (ops.size - 1) a w → wpOp P ops Q (ops.size - 1) (fun a' w' => Q .normal a' w') a w) :
    ∀ (fuel : Nat) (listed : Array Bool) (a : Act) (w : World), SemSt M ops par N lst W0 A0 fuel listed a w → wpAny P .any ops Q fuel listed a w := by
  have fin : ∀ fuel listed a w, SemSt M ops par N lst W0 A0 fuel listed a w → Region.ready .any ops listed = [] → Q .normal a w := by
    intro fuel listed a w h hr
    have hall := sem_done hB h hr
    cases hl : lst
    · obtain ⟨j, hj, hS⟩ := h.s
      exact hQ hl a w ⟨fun j o d hjl ho hd => h.done j o d ho (hall j hjl) hd, h.par, h.size, h.defers, h.same, sem_more hS (by omega), h.r⟩
    · exfalso
      have h1 := h.open_ hl (ops.size - 1) (by omega)
      have h2 := hall (ops.size - 1) (by omega)
      have hjl : ops.size - 1 < listed.size := by rw [h.sizeL]; omega
      simp [Array.getD, hjl] at h1 h2
      rw [h1] at h2
      cases h2
  intro fuel
  induction fuel with
  | zero =>
    intro listed a w h
    have hr : Region.ready .any ops listed = [] := by
      apply List.eq_nil_iff_forall_not_mem.2
      intro i hi
      obtain ⟨hjun, o, ho, _⟩ := mem_ready.1 hi
      have his : i < ops.size := (Array.getElem?_eq_some_iff.1 ho).1
      have := h.left
      have h2 : 0 < (List.range ops.size).countP (fun i => !listed.getD i true) := List.countP_pos_iff.2 ⟨i, List.mem_range.2 his, by show (!listed.getD i true) = true; rw [hjun]; rfl⟩
      omega
    exact ⟨hr, fin _ _ _ _ h hr⟩
  | succ fuel ih =>
    intro listed a w h
    refine ⟨fun hr => fin _ _ _ _ h hr, fun i hi => ?_⟩
    by_cases hl : lst = true ∧ i + 1 = ops.size
    · obtain ⟨hjun, o, ho, hall⟩ := mem_ready.1 hi
      have his : i < ops.size := by omega
      have hi2 : i = ops.size - 1 := by omega
      have hlast := semOK_last (List.all_eq_true.1 hB i (List.mem_range.2 his)) ho hl
      have hdone : ∀ j, j < i → listed.getD j false = true := fun j hj => by
        obtain ⟨e, he, hb, rfl⟩ := hlast j hj
        exact hall e he hb
      obtain ⟨j, hj, hS⟩ := h.s
      have haf : SemAfter M ops par N W0 A0 (ops.size - 1) a w := ⟨fun j o d hjl ho hd => h.done j o d ho (hdone j (by omega)) hd, h.par, h.size, h.defers, h.same, sem_more hS (by omega), h.r⟩
      have hw := hL hl.1 a w haf
      rw [← hi2] at hw
      refine wpOp_mono (fun a' w' hq => ?_) hw
      refine wpAny_done (sem_full (by simpa using h.sizeL) (fun j hj => ?_)) hq _
      by_cases e : i = j
      · subst e
        have hil : i < listed.size := by rw [h.sizeL]; exact his
        simp [hil]
      · rw [getD_set_ne false e]
        exact hdone j (by omega)
    · exact wpOp_mono (fun a' w' hs => ih _ a' w' hs) (sem_step hB hop h i hi hl)

/-- the operations, one behind the other -/
def SemAll (M : Sem) (P : Program) (ops : Array Oper) (par : List Nat) (N : Nat) (W0 : World) (A0 : Act) (Q : Exit → Act → World → Prop) : List Oper → Nat → Prop
  | [], _ => True
  | o :: r, k => SemOp M P ops par N W0 A0 Q k o ∧ SemAll M P ops par N W0 A0 Q r (k + 1)
theorem semAll_get : ∀ (l : List Oper) (k0 : Nat), SemAll M P ops par N W0 A0 Q l k0 → ∀ i o, l[i]? = some o → SemOp M P ops par N W0 A0 Q (k0 + i) o := by
  intro l
  induction l with
  | nil => intro k0 _ i o h; simp at h
  | cons x r ih =>
    intro k0 h i o ho
    cases i with
    | zero => simp at ho; subst ho; exact h.1
    | succ i =>
      have := ih (k0 + 1) h.2 i o (by simpa using ho)
      rwa [show k0 + 1 + i = k0 + (i + 1) by omega] at this

theorem wp_region_sem {id : Nat} {a : Act} {w : World} (M : Sem) (par : List Nat) (N : Nat) (hm : P.follows .mixedOrders = true) (hpos : 0 < ops.size) (hB : semB ops par N false = true) (hN : a.tmps.size = N)
    (hpar : ∀ d, par.contains d = true → M.T d (a.eval (.tmp d)) { w with drawn := w.drawn + 1 }) (hS : M.S 0 { w with drawn := w.drawn + 1 })
    (hop : SemAll M P ops par N { w with drawn := w.drawn + 1 } a Q ops.toList 0)
    (hQ : ∀ a' w', SemAfter M ops par N { w with drawn := w.drawn + 1 } a ops.size a' w' → Q .normal a' w') : (Code.region id ops true).wp P Q a w := by
  refine wp_region_any hm (wpAny_sem (M := M) (par := par) (N := N) (lst := false) (W0 := { w with drawn := w.drawn + 1 }) (A0 := a) hpos hB (fun k o ho _ => ?_) (fun _ => hQ) (fun h => by cases h) _ _ _ _ ?_)
  · have := semAll_get ops.toList 0 hop k o (by simpa using ho)
    rwa [Nat.zero_add] at this
  · refine ⟨by simp, ?_, (fun h => by cases h), hpar, fun j o d ho hl => ?_, hN, rfl, fun _ _ => rfl, ⟨0, by simp, hS⟩, M.refl _⟩
    · exact Nat.le_trans List.countP_le_length (by simp)
    · exfalso
      have hj := (Array.getElem?_eq_some_iff.1 ho).1
      simp [Array.getD, hj] at hl

theorem wp_region_sem_last {id : Nat} {a : Act} {w : World} (M : Sem) (par : List Nat) (N : Nat) (hm : P.follows .mixedOrders = true) (hpos : 0 < ops.size) (hB : semB ops par N true = true) (hN : a.tmps.size = N)
    (hpar : ∀ d, par.contains d = true → M.T d (a.eval (.tmp d)) { w with drawn := w.drawn + 1 }) (hS : M.S 0 { w with drawn := w.drawn + 1 })
    (hop : SemAll M P ops par N { w with drawn := w.drawn + 1 } a Q (ops.toList.take (ops.size - 1)) 0)
    (hL : ∀ a' w', SemAfter M ops par N { w with drawn := w.drawn + 1 } a (ops.size - 1) a' w' → wpOp P ops Q (ops.size - 1) (fun a'' w'' => Q .normal a'' w'') a' w') : (Code.region id ops true).wp P Q a w := by
  refine wp_region_any hm (wpAny_sem (M := M) (par := par) (N := N) (lst := true) (W0 := { w with drawn := w.drawn + 1 }) (A0 := a) hpos hB (fun k o ho hk => ?_) (fun h => by cases h) (fun _ => hL) _ _ _ _ ?_)
  · have hks : k < ops.size := (Array.getElem?_eq_some_iff.1 ho).1
    have := semAll_get (ops.toList.take (ops.size - 1)) 0 hop k o (by
      rw [List.getElem?_take, if_pos (by have : ¬ k + 1 = ops.size := fun e => hk ⟨rfl, e⟩; omega)]
      simpa using ho)
    rwa [Nat.zero_add] at this
  · refine ⟨by simp, ?_, (fun _ i hi => by simp [Array.getD]; omega), hpar, fun j o d ho hl => ?_, hN, rfl, fun _ _ => rfl, ⟨0, by simp, hS⟩, M.refl _⟩
    · exact Nat.le_trans List.countP_le_length (by simp)
    · exfalso
      have hj := (Array.getElem?_eq_some_iff.1 ho).1
      simp [Array.getD, hj] at hl
end
end Go.Proofs.Ytejnieoneknbbaa
