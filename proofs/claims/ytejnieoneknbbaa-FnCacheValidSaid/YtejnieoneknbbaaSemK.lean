/-
  Regions that draw their order and end in one operation that waits for all others: what each operation does, said once; an operation may end what some slots told.
-/
import Derived.Test.YtejnieoneknbbaaSemS
namespace Go.Proofs.Ytejnieoneknbbaa
open Go.ChangeShapes Go.WideShapes Go.ChangeAt Go.RowKit Go.BigFrame

def depB (ops : Array Oper) (j q : Nat) : Bool := match ops[j]? with
  | none => false
  | some o => o.after.any fun e => Region.binds .any e && e.on == q
/-- operation q ends what slot x told: no other operation reads x, or x is laid behind q -/
def killOK (ops : Array Oper) (par : List Nat) (q x : Nat) : Bool :=
  !par.contains x && (List.range (ops.size - 1)).all fun k => k == q || (match ops[k]? with
    | none => true
    | some o => !(o.after.any fun e => Region.binds .any e && ((ops[e.on]?).bind (·.dst)) == some x && !depB ops e.on q))
def semBK (ops : Array Oper) (par : List Nat) (N : Nat) (kills : List (Nat × Nat)) : Bool := semB ops par N true && kills.all fun p => killOK ops par p.1 p.2

structure SemK where
  T : Nat → Value → World → Prop
  R : World → World → Prop
  refl : ∀ w, R w w
  trans : ∀ {a b c}, R a b → R b c → R a c

section
variable (M : SemK) (P : Program) (ops : Array Oper) (par : List Nat) (N : Nat) (kills : List (Nat × Nat)) (W0 : World) (A0 : Act) (Q : Exit → Act → World → Prop)

def SemNextK (k : Nat) (o : Oper) (a : Act) (w : World) (a' : Act) (w' : World) : Prop :=
  ∃ v, a' = a.put o.dst v ∧ (∀ d, o.dst = some d → M.T d v w') ∧ (∀ d u, kills.contains (k, d) = false → o.dst ≠ some d → M.T d u w → M.T d u w') ∧ M.R w w'
def SemOpK (k : Nat) (o : Oper) : Prop :=
  ∀ (a : Act) (w : World), (∀ d, semAv ops par o d = true → M.T d (a.eval (.tmp d)) w) → M.R W0 w → wpOp P ops Q k (SemNextK M kills k o a w) a w

structure SemAfterK (a : Act) (w : World) : Prop where
  ty : ∀ (j : Nat) (o : Oper) (d : Nat), j < ops.size - 1 → ops[j]? = some o → o.dst = some d → (∀ q, kills.contains (q, d) = true → depB ops j q = true) → M.T d (a.eval (.tmp d)) w
  par : ∀ d, par.contains d = true → M.T d (a.eval (.tmp d)) w
  size : a.tmps.size = N
  defers : a.defers = A0.defers
  same : ∀ d, (∀ (j : Nat) (o : Oper), ops[j]? = some o → o.dst ≠ some d) → a.eval (.tmp d) = A0.eval (.tmp d)
  r : M.R W0 w

structure SemStK (fuel : Nat) (listed : Array Bool) (a : Act) (w : World) : Prop where
  sizeL : listed.size = ops.size
  left : (List.range ops.size).countP (fun i => !listed.getD i true) ≤ fuel
  open_ : ∀ i, i + 1 = ops.size → listed.getD i true = false
  deps : ∀ (j q : Nat), listed.getD j false = true → depB ops j q = true → listed.getD q false = true
  par : ∀ d, par.contains d = true → M.T d (a.eval (.tmp d)) w
  done : ∀ (j : Nat) (o : Oper) (d : Nat), ops[j]? = some o → listed.getD j false = true → o.dst = some d → (∀ q, listed.getD q false = true → kills.contains (q, d) = true → depB ops j q = true) → M.T d (a.eval (.tmp d)) w
  size : a.tmps.size = N
  defers : a.defers = A0.defers
  same : ∀ d, (∀ (j : Nat) (o : Oper), ops[j]? = some o → o.dst ≠ some d) → a.eval (.tmp d) = A0.eval (.tmp d)
  r : M.R W0 w
end

section
variable {M : SemK} {P : Program} {ops : Array Oper} {par : List Nat} {N : Nat} {kills : List (Nat × Nat)} {W0 : World} {A0 : Act} {Q : Exit → Act → World → Prop}

theorem depB_edge {ops : Array Oper} {o : Oper} {j q : Nat} (ho : ops[j]? = some o) (h : depB ops j q = true) : ∃ e ∈ o.after, Region.binds .any e = true ∧ e.on = q := by
  unfold depB at h
  rw [ho] at h
  obtain ⟨i, hi, h1⟩ := Array.any_eq_true.1 h
  simp only [Bool.and_eq_true, beq_iff_eq] at h1
  exact ⟨_, Array.getElem_mem hi, h1.1, h1.2⟩

theorem semK_step {fuel : Nat} {listed : Array Bool} {a : Act} {w : World} (hB : semBK ops par N kills = true) (hop : ∀ k o, ops[k]? = some o → ¬ (k + 1 = ops.size) → SemOpK M P ops par kills W0 Q k o)
    (h : SemStK M ops par N kills W0 A0 (fuel + 1) listed a w) (i : Nat) (hi : i ∈ Region.ready .any ops listed) (hl : ¬ (i + 1 = ops.size)) :
    wpOp P ops Q i (fun a' w' => SemStK M ops par N kills W0 A0 fuel (listed.setIfInBounds i true) a' w') a w := by
  unfold semBK at hB
  rw [Bool.and_eq_true] at hB
  obtain ⟨hB, hK⟩ := hB
  obtain ⟨hjun, o, ho, hall⟩ := mem_ready.1 hi
  have his : i < ops.size := (Array.getElem?_eq_some_iff.1 ho).1
  have hok := List.all_eq_true.1 hB i (List.mem_range.2 his)
  obtain ⟨d, hd, hdN, hdp, hdu⟩ := semOK_parts hok ho (by simpa using hl)
  have hil : i < listed.size := by rw [h.sizeL]; exact his
  have hiu : listed.getD i false = false := by
    simp [Array.getD, hil] at hjun ⊢
    exact hjun
  have hkp : ∀ q x, kills.contains (q, x) = true → killOK ops par q x = true := fun q x hq => by
    have := List.all_eq_true.1 hK (q, x) (by simpa using hq)
    exact this
  have hop' := hop i o ho hl a w (fun x hx => ?_) h.r
  · refine wpOp_mono (fun a' w' hn => ?_) hop'
    obtain ⟨v, rfl, hv, hst, hgr⟩ := hn
    rw [hd]
    have hds : d < a.tmps.size := by rw [h.size]; exact hdN
    have hvd := hv d hd
    refine ⟨by simpa using h.sizeL, ?_, ?_, ?_, ?_, ?_, ?_, ?_, ?_, M.trans h.r hgr⟩
    · have h1 := sem_countP_lt (l := List.range ops.size) (p := fun j => !listed.getD j true) (q := fun j => !(listed.setIfInBounds i true).getD j true) (fun x _ hx => by
        by_cases e : i = x
        · subst e; simp [hil] at hx
        · rw [getD_set_ne true e] at hx; exact hx) (List.mem_range.2 his) (by show (!listed.getD i true) = true; rw [hjun]; rfl) (by simp [hil])
      have := h.left
      omega
    · intro x hx
      have hne : i ≠ x := fun e => hl (by omega)
      rw [getD_set_ne true hne]
      exact h.open_ x hx
    · intro j q hj hq
      have hq2 : ∀ q, listed.getD q false = true → (listed.setIfInBounds i true).getD q false = true := fun q hq => by
        by_cases e : i = q
        · subst e; simp [hil]
        · rw [getD_set_ne false e]; exact hq
      by_cases e : i = j
      · subst e
        obtain ⟨ed, he, hb, rfl⟩ := depB_edge ho hq
        exact hq2 _ (hall ed he hb)
      · rw [getD_set_ne false e] at hj
        exact hq2 _ (h.deps j q hj hq)
    · intro x hx
      have hne : d ≠ x := fun e => by subst e; rw [hdp] at hx; cases hx
      rw [sem_put_ne hne]
      refine hst _ _ ?_ (fun e => hne (by rw [hd] at e; injection e)) (h.par x hx)
      cases hc : kills.contains (i, x)
      · rfl
      · have := hkp i x hc
        unfold killOK at this
        rw [hx] at this
        cases this
    · intro k ok x hok' hlk hdk hcond
      by_cases e : i = k
      · subst e
        rw [ho] at hok'; injection hok' with hok'; subst hok'
        rw [hd] at hdk; injection hdk with hdk; subst hdk
        rw [sem_put_same hds]
        exact hvd
      · rw [getD_set_ne false e] at hlk
        have hne : d ≠ x := fun e2 => by subst e2; exact hdu k ok hok' (fun e3 => e e3.symm) hdk
        rw [sem_put_ne hne]
        have hold := h.done k ok x hok' hlk hdk (fun q hq => hcond q (by
          by_cases e2 : i = q
          · subst e2; simp [hil]
          · rw [getD_set_ne false e2]; exact hq))
        refine hst _ _ ?_ (fun e => hne (by rw [hd] at e; injection e)) hold
        cases hc : kills.contains (i, x)
        · rfl
        · have h1 := hcond i (by simp [hil]) hc
          have h2 := h.deps k i hlk h1
          rw [hiu] at h2; cases h2
    · simpa [Act.put] using h.size
    · simpa [Act.put] using h.defers
    · intro x hx
      rw [sem_put_ne (fun e => hx i o ho (by rw [hd, e]))]
      exact h.same x hx
  · unfold semAv at hx
    simp only [Bool.or_eq_true] at hx
    rcases hx with hx | hx
    · exact h.par x hx
    · obtain ⟨ei, hei, h1⟩ := Array.any_eq_true.1 hx
      simp only [Bool.and_eq_true, beq_iff_eq] at h1
      cases hoe : ops[o.after[ei].on]? with
      | none => rw [hoe] at h1; simp at h1
      | some oe =>
        rw [hoe] at h1
        refine h.done _ oe x hoe (hall _ (Array.getElem_mem hei) h1.1) (by simpa using h1.2) (fun q hq hc => ?_)
        have hne : i ≠ q := fun e => by subst e; rw [hiu] at hq; cases hq
        have := hkp q x hc
        unfold killOK at this
        simp only [Bool.and_eq_true] at this
        have h3 := List.all_eq_true.1 this.2 i (List.mem_range.2 (by omega))
        rw [ho] at h3
        simp only [Bool.or_eq_true, beq_iff_eq] at h3
        rcases h3 with h3 | h3
        · exact absurd h3 hne
        · cases hdq : depB ops o.after[ei].on q
          · exfalso
            rw [Bool.not_eq_true'] at h3
            have h4 : (o.after.any fun e => Region.binds .any e && ((ops[e.on]?).bind (·.dst)) == some x && !depB ops e.on q) = true := by
              rw [Array.any_eq_true]
              refine ⟨ei, hei, ?_⟩
              simp only [Bool.and_eq_true, beq_iff_eq]
              exact ⟨⟨h1.1, by rw [hoe]; exact h1.2⟩, by rw [hdq]; rfl⟩
            rw [h4] at h3; cases h3
          · rfl

theorem wpAny_semK (hB : semBK ops par N kills = true) (hop : ∀ k o, ops[k]? = some o → ¬ (k + 1 = ops.size) → SemOpK M P ops par kills W0 Q k o)
    (hpos : 0 < ops.size) (hL : ∀ a w, SemAfterK M ops par N kills W0 A0 a w → wpOp P ops Q (ops.size - 1) (fun a' w' => Q .normal a' w') a w) :
    ∀ (fuel : Nat) (listed : Array Bool) (a : Act) (w : World), SemStK M ops par N kills W0 A0 fuel listed a w → wpAny P .any ops Q fuel listed a w := by
  have hBs : semB ops par N true = true := by
    unfold semBK at hB
    rw [Bool.and_eq_true] at hB
    exact hB.1
  have never : ∀ {fuel listed a w}, SemStK M ops par N kills W0 A0 fuel listed a w → Region.ready .any ops listed ≠ [] := by
    intro fuel listed a w h hr
    have hdone : ∀ j, j < ops.size → listed.getD j false = true := by
      intro j
      induction j using Nat.strongRecOn with
      | ind j ih =>
        intro hj
        cases hl : listed.getD j false with
        | true => rfl
        | false =>
          exfalso
          have ho : ops[j]? = some ops[j] := Array.getElem?_eq_getElem hj
          have hlow := semOK_low (List.all_eq_true.1 hBs j (List.mem_range.2 hj)) ho
          have : j ∈ Region.ready .any ops listed := mem_ready.2 ⟨by
            have hjl : j < listed.size := by rw [h.sizeL]; exact hj
            simp [Array.getD, hjl] at hl ⊢
            exact hl, _, ho, fun e he hb => ih e.on (hlow e he hb) (by have := hlow e he hb; omega)⟩
          rw [hr] at this
          cases this
    have h1 := h.open_ (ops.size - 1) (by omega)
    have h2 := hdone (ops.size - 1) (by omega)
    have hjl : ops.size - 1 < listed.size := by rw [h.sizeL]; omega
    simp [Array.getD, hjl] at h1 h2
    rw [h1] at h2
    cases h2
  intro fuel
  induction fuel with
  | zero =>
    intro listed a w h
    exfalso
    have h1 := h.left
    have h2 : 0 < (List.range ops.size).countP (fun i => !listed.getD i true) := List.countP_pos_iff.2 ⟨ops.size - 1, List.mem_range.2 (by omega), by show (!listed.getD (ops.size - 1) true) = true; rw [h.open_ (ops.size - 1) (by omega)]; rfl⟩
    omega
  | succ fuel ih =>
    intro listed a w h
    refine ⟨fun hr => absurd hr (never h), fun i hi => ?_⟩
    by_cases hl : i + 1 = ops.size
    · obtain ⟨hjun, o, ho, hall⟩ := mem_ready.1 hi
      have his : i < ops.size := by omega
      have hi2 : i = ops.size - 1 := by omega
      have hlast := semOK_last (List.all_eq_true.1 hBs i (List.mem_range.2 his)) ho ⟨rfl, hl⟩
      have hdone : ∀ j, j < i → listed.getD j false = true := fun j hj => by
        obtain ⟨e, he, hb, rfl⟩ := hlast j hj
        exact hall e he hb
      have haf : SemAfterK M ops par N kills W0 A0 a w := ⟨fun j o d hjl ho hd hc => h.done j o d ho (hdone j (by omega)) hd (fun q _ hk => hc q hk), h.par, h.size, h.defers, h.same, h.r⟩
      have hw := hL a w haf
      rw [← hi2] at hw
      refine wpOp_mono (fun a' w' hq => ?_) hw
      refine wpAny_done (sem_full (by simpa using h.sizeL) (fun j hj => ?_)) hq _
      by_cases e : i = j
      · subst e
        have hil : i < listed.size := by rw [h.sizeL]; exact his
        simp [hil]
      · rw [getD_set_ne false e]
        exact hdone j (by omega)
    · exact wpOp_mono (fun a' w' hs => ih _ a' w' hs) (semK_step hB hop h i hi hl)

def SemAllK (M : SemK) (P : Program) (ops : Array Oper) (par : List Nat) (kills : List (Nat × Nat)) (W0 : World) (Q : Exit → Act → World → Prop) : List Oper → Nat → Prop
  | [], _ => True
  | o :: r, k => SemOpK M P ops par kills W0 Q k o ∧ SemAllK M P ops par kills W0 Q r (k + 1)
theorem semAllK_get : ∀ (l : List Oper) (k0 : Nat), SemAllK M P ops par kills W0 Q l k0 → ∀ i o, l[i]? = some o → SemOpK M P ops par kills W0 Q (k0 + i) o := by
  intro l
  induction l with
  | nil => intro k0 _ i o h; simp at h
  | cons x r ih =>
    intro k0 h i o ho
    cases i with
    | zero => simp at ho; subst ho; exact h.1
    | succ i =>
      have := ih (k0 + 1) h.2 i o (by simpa using ho)
      rwa [show k0 + 1 + i = k0 + (i + 1) by omega] at this

theorem wp_region_semK {id : Nat} {a : Act} {w : World} {l : List Oper} (M : SemK) (par : List Nat) (N : Nat) (kills : List (Nat × Nat)) (hm : P.follows .mixedOrders = true) (hpos : 0 < l.toArray.size) (hB : semBK l.toArray par N kills = true) (hN : a.tmps.size = N)
    (hpar : ∀ d, par.contains d = true → M.T d (a.eval (.tmp d)) w.drew)
    (hop : SemAllK M P l.toArray par kills w.drew Q (l.take (l.toArray.size - 1)) 0)
    (hL : ∀ a' w', SemAfterK M l.toArray par N kills w.drew a a' w' → wpOp P l.toArray Q (l.toArray.size - 1) (fun a'' w'' => Q .normal a'' w'') a' w') : (Code.region id l.toArray true).wp P Q a w := by
  refine wp_region_any hm (wpAny_semK (M := M) (par := par) (N := N) (kills := kills) (W0 := w.drew) (A0 := a) hB (fun k o ho hk => ?_) hpos hL _ _ _ _ ?_)
  · have hks : k < l.toArray.size := (Array.getElem?_eq_some_iff.1 ho).1
    have := semAllK_get (l.take (l.toArray.size - 1)) 0 hop k o (by
      rw [List.getElem?_take, if_pos (by omega)]
      simpa using ho)
    rwa [Nat.zero_add] at this
  · refine ⟨by simp, ?_, (fun i hi => by rw [getD_in (by simp at hi ⊢; omega) (getD_replicate_false _ _)]), fun j q hj _ => ?_, hpar, fun j o d ho hl => ?_, hN, rfl, fun _ _ => rfl, M.refl _⟩
    · exact Nat.le_trans List.countP_le_length (by simp)
    · rw [getD_replicate_false] at hj; cases hj
    · rw [getD_replicate_false] at hl; cases hl

/-- the slots behind the head, one by one -/
def SlEx (T : Nat → Value → Prop) (a : Act) : List Nat → Act → Prop
  | [], A => A = a
  | d :: ds, A => ∃ x, T d x ∧ SlEx T a ds (A.put (some d) x)
theorem sl_ex (T : Nat → Value → Prop) (a : Act) : ∀ (ds : List Nat) (A : Act), a.tmps.size = A.tmps.size → a.defers = A.defers → (∀ d ∈ ds, T d (a.eval (.tmp d))) → (∀ d, d ∉ ds → a.eval (.tmp d) = A.eval (.tmp d)) → SlEx T a ds A := by
  intro ds
  induction ds with
  | nil =>
    intro A hs hd _ hsame
    obtain ⟨t1, d1⟩ := a
    obtain ⟨t2, d2⟩ := A
    simp only at hs hd
    subst hd
    have : t1 = t2 := by
      apply Array.ext hs
      intro i h1 h2
      have := hsame i (by simp)
      simpa [Act.eval, h1, h2] using this
    subst this
    rfl
  | cons d ds ih =>
    intro A hs hd hT hsame
    refine ⟨a.eval (.tmp d), hT d List.mem_cons_self, ih _ (by simpa [Act.put] using hs) (by simpa [Act.put] using hd) (fun e he => hT e (List.mem_cons_of_mem _ he)) (fun e he => ?_)⟩
    by_cases h : d = e
    · subst h
      by_cases hlt : d < A.tmps.size
      · rw [sem_put_same hlt]
      · simp [Act.put, Act.eval, hlt]
        have : ¬ d < a.tmps.size := by omega
        simp [this]
    · rw [sem_put_ne h]; exact hsame e (by simp; exact ⟨fun q => h q.symm, he⟩)
/-- which operation writes slot d -/
def prodB (ops : Array Oper) (d : Nat) (j : Nat) : Bool := (ops[j]?).bind (·.dst) == some d
def goodB (ops : Array Oper) (kills : List (Nat × Nat)) (d : Nat) : Bool := (List.range (ops.size - 1)).any fun j => prodB ops d j && kills.all fun p => !(p.2 == d) || depB ops j p.1
theorem SemAfterK.ex {a : Act} {w : World} (h : SemAfterK M ops par N kills W0 A0 a w) (hN : A0.tmps.size = N) (ds : List Nat) (hd : dstsB ops ops.size ds = true) : SlEx (fun d v => goodB ops kills d = true → M.T d v w) a ds A0 := by
  unfold dstsB at hd
  simp only [Bool.and_eq_true, List.all_eq_true] at hd
  refine sl_ex _ a ds A0 (by rw [h.size, hN]) h.defers (fun d _ hg => ?_) (fun d hm => h.same d (fun j o ho he => ?_))
  · unfold goodB at hg
    obtain ⟨j, hj, hj2⟩ := List.any_eq_true.1 hg
    rw [Bool.and_eq_true] at hj2
    obtain ⟨h1, h2⟩ := hj2
    unfold prodB at h1
    cases ho : ops[j]? with
    | none => rw [ho] at h1; simp at h1
    | some o =>
      rw [ho] at h1
      refine h.ty j o d (List.mem_range.1 hj) ho (by simpa using h1) (fun q hq => ?_)
      have := List.all_eq_true.1 h2 (q, d) (by simpa using hq)
      simpa using this
  · have := hd.1 j (List.mem_range.2 (Array.getElem?_eq_some_iff.1 ho).1)
    rw [ho] at this
    simp [he] at this
    exact hm this
end
end Go.Proofs.Ytejnieoneknbbaa
