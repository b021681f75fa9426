/-
  Regions that draw their order and end in a tail whose order is forced: the head by what each operation does (any order), the tail as a walk.
-/
import Derived.Test.YtejnieoneknbbaaSem
import Derived.Test.YtejnieoneknbbaaTyped
import Derived.StillTail
namespace Go.Proofs.Ytejnieoneknbbaa
open Go.ChangeShapes Go.WideShapes Go.ChangeAt Go.RowKit Go.BigFrame

/-- the head: every operation is of the plain kind -/
def headB (ops : Array Oper) (par : List Nat) (N n : Nat) : Bool := (List.range n).all (semOK ops par N false)
def fullL (s n : Nat) : Array Bool := ((List.range s).map fun i => decide (i < n)).toArray
def tailB (ops : Array Oper) (par : List Nat) (N n : Nat) : Bool :=
  decide (n < ops.size) && headB ops par N n && Region.sinkB .any ops n && Region.chainB .any ops n && Region.seqB .any ops (ops.size - n) n (fullL ops.size n)

section
variable {M : Sem} {P : Program} {ops : Array Oper} {par : List Nat} {N n : Nat} {W0 : World} {A0 : Act} {Q : Exit → Act → World → Prop}

/-- where the head stands -/
structure HSt (M : Sem) (ops : Array Oper) (par : List Nat) (N n : Nat) (W0 : World) (A0 : Act) (fuel : Nat) (listed : Array Bool) (a : Act) (w : World) : Prop where
  inv : HeadInv .any ops n listed
  left : (List.range n).countP (fun i => !listed.getD i true) = fuel
  par : ∀ d, par.contains d = true → M.T d (a.eval (.tmp d)) w
  done : ∀ (j : Nat) (o : Oper) (d : Nat), j < n → ops[j]? = some o → listed.getD j false = true → o.dst = some d → M.T d (a.eval (.tmp d)) w
  size : a.tmps.size = N
  defers : a.defers = A0.defers
  same : ∀ d, (∀ (j : Nat) (o : Oper), j < n → ops[j]? = some o → o.dst ≠ some d) → a.eval (.tmp d) = A0.eval (.tmp d)
  s : ∃ j, j + fuel ≤ n ∧ M.S j w
  r : M.R W0 w

structure HAfter (M : Sem) (ops : Array Oper) (par : List Nat) (N n : Nat) (W0 : World) (A0 : Act) (a : Act) (w : World) : Prop where
  ty : ∀ (j : Nat) (o : Oper) (d : Nat), j < n → ops[j]? = some o → o.dst = some d → M.T d (a.eval (.tmp d)) w
  par : ∀ d, par.contains d = true → M.T d (a.eval (.tmp d)) w
  size : a.tmps.size = N
  defers : a.defers = A0.defers
  same : ∀ d, (∀ (j : Nat) (o : Oper), j < n → ops[j]? = some o → o.dst ≠ some d) → a.eval (.tmp d) = A0.eval (.tmp d)
  s : M.S n w
  r : M.R W0 w

/-- an operation of the head keeps what is asked -/
def HOp (M : Sem) (P : Program) (ops : Array Oper) (par : List Nat) (n : Nat) (W0 : World) (_ : Act) (Q : Exit → Act → World → Prop) (k : Nat) (o : Oper) : Prop :=
  ∀ (j : Nat) (a : Act) (w : World), j < n → (∀ d, semAv ops par o d = true → M.T d (a.eval (.tmp d)) w) → M.S j w → M.R W0 w →
    wpOp P ops Q k (SemNext M o j a w) a w

theorem countP_pos_of {l : List Nat} {p : Nat → Bool} (h : 0 < l.countP p) : ∃ i ∈ l, p i = true := List.countP_pos_iff.1 h
theorem h_step {fuel : Nat} {listed : Array Bool} {a : Act} {w : World} (hB : headB ops par N n = true) (hn : n ≤ ops.size) (hop : ∀ k o, k < n → ops[k]? = some o → HOp M P ops par n W0 A0 Q k o)
    (h : HSt M ops par N n W0 A0 (fuel + 1) listed a w) (i : Nat) (hi : i ∈ Region.ready .any ops listed) (hin : i < n) :
    wpOp P ops Q i (fun a' w' => HSt M ops par N n W0 A0 fuel (listed.setIfInBounds i true) a' w') a w := by
  obtain ⟨hjun, o, ho, hall⟩ := mem_ready.1 hi
  have his : i < ops.size := by omega
  have hok := List.all_eq_true.1 hB i (List.mem_range.2 hin)
  obtain ⟨d, hd, hdN, hdp, hdu⟩ := semOK_parts hok ho (by simp)
  have hil : i < listed.size := by rw [h.inv.size]; exact his
  obtain ⟨j, hj, hS⟩ := h.s
  have hop' := hop i o hin ho j a w (by omega) (fun x hx => ?_) hS h.r
  · refine wpOp_mono (fun a' w' hnx => ?_) hop'
    obtain ⟨v, rfl, hv, hgr, hs'⟩ := hnx
    rw [hd]
    have hds : d < a.tmps.size := by rw [h.size]; exact hdN
    have hvd := hv d hd
    refine ⟨h.inv.set hi hin, ?_, ?_, ?_, ?_, ?_, ?_, ⟨j + 1, by omega, hs'⟩, M.trans h.r hgr⟩
    · have h0 := h.left
      have hr : (List.range n).countP (fun j => !listed.getD j true) = (List.range n).countP (fun j => !(listed.setIfInBounds i true).getD j true) + 1 := by
        have hp : List.range n = List.range i ++ i :: (List.range n).drop (i + 1) := by
          have h1 : (List.range n).take (i + 1) = List.range i ++ [i] := by
            rw [List.take_range, Nat.min_eq_left (by omega), List.range_succ]
          conv => lhs; rw [← List.take_append_drop (i + 1) (List.range n), h1]
          simp
        have hne : ∀ (l : List Nat), i ∉ l → l.countP (fun j => !listed.getD j true) = l.countP (fun j => !(listed.setIfInBounds i true).getD j true) := fun l hl => by
          apply List.countP_congr
          intro x hx
          rw [getD_set_ne true (fun e => hl (by rw [e]; exact hx))]
        have hnd : (List.range n).Nodup := List.nodup_range
        rw [hp] at hnd ⊢
        rw [List.nodup_append, List.nodup_cons] at hnd
        rw [List.countP_append, List.countP_append, List.countP_cons, List.countP_cons, hne (List.range i) (by simp), hne _ hnd.2.1.1]
        have e1 : (listed.setIfInBounds i true).getD i true = true := by simp [hil]
        rw [hjun, e1]
        simp
        omega
      omega
    · intro x hx
      have hne : d ≠ x := fun e => by subst e; rw [hdp] at hx; cases hx
      rw [sem_put_ne hne]
      exact M.stay _ _ _ _ (h.par x hx) hgr
    · intro k ok x hkn hok' hlk hdk
      by_cases e : i = k
      · subst e
        rw [ho] at hok'; injection hok' with hok'; subst hok'
        rw [hd] at hdk; injection hdk with hdk; subst hdk
        rw [sem_put_same hds]
        exact hvd
      · rw [getD_set_ne false e] at hlk
        have hne : d ≠ x := fun e2 => by subst e2; exact hdu k ok hok' (fun e3 => e e3.symm) hdk
        rw [sem_put_ne hne]
        exact M.stay _ _ _ _ (h.done k ok x hkn hok' hlk hdk) hgr
    · simpa [Act.put] using h.size
    · simpa [Act.put] using h.defers
    · intro x hx
      rw [sem_put_ne (fun e => hx i o hin ho (by rw [hd, e]))]
      exact h.same x hx
  · unfold semAv at hx
    simp only [Bool.or_eq_true] at hx
    rcases hx with hx | hx
    · exact h.par x hx
    · obtain ⟨ei, hei, h1⟩ := Array.any_eq_true.1 hx
      simp only [Bool.and_eq_true, beq_iff_eq] at h1
      cases hoe : ops[o.after[ei].on]? with
      | none => rw [hoe] at h1; simp at h1
      | some oe =>
        rw [hoe] at h1
        have hlow := semOK_low hok ho _ (Array.getElem_mem hei) h1.1
        exact h.done _ oe x (by omega) hoe (hall _ (Array.getElem_mem hei) h1.1) (by simpa using h1.2)

theorem h_ready {listed : Array Bool} (hB : headB ops par N n = true) (hn : n ≤ ops.size) (hs : listed.size = ops.size) : ∀ i, i < n → listed.getD i true = false → ∃ j, j < n ∧ j ∈ Region.ready .any ops listed := by
  intro i
  induction i using Nat.strongRecOn with
  | ind i ih =>
    intro hi hl
    have ho : ops[i]? = some ops[i] := Array.getElem?_eq_getElem (by omega)
    have hlow := semOK_low (List.all_eq_true.1 hB i (List.mem_range.2 hi)) ho
    by_cases hall : ∀ e ∈ ops[i].after, Region.binds .any e = true → listed.getD e.on false = true
    · exact ⟨i, hi, mem_ready.2 ⟨hl, _, ho, hall⟩⟩
    · obtain ⟨e, he⟩ := Classical.not_forall.1 hall
      obtain ⟨h1, h2⟩ := Classical.not_imp.1 he
      obtain ⟨h3, h4⟩ := Classical.not_imp.1 h2
      have hlt := hlow e h1 h3
      refine ih e.on hlt (by omega) ?_
      have hel : e.on < listed.size := by omega
      simp [Array.getD, hel] at h4 ⊢
      exact h4

theorem wpAny_head (hT : tailB ops par N n = true) (hop : ∀ k o, k < n → ops[k]? = some o → HOp M P ops par n W0 A0 Q k o)
    (hQ : ∀ a w, HAfter M ops par N n W0 A0 a w → wpList P ops Q (ops.toList.drop n) a w) :
    ∀ (fuel : Nat) (listed : Array Bool) (a : Act) (w : World), HSt M ops par N n W0 A0 fuel listed a w → wpAny P .any ops Q (fuel + (ops.size - n)) listed a w := by
  unfold tailB at hT
  simp only [Bool.and_eq_true, decide_eq_true_eq] at hT
  obtain ⟨⟨⟨⟨hn, hB⟩, hsk⟩, hch⟩, hseq⟩ := hT
  intro fuel
  induction fuel with
  | zero =>
    intro listed a w h
    have hall : ∀ i, i < n → listed.getD i true = true := fun i hi => by
      cases e : listed.getD i true
      · exfalso
        have h1 := h.left
        have h2 : 0 < (List.range n).countP (fun i => !listed.getD i true) := List.countP_pos_iff.2 ⟨i, List.mem_range.2 hi, by show (!listed.getD i true) = true; rw [e]; rfl⟩
        omega
      · rfl
    have hfull : listed = fullL ops.size n := by
      apply Array.ext
      · simp [fullL, h.inv.size]
      · intro i h1 h2
        have hs := h.inv.size
        by_cases hi : i < n
        · have := hall i hi
          simp [Array.getD, h1] at this
          simp [fullL, this, hi]
        · have := h.inv.tail i (by omega) (by omega)
          simp [Array.getD, h1] at this
          simp [fullL, this, hi]
    obtain ⟨j, hj, hS⟩ := h.s
    have hdone : ∀ i, i < n → listed.getD i false = true := fun i hi => by
      have := hall i hi
      have hl : i < listed.size := by rw [h.inv.size]; omega
      simp [Array.getD, hl] at this ⊢
      exact this
    have hl := hQ a w ⟨fun j o d hj ho hd => h.done j o d hj ho (hdone j hj) hd, h.par, h.size, h.defers, h.same, sem_more hS (by omega), h.r⟩
    have hlen : (ops.toList.drop n).length = ops.size - n := by simp
    have := wpAny_of_seq (md := .any) (Q' := Q) (ops.toList.drop n) n listed a w (fun j => by simp [List.getElem?_drop]) (by rw [hlen, hfull]; exact hseq) hl
    rw [hlen] at this
    simpa using this
  | succ fuel ih =>
    intro listed a w h
    rw [show fuel + 1 + (ops.size - n) = (fuel + (ops.size - n)) + 1 by omega]
    have hpos : 0 < (List.range n).countP (fun i => !listed.getD i true) := by rw [h.left]; omega
    obtain ⟨i0, hi0, hu0⟩ := countP_pos_of hpos
    have hi0 := List.mem_range.1 hi0
    have hu0 : listed.getD i0 true = false := by simpa using hu0
    refine ⟨fun hr => ?_, fun i hi => ?_⟩
    · exfalso
      obtain ⟨j, _, hj⟩ := h_ready hB (by omega) h.inv.size i0 hi0 hu0
      rw [hr] at hj; cases hj
    · have hin : i < n := by
        rcases Nat.lt_or_ge i n with q | q
        · exact q
        · exact absurd hi (tail_waits hsk hch hn h.inv _ i0 rfl hi0 hu0 i q)
      exact wpOp_mono (fun a' w' hs => ih _ a' w' hs) (h_step hB (by omega) hop h i hi hin)

/-- the operations of the head, one behind the other -/
def HAll (M : Sem) (P : Program) (ops : Array Oper) (par : List Nat) (n : Nat) (W0 : World) (A0 : Act) (Q : Exit → Act → World → Prop) : List Oper → Nat → Prop
  | [], _ => True
  | o :: r, k => HOp M P ops par n W0 A0 Q k o ∧ HAll M P ops par n W0 A0 Q r (k + 1)
theorem hAll_get : ∀ (l : List Oper) (k0 : Nat), HAll M P ops par n W0 A0 Q l k0 → ∀ i o, l[i]? = some o → HOp M P ops par n W0 A0 Q (k0 + i) o := by
  intro l
  induction l with
  | nil => intro k0 _ i o h; simp at h
  | cons x r ih =>
    intro k0 h i o ho
    cases i with
    | zero => simp at ho; subst ho; exact h.1
    | succ i =>
      have := ih (k0 + 1) h.2 i o (by simpa using ho)
      rwa [show k0 + 1 + i = k0 + (i + 1) by omega] at this

theorem wp_region_semT {id : Nat} {a : Act} {w : World} {l : List Oper} (M : Sem) (par : List Nat) (N n : Nat) (hm : P.follows .mixedOrders = true) (hB : tailB l.toArray par N n = true) (hN : a.tmps.size = N)
    (hpar : ∀ d, par.contains d = true → M.T d (a.eval (.tmp d)) w.drew) (hS : M.S 0 w.drew)
    (hop : HAll M P l.toArray par n w.drew a Q (l.take n) 0)
    (hQ : ∀ a' w', HAfter M l.toArray par N n w.drew a a' w' → wpList P l.toArray Q (l.drop n) a' w') : (Code.region id l.toArray true).wp P Q a w := by
  refine wp_region_any hm ?_
  have hn : n < l.toArray.size := by
    unfold tailB at hB
    simp only [Bool.and_eq_true, decide_eq_true_eq] at hB
    exact hB.1.1.1.1
  have := wpAny_head (M := M) (P := P) (ops := l.toArray) (par := par) (N := N) (n := n) (W0 := w.drew) (A0 := a) (Q := Q) hB (fun k o hk ho => ?_) (fun a' w' h => by simpa using hQ a' w' h) n (Array.replicate l.toArray.size false) a w.drew ?_
  · rw [show n + (l.toArray.size - n) = l.toArray.size by omega] at this
    exact this
  · have := hAll_get (l.take n) 0 hop k o (by rw [List.getElem?_take, if_pos hk]; simpa using ho)
    rwa [Nat.zero_add] at this
  · refine ⟨⟨by simp, fun j oj _ hl => (by rw [getD_replicate_false] at hl; cases hl), fun t _ ht => getD_in (by simpa using ht) (getD_replicate_false _ _)⟩, ?_, hpar, fun j o d _ ho hl => ?_, hN, rfl, fun _ _ => rfl, ⟨0, by simp, hS⟩, M.refl _⟩
    · have : (List.range n).countP (fun i => !(Array.replicate l.toArray.size false).getD i true) = (List.range n).length := by
        rw [List.countP_eq_length]
        intro x hx
        have := List.mem_range.1 hx
        have hx2 : x < l.length := by simp at hn; omega
        simp [Array.getD, hx2]
      rw [this, List.length_range]
    · rw [getD_replicate_false] at hl; cases hl

/-- the act behind the head: the slots written one by one -/
def SemEx (M : Sem) (w : World) (a : Act) : List Nat → Act → Prop
  | [], A => A = a
  | d :: ds, A => ∃ x, M.T d x w ∧ SemEx M w a ds (A.put (some d) x)
theorem sem_ex (w : World) (a : Act) : ∀ (ds : List Nat) (A : Act), a.tmps.size = A.tmps.size → a.defers = A.defers → (∀ d ∈ ds, M.T d (a.eval (.tmp d)) w) → (∀ d, d ∉ ds → a.eval (.tmp d) = A.eval (.tmp d)) → SemEx M w a ds A := by
  intro ds
  induction ds with
  | nil =>
    intro A hs hd _ hsame
    obtain ⟨t1, d1⟩ := a
    obtain ⟨t2, d2⟩ := A
    simp only at hs hd
    subst hd
    have : t1 = t2 := by
      apply Array.ext hs
      intro i h1 h2
      have := hsame i (by simp)
      simpa [Act.eval, h1, h2] using this
    subst this
    rfl
  | cons d ds ih =>
    intro A hs hd hT hsame
    refine ⟨a.eval (.tmp d), hT d List.mem_cons_self, ih _ (by simpa [Act.put] using hs) (by simpa [Act.put] using hd) (fun e he => hT e (List.mem_cons_of_mem _ he)) (fun e he => ?_)⟩
    by_cases h : d = e
    · subst h
      by_cases hlt : d < A.tmps.size
      · rw [sem_put_same hlt]
      · simp [Act.put, Act.eval, hlt]
        have : ¬ d < a.tmps.size := by omega
        simp [this]
    · rw [sem_put_ne h]; exact hsame e (by simp; exact ⟨fun q => h q.symm, he⟩)
def dstsB (ops : Array Oper) (n : Nat) (ds : List Nat) : Bool := (List.range n).all (fun j => match (ops[j]?).bind (·.dst) with | some d => ds.contains d | none => true) && ds.all (fun d => (List.range n).any fun j => (ops[j]?).bind (·.dst) == some d)
theorem HAfter.ex {a : Act} {w : World} (h : HAfter M ops par N n W0 A0 a w) (hN : A0.tmps.size = N) (ds : List Nat) (hd : dstsB ops n ds = true) : SemEx M w a ds A0 := by
  unfold dstsB at hd
  simp only [Bool.and_eq_true, List.all_eq_true] at hd
  refine sem_ex w a ds A0 (by rw [h.size, hN]) h.defers (fun d hm => ?_) (fun d hm => h.same d (fun j o hj ho he => ?_))
  · have := hd.2 d hm
    obtain ⟨j, hj, hj2⟩ := List.any_eq_true.1 this
    cases ho : ops[j]? with
    | none => rw [ho] at hj2; simp at hj2
    | some o =>
      rw [ho] at hj2
      exact h.ty j o d (List.mem_range.1 hj) ho (by simpa using hj2)
  · have := hd.1 j (List.mem_range.2 hj)
    rw [ho] at this
    simp [he] at this
    exact hm this
end

/-- what a slot holds -/
inductive SV
  | val (v : Value)
  | int (lo hi : Int)
  | tab (n : Nat) (lo hi : Int)
  | ad (lo hi : Int)
  | el (b m k : Nat)
  | boo
def SV.T (g : Nat) (t : SV) (v : Value) (w : World) : Prop :=
  match t with
  | .val u => v = u
  | .int lo hi => ∃ k : Int, v = .int .i64 k ∧ lo ≤ k ∧ k ≤ hi
  | .tab n lo hi => ∃ b, v = .slice (some ⟨b, 0, none⟩) n n ∧ b ≠ g ∧ ∀ j, j < n → ∃ k : Int, w.cell? ⟨b, j, none⟩ = some (.int .i64 k) ∧ lo ≤ k ∧ k ≤ hi
  | .ad lo hi => ∃ (b o : Nat) (k : Int), v = .pointer (some ⟨b, o, none⟩) ∧ b ≠ g ∧ w.cell? ⟨b, o, none⟩ = some (.int .i64 k) ∧ lo ≤ k ∧ k ≤ hi
  | .el b m k => ∃ j : Nat, j < m ∧ v = .pointer (some ⟨b, j * k, none⟩)
  | .boo => ∃ b : Bool, v = .bool b
theorem SV.grow {g : Nat} {t : SV} {v : Value} {w w' : World} (h : SV.T g t v w) (hg : w.grownBy w' (some g)) : SV.T g t v w' := by
  cases t with
  | val u => exact h
  | int lo hi => exact h
  | tab n lo hi =>
    obtain ⟨b, e, hb, hc⟩ := h
    exact ⟨b, e, hb, fun j hj => by obtain ⟨k, h1, h2⟩ := hc j hj; exact ⟨k, hg.cell h1 (by simpa using hb), h2⟩⟩
  | ad lo hi =>
    obtain ⟨b, o, k, e, hb, hc, h2⟩ := h
    exact ⟨b, o, k, e, hb, hg.cell hc (by simpa using hb), h2⟩
  | el b m k => exact h
  | boo => exact h

/-- picks at reader g from place p on -/
def semG (g : Nat) (p : Int) (env : Nat → SV) : Sem where
  T d v w := SV.T g (env d) v w
  R w w' := w.grownBy w' (some g)
  S n w := Rdr w g (p + n)
  refl w := World.grownBy.refl w _
  trans h k := gb_trans h k
  stay _ _ _ _ h hg := SV.grow h hg
  more h := h.mono (by omega)

section
variable {g : Nat} {p : Int} {env : Nat → SV} {ops : Array Oper} {par : List Nat} {n : Nat} {W0 : World} {A0 : Act} {Q : Exit → Act → World → Prop} {k d : Nat} {ty : TypeId} {pos : String} {after : Array Edge}

theorem hop_go {o : Oper} (hk : ops[k]? = some o) (hg : o.guard = none)
    (h : ∀ (j : Nat) (a : Act) (w : World), j < n → (∀ e, semAv ops par o e = true → SV.T g (env e) (a.eval (.tmp e)) w) → Rdr w g (p + j) → W0.grownBy w (some g) →
      Oper.wp Try.prog o a w (SemNext (semG g p env) o j a w) Q) : HOp (semG g p env) Try.prog ops par n W0 A0 Q k o := by
  intro j a w hj hav hS hR
  unfold wpOp
  rw [hk]
  simp only [Region.wanted, hg, if_true]
  exact .inl (h j a w hj hav hS hR)
theorem next_ {o : Oper} {j : Nat} {a : Act} {w w' : World} {v : Value} (hd : o.dst = some d) (hT : SV.T g (env d) v w') (hg : w.grownBy w' (some g)) (hR : Rdr w' g (p + (j + 1 : Nat))) : SemNext (semG g p env) o j a w (a.put o.dst v) w' :=
  ⟨v, rfl, fun e he => by rw [hd] at he; injection he with he; subst he; exact hT, hg, hR⟩

/-- a copy of a slot, or of a constant -/
theorem hop_move (x : Operand) (hk : ops[k]? = some { dst := some d, op := .move x, type := ty, pos := pos, after := after, guard := none })
    (hx : ∀ (a : Act) (w : World), (∀ e, semAv ops par { dst := some d, op := .move x, type := ty, pos := pos, after := after, guard := none } e = true → SV.T g (env e) (a.eval (.tmp e)) w) → SV.T g (env d) (a.eval x) w) :
    HOp (semG g p env) Try.prog ops par n W0 A0 Q k { dst := some d, op := .move x, type := ty, pos := pos, after := after, guard := none } := by
  refine hop_go hk rfl fun j a w hj hav hS hR => ?_
  have hT := hx a w hav
  exact next_ rfl hT (World.grownBy.refl _ _) (hS.mono (by omega))
theorem hop_assign (x : Operand) (hk : ops[k]? = some { dst := some d, op := .assign x, type := ty, pos := pos, after := after, guard := none })
    (hx : ∀ (a : Act) (w : World), (∀ e, semAv ops par { dst := some d, op := .assign x, type := ty, pos := pos, after := after, guard := none } e = true → SV.T g (env e) (a.eval (.tmp e)) w) → SV.T g (env d) (a.eval x) w) :
    HOp (semG g p env) Try.prog ops par n W0 A0 Q k { dst := some d, op := .assign x, type := ty, pos := pos, after := after, guard := none } := by
  refine hop_go hk rfl fun j a w hj hav hS hR => ?_
  have hT := hx a w hav
  exact next_ rfl hT (World.grownBy.refl _ _) (hS.mono (by omega))

/-- an operation that only yields a value -/
theorem hop_val {o : Oper} (hk : ops[k]? = some o) (hg : o.guard = none) (hd : o.dst = some d)
    (h : ∀ (a : Act) (w : World), (∀ e, semAv ops par o e = true → SV.T g (env e) (a.eval (.tmp e)) w) → W0.grownBy w (some g) → ∃ v, (execOp a.eval o).run Try.prog w = .ok (.value v) w ∧ SV.T g (env d) v w) : HOp (semG g p env) Try.prog ops par n W0 A0 Q k o := by
  refine hop_go hk hg fun j a w hj hav hS hR => ?_
  obtain ⟨v, hv, hT⟩ := h a w hav hR
  unfold Oper.wp
  rw [hv]
  exact next_ hd hT (World.grownBy.refl _ _) (hS.mono (by omega))

/-- a pick -/
theorem hop_pick (x y : Operand) (ats : Array TypeId) (m : Int) (hp0 : p + n ≤ 1000000) (m1 : 1 ≤ m) (m2 : m ≤ 1000000) (hk : ops[k]? = some { dst := some d, op := .call { callee := .value (.func 51), args := #[x, y], argTypes := ats }, type := ty, pos := pos, after := after, guard := none })
    (hx : ∀ (a : Act) (w : World), (∀ e, semAv ops par { dst := some d, op := .call { callee := .value (.func 51), args := #[x, y], argTypes := ats }, type := ty, pos := pos, after := after, guard := none } e = true → SV.T g (env e) (a.eval (.tmp e)) w) → a.eval x = .pointer (some ⟨g, 0, none⟩) ∧ a.eval y = .int .i64 m)
    (hT : ∀ (i : Int) (w : World), 0 ≤ i → i < m → SV.T g (env d) (.int .i64 i) w) :
    HOp (semG g p env) Try.prog ops par n W0 A0 Q k { dst := some d, op := .call { callee := .value (.func 51), args := #[x, y], argTypes := ats }, type := ty, pos := pos, after := after, guard := none } := by
  refine hop_go hk rfl fun j a w hj hav hS hR => ?_
  obtain ⟨ex, ey⟩ := hx a w hav
  unfold Oper.wp
  rw [run_pick_ a.eval (some d) ty pos after none w x y ats rfl ex ey, Oper.upon_enter]
  refine (pick_any g (p + j) m w (by omega) (by omega) m2 hS).mono ?_
  rintro e w' ⟨i, rfl, i0, i1, _, hr', hg'⟩
  exact next_ rfl (hT i w' i0 (i1 m1)) hg' (hr'.mono (by omega))

/-- a table of numbers -/
theorem hop_table (m : Nat) (parts : Array (Nat × Operand)) (lo hi : Int) (h0 : 0 < m) (h1 : m ≤ 100) (hl : parts.toList.map Prod.fst = List.range m) (hk : ops[k]? = some { dst := some d, op := .buildSlice 40 m parts, type := ty, pos := pos, after := after, guard := none })
    (he : env d = .tab m lo hi)
    (hx : ∀ (a : Act) (w : World), (∀ e, semAv ops par { dst := some d, op := .buildSlice 40 m parts, type := ty, pos := pos, after := after, guard := none } e = true → SV.T g (env e) (a.eval (.tmp e)) w) → ∀ q ∈ parts.toList, ∃ i : Int, a.eval q.2 = .int .i64 i ∧ lo ≤ i ∧ i ≤ hi) :
    HOp (semG g p env) Try.prog ops par n W0 A0 Q k { dst := some d, op := .buildSlice 40 m parts, type := ty, pos := pos, after := after, guard := none } := by
  refine hop_go hk rfl fun j a w hj hav hS hR => ?_
  have hval := hx a w hav
  have hlen : parts.toList.length = m := by have := congrArg List.length hl; simpa using this
  refine wp_table m parts h0 h1 hl (fun q hq => by obtain ⟨i, e, _⟩ := hval q hq; exact ⟨i, e⟩) ?_
  have hlt := hS.lt
  refine next_ rfl ?_ (World.grownBy_alloc w _ _) ((hS.alloc _).mono (by omega))
  rw [he]
  refine ⟨w.heap.size, rfl, by omega, fun i hi' => ?_⟩
  obtain ⟨v, e, hv⟩ := hval (parts.toList[i]'(by omega)) (List.getElem_mem _)
  refine ⟨v, ?_, hv⟩
  have hi2 : i < (parts.toList.map fun p => a.eval p.2).length := by simp only [List.length_map]; omega
  have := news_alloc w (parts.toList.map fun p => a.eval p.2) 3 i (.int .i64 v) (by rw [List.getElem?_eq_getElem hi2, List.getElem_map]; exact congrArg some e)
  rwa [add_mid, Nat.zero_add] at this

/-- the element of such a table; the number there -/
theorem hop_index_tab (x y : Operand) (m : Nat) (lo hi : Int) (hk : ops[k]? = some { dst := some d, op := .indexAddr 40 x y, type := ty, pos := pos, after := after, guard := none })
    (he : env d = .ad lo hi)
    (hx : ∀ (a : Act) (w : World), (∀ e, semAv ops par { dst := some d, op := .indexAddr 40 x y, type := ty, pos := pos, after := after, guard := none } e = true → SV.T g (env e) (a.eval (.tmp e)) w) → SV.T g (.tab m lo hi) (a.eval x) w ∧ SV.T g (.int 0 (m - 1)) (a.eval y) w) :
    HOp (semG g p env) Try.prog ops par n W0 A0 Q k { dst := some d, op := .indexAddr 40 x y, type := ty, pos := pos, after := after, guard := none } := by
  refine hop_val hk rfl rfl fun a w hav hR => ?_
  obtain ⟨⟨b, e, hb, hc⟩, i, ei, i0, i1⟩ := hx a w hav
  obtain ⟨v, hv, h1, h2⟩ := hc i.toNat (by omega)
  exact ⟨_, run_index_ a.eval (some d) ty pos after none w x y e ei (by omega) (by omega), by rw [he]; exact ⟨b, i.toNat, v, rfl, hb, hv, h1, h2⟩⟩
/-- an address, or the place of an element, in a row with a known block -/
theorem run_len_ (ρ : Operand → Value) (w : World) (x : Operand) (tt te : TypeId) (hu : Try.prog.underlying tt = some (.slice te)) {A : Option Addr} {m c : Nat} (e : ρ x = .slice A m c) :
    (execOp ρ { dst := some d, op := .call { callee := .builtin .len, args := #[x], argTypes := #[tt] }, type := ty, pos := pos, after := after, guard := none }).run Try.prog w = .ok (.value (.int .i64 m)) w := by
  simp [e, go_sem, hu]
theorem run_idx_ (ρ : Operand → Value) (w : World) (x y : Operand) {b m c : Nat} {i : Int} (ex : ρ x = .slice (some ⟨b, 0, none⟩) m c) (ey : ρ y = .int .i64 i) (i0 : 0 ≤ i) (i1 : i < m) :
    (execOp ρ { dst := some d, op := .indexAddr 40 x y, type := ty, pos := pos, after := after, guard := none }).run Try.prog w = .ok (.value (.pointer (some ⟨b, i.toNat, none⟩))) w := by
  simp [execOp, ex, ey, go_sem, i0, i1]
theorem hop_len (x : Operand) (tt te : TypeId) (hu : Try.prog.underlying tt = some (.slice te)) (A : Option Addr) (m c : Nat) (hk : ops[k]? = some { dst := some d, op := .call { callee := .builtin .len, args := #[x], argTypes := #[tt] }, type := ty, pos := pos, after := after, guard := none })
    (he : env d = .val (.int .i64 m))
    (hx : ∀ (a : Act) (w : World), (∀ e, semAv ops par { dst := some d, op := .call { callee := .builtin .len, args := #[x], argTypes := #[tt] }, type := ty, pos := pos, after := after, guard := none } e = true → SV.T g (env e) (a.eval (.tmp e)) w) → a.eval x = .slice A m c) :
    HOp (semG g p env) Try.prog ops par n W0 A0 Q k { dst := some d, op := .call { callee := .builtin .len, args := #[x], argTypes := #[tt] }, type := ty, pos := pos, after := after, guard := none } := by
  refine hop_val hk rfl rfl fun a w hav hR => ⟨.int .i64 m, run_len_ _ _ _ tt te hu (hx a w hav), by rw [he]; rfl⟩
theorem hop_index (x y : Operand) (b m c : Nat) (hk : ops[k]? = some { dst := some d, op := .indexAddr 40 x y, type := ty, pos := pos, after := after, guard := none })
    (he : env d = .el b m 1)
    (hx : ∀ (a : Act) (w : World), (∀ e, semAv ops par { dst := some d, op := .indexAddr 40 x y, type := ty, pos := pos, after := after, guard := none } e = true → SV.T g (env e) (a.eval (.tmp e)) w) → a.eval x = .slice (some ⟨b, 0, none⟩) m c ∧ SV.T g (.int 0 ((m : Int) - 1)) (a.eval y) w) :
    HOp (semG g p env) Try.prog ops par n W0 A0 Q k { dst := some d, op := .indexAddr 40 x y, type := ty, pos := pos, after := after, guard := none } := by
  refine hop_val hk rfl rfl fun a w hav hR => ?_
  obtain ⟨ex, i, ey, i0, i1⟩ := hx a w hav
  have h1 : i < (m : Int) := by omega
  refine ⟨.pointer (some ⟨b, i.toNat, none⟩), run_idx_ _ _ _ _ ex ey i0 h1, ?_⟩
  rw [he]
  exact ⟨i.toNat, by omega, by rw [Nat.mul_one]⟩
theorem hop_load (x : Operand) (b o : Nat) (v : Value) (tv : TypeId) (hb : b ≠ g) (hc : W0.cell? ⟨b, o, none⟩ = some v) (hk : ops[k]? = some { dst := some d, op := .load tv x, type := ty, pos := pos, after := after, guard := none })
    (he : env d = .val v) (hr : ∀ (a : Act) (w : World), a.eval x = .pointer (some ⟨b, o, none⟩) → w.cell? ⟨b, o, none⟩ = some v → (execOp a.eval { dst := some d, op := .load tv x, type := ty, pos := pos, after := after, guard := none }).run Try.prog w = .ok (.value v) w)
    (hx : ∀ (a : Act) (w : World), (∀ e, semAv ops par { dst := some d, op := .load tv x, type := ty, pos := pos, after := after, guard := none } e = true → SV.T g (env e) (a.eval (.tmp e)) w) → a.eval x = .pointer (some ⟨b, o, none⟩)) :
    HOp (semG g p env) Try.prog ops par n W0 A0 Q k { dst := some d, op := .load tv x, type := ty, pos := pos, after := after, guard := none } := by
  refine hop_val hk rfl rfl fun a w hav hR => ⟨v, hr a w (hx a w hav) (hR.cell hc (by simpa using hb)), by rw [he]; rfl⟩
theorem hop_load_ad (x : Operand) (lo hi : Int) (hk : ops[k]? = some { dst := some d, op := .load 3 x, type := ty, pos := pos, after := after, guard := none })
    (he : env d = .int lo hi)
    (hx : ∀ (a : Act) (w : World), (∀ e, semAv ops par { dst := some d, op := .load 3 x, type := ty, pos := pos, after := after, guard := none } e = true → SV.T g (env e) (a.eval (.tmp e)) w) → SV.T g (.ad lo hi) (a.eval x) w) :
    HOp (semG g p env) Try.prog ops par n W0 A0 Q k { dst := some d, op := .load 3 x, type := ty, pos := pos, after := after, guard := none } := by
  refine hop_val hk rfl rfl fun a w hav hR => ?_
  obtain ⟨b, o, v, e, hb, hc, h1, h2⟩ := hx a w hav
  exact ⟨_, run_load_ a.eval (some d) ty pos after none w x e hc, by rw [he]; exact ⟨v, rfl, h1, h2⟩⟩
end
end Go.Proofs.Ytejnieoneknbbaa
