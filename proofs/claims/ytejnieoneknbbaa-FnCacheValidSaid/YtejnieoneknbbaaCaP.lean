/-
  The cache, plain: what reading, writing and flushing do to what is seen.
-/
import Derived.Test.YtejnieoneknbbaaInts
import Derived.Test.YtejnieoneknbbaaLnA
import Derived.Test.YtejnieoneknbbaaAlive
namespace Go.Proofs.Ytejnieoneknbbaa
open Go.ChangeShapes Go.WideShapes Go.ChangeAt Go.RowKit Go.BigFrame

def lnOk (size : Int) (x : Ln) : Bool := inB x.at_ 0 (size - 1) && inB x.value 0 255
/-- a cache is valid for a disk with that many sectors -/
def cvB (L : List Ln) (most size : Int) : Bool :=
  inB size 0 64 && inB most 1 8 && decide ((L.length : Int) ≤ most) && L.all (lnOk size) && decide ((L.map Ln.at_).Nodup)
theorem cvB_iff {L : List Ln} {most size : Int} : cvB L most size = true ↔ inB size 0 64 = true ∧ inB most 1 8 = true ∧ (L.length : Int) ≤ most ∧ (∀ x ∈ L, lnOk size x = true) ∧ (L.map Ln.at_).Nodup := by
  simp [cvB, and_assoc]
theorem lnOk_iff {size : Int} {x : Ln} : lnOk size x = true ↔ (0 ≤ x.at_ ∧ x.at_ ≤ size - 1) ∧ 0 ≤ x.value ∧ x.value ≤ 255 := by
  simp [lnOk, inB_iff]

/-- a cache and its disk -/
structure Ca where
  L : List Ln
  M : Int
  D : List Int
  deriving DecidableEq
def Ca.zero : Ca := ⟨[], 0, []⟩
def Ca.ok (c : Ca) : Bool := diskB c.D && cvB c.L c.M c.D.length
def lineR (L : List Ln) (d : List Int) (a : Int) : Ln := match L.find? (fun x => x.at_ == a) with
  | some x => x
  | none => ⟨a, d.getD a.toNat 0, false⟩
def useAll (L : List Ln) (x : Ln) : List Ln := x :: L.filter (fun y => y.at_ != x.at_)
def setD (d : List Int) (x : Ln) : List Int := d.set x.at_.toNat x.value
def dropD (d : List Int) (y : Ln) : List Int := if y.dirty = true then setD d y else d
def useD (U : List Ln) (most : Nat) (d : List Int) : List Int := match U[most]? with
  | some y => dropD d y
  | none => d
def Ca.use (c : Ca) (x : Ln) : Ca := ⟨(useAll c.L x).take c.M.toNat, c.M, useD (useAll c.L x) c.M.toNat c.D⟩
def caAt (c : Ca) (a : Int) : Bool := c.ok && inB a 0 (c.D.length - 1)
def readV (c : Ca) (a : Int) : Int := if caAt c a = true then (lineR c.L c.D a).value else -1
def readC (c : Ca) (a : Int) : Ca := if caAt c a = true then c.use (lineR c.L c.D a) else Ca.zero
def writeC (c : Ca) (a v : Int) : Ca := if (caAt c a && inB v 0 255) = true then c.use ⟨a, v, true⟩ else Ca.zero
def clr (x : Ln) : Ln := ⟨x.at_, x.value, false⟩
def viewD (L : List Ln) (d : List Int) : List Int := L.foldl setD d
def flushD (L : List Ln) (d : List Int) : List Int := L.foldl dropD d
def flushC (c : Ca) : Ca := if c.ok = true then ⟨c.L.map clr, c.M, flushD c.L c.D⟩ else Ca.zero
def viewC (c : Ca) : List Int := if c.ok = true then viewD c.L c.D else []
/-- lines that are not dirty have the values of the disk -/
def cleanB (L : List Ln) (d : List Int) : Bool := L.all fun x => x.dirty || (d.getD x.at_.toNat 0 == x.value)

theorem setD_length (d : List Int) (x : Ln) : (setD d x).length = d.length := by simp [setD]
theorem dropD_length (d : List Int) (x : Ln) : (dropD d x).length = d.length := by unfold dropD; split <;> simp [setD]
theorem useD_length (U : List Ln) (m : Nat) (d : List Int) : (useD U m d).length = d.length := by
  unfold useD; split
  · exact dropD_length _ _
  · rfl
theorem viewD_length (L : List Ln) : ∀ d, (viewD L d).length = d.length := by
  induction L with
  | nil => intro d; rfl
  | cons x L ih => intro d; show (viewD L (setD d x)).length = _; rw [ih, setD_length]
theorem flushD_length (L : List Ln) : ∀ d, (flushD L d).length = d.length := by
  induction L with
  | nil => intro d; rfl
  | cons x L ih => intro d; show (flushD L (dropD d x)).length = _; rw [ih, dropD_length]

/-- the value that is seen at a sector -/
def seen (L : List Ln) (d : List Int) (i : Nat) : Option Int := match L.find? (fun x => x.at_ == (i : Int)) with
  | some x => some x.value
  | none => d[i]?
theorem setD_get {d : List Int} {x : Ln} (h0 : 0 ≤ x.at_) (h1 : x.at_ < d.length) (i : Nat) : (setD d x)[i]? = if x.at_ = (i : Int) then some x.value else d[i]? := by
  unfold setD
  rw [List.getElem?_set]
  by_cases e : x.at_ = (i : Int)
  · rw [if_pos (by omega), if_pos (by omega), if_pos e]
  · rw [if_neg (by omega), if_neg e]
theorem viewD_get : ∀ (L : List Ln) (d : List Int), (∀ x ∈ L, 0 ≤ x.at_ ∧ x.at_ < d.length) → (L.map Ln.at_).Nodup → ∀ i, (viewD L d)[i]? = seen L d i := by
  intro L
  induction L with
  | nil => intro d _ _ i; rfl
  | cons x L ih =>
    intro d hr hn i
    rw [List.map_cons, List.nodup_cons] at hn
    obtain ⟨hx0, hx1⟩ := hr x List.mem_cons_self
    show (viewD L (setD d x))[i]? = _
    rw [ih (setD d x) (fun y hy => by rw [setD_length]; exact hr y (List.mem_cons_of_mem _ hy)) hn.2 i]
    unfold seen
    rw [List.find?_cons]
    by_cases e : x.at_ = (i : Int)
    · have h1 : (x.at_ == (i : Int)) = true := by simpa using e
      rw [h1]
      have h2 : L.find? (fun x => x.at_ == (i : Int)) = none := by
        rw [List.find?_eq_none]
        intro y hy hy2
        refine hn.1 (List.mem_map.2 ⟨y, hy, ?_⟩)
        have : y.at_ = (i : Int) := by simpa using hy2
        omega
      rw [h2]
      show (setD d x)[i]? = some x.value
      rw [setD_get hx0 hx1, if_pos e]
    · have h1 : (x.at_ == (i : Int)) = false := by simpa using e
      rw [h1]
      cases h2 : L.find? (fun x => x.at_ == (i : Int)) with
      | some y => rfl
      | none =>
        show (setD d x)[i]? = d[i]?
        rw [setD_get hx0 hx1, if_neg e]
theorem flushD_eq (L : List Ln) : ∀ d, flushD L d = viewD (L.filter Ln.dirty) d := by
  induction L with
  | nil => intro d; rfl
  | cons x L ih =>
    intro d
    show flushD L (dropD d x) = _
    rw [ih]
    cases h : x.dirty
    · rw [List.filter_cons_of_neg (by simp [h])]; unfold dropD; rw [if_neg (by simp [h])]
    · rw [List.filter_cons_of_pos h]; unfold dropD; rw [if_pos h]; rfl

/-- what a valid cache tells -/
structure COk (c : Ca) : Prop where
  len : c.D.length ≤ 64
  val : ∀ v ∈ c.D, 0 ≤ v ∧ v ≤ 255
  m0 : 1 ≤ c.M
  m1 : c.M ≤ 8
  most : (c.L.length : Int) ≤ c.M
  lns : ∀ x ∈ c.L, (0 ≤ x.at_ ∧ x.at_ < c.D.length) ∧ 0 ≤ x.value ∧ x.value ≤ 255
  nd : (c.L.map Ln.at_).Nodup
theorem ok_iff {c : Ca} : c.ok = true ↔ COk c := by
  unfold Ca.ok diskB
  simp only [Bool.and_eq_true, decide_eq_true_eq, cvB_iff, inB_iff, lnOk_iff, allB, List.all_eq_true]
  constructor
  · rintro ⟨⟨h1, h2⟩, h3, h4, h5, h6, h7⟩
    exact ⟨h1, h2, h4.1, h4.2, h5, fun x hx => by have := h6 x hx; omega, h7⟩
  · intro h
    exact ⟨⟨h.len, h.val⟩, ⟨by omega, by have := h.len; omega⟩, ⟨h.m0, h.m1⟩, h.most, fun x hx => by have := h.lns x hx; omega, h.nd⟩
theorem cok_setD {d : List Int} (h : ∀ v ∈ d, 0 ≤ v ∧ v ≤ 255) {x : Ln} (hx : 0 ≤ x.value ∧ x.value ≤ 255) : ∀ v ∈ setD d x, 0 ≤ v ∧ v ≤ 255 := by
  intro v hv
  unfold setD at hv
  rcases List.mem_or_eq_of_mem_set hv with hv | rfl
  · exact h v hv
  · exact hx
theorem mem_useAll {L : List Ln} {x y : Ln} (h : y ∈ useAll L x) : y = x ∨ (y ∈ L ∧ y.at_ ≠ x.at_) := by
  unfold useAll at h
  rcases List.mem_cons.1 h with h | h
  · exact .inl h
  · have := List.mem_filter.1 h
    exact .inr ⟨this.1, by simpa using this.2⟩
theorem useAll_nodup {L : List Ln} (h : (L.map Ln.at_).Nodup) (x : Ln) : ((useAll L x).map Ln.at_).Nodup := by
  unfold useAll
  rw [List.map_cons, List.nodup_cons]
  refine ⟨fun hm => ?_, h.sublist ((List.filter_sublist (l := L)).map _)⟩
  obtain ⟨y, hy, e⟩ := List.mem_map.1 hm
  have := (List.mem_filter.1 hy).2
  simp at this
  exact this e
theorem useAll_length (L : List Ln) (x : Ln) : (useAll L x).length ≤ L.length + 1 := by
  have := List.length_filter_le (fun y : Ln => y.at_ != x.at_) L
  simp only [useAll, List.length_cons]; omega

theorem seen_useAll (L : List Ln) (x : Ln) (d : List Int) (i : Nat) : seen (useAll L x) d i = if x.at_ = (i : Int) then some x.value else seen L d i := by
  unfold seen useAll
  rw [List.find?_cons]
  by_cases e : x.at_ = (i : Int)
  · have h1 : (x.at_ == (i : Int)) = true := by simpa using e
    rw [h1, if_pos e]
  · have h1 : (x.at_ == (i : Int)) = false := by simpa using e
    rw [h1, if_neg e]
    have h2 : (L.filter (fun y => y.at_ != x.at_)).find? (fun y => y.at_ == (i : Int)) = L.find? (fun y => y.at_ == (i : Int)) := by
      rw [List.find?_filter]
      congr 1
      funext y
      by_cases e2 : y.at_ = (i : Int)
      · have : ¬ y.at_ = x.at_ := by omega
        simp [e2]; omega
      · simp [e2]
    rw [h2]

theorem use_ok {c : Ca} (h : COk c) {x : Ln} (hx0 : 0 ≤ x.at_ ∧ x.at_ < c.D.length) (hx1 : 0 ≤ x.value ∧ x.value ≤ 255) : COk (c.use x) := by
  have hm : ∀ y ∈ useAll c.L x, (0 ≤ y.at_ ∧ y.at_ < c.D.length) ∧ 0 ≤ y.value ∧ y.value ≤ 255 := fun y hy => by
    rcases mem_useAll hy with rfl | ⟨hy, _⟩
    · exact ⟨hx0, hx1⟩
    · exact h.lns y hy
  have hl : (c.use x).D.length = c.D.length := useD_length _ _ _
  refine ⟨by rw [hl]; exact h.len, ?_, h.m0, h.m1, ?_, ?_, ?_⟩
  · intro v hv
    show _
    have hv' : v ∈ useD (useAll c.L x) c.M.toNat c.D := hv
    unfold useD at hv'
    cases e : (useAll c.L x)[c.M.toNat]? with
    | none => rw [e] at hv'; exact h.val v hv'
    | some y =>
      rw [e] at hv'
      replace hv' : v ∈ dropD c.D y := hv'
      unfold dropD at hv'
      split at hv'
      · exact cok_setD h.val (hm y (List.mem_of_getElem? e)).2 v hv'
      · exact h.val v hv'
  · show (((useAll c.L x).take c.M.toNat).length : Int) ≤ c.M
    rw [List.length_take]
    have := h.m0
    omega
  · intro y hy
    rw [hl]
    exact hm y (List.mem_of_mem_take hy)
  · show (((useAll c.L x).take c.M.toNat).map Ln.at_).Nodup
    exact (useAll_nodup h.nd x).sublist ((List.take_sublist _ _).map _)

def Clean (L : List Ln) (d : List Int) : Prop := ∀ x ∈ L, x.dirty = false → d[x.at_.toNat]? = some x.value
theorem clean_iff {L : List Ln} {d : List Int} (h : ∀ x ∈ L, 0 ≤ x.at_ ∧ x.at_ < d.length) : cleanB L d = true ↔ Clean L d := by
  unfold cleanB Clean
  rw [List.all_eq_true]
  constructor
  · intro hc x hx hd
    have := hc x hx
    rw [hd] at this
    have h2 : x.at_.toNat < d.length := by have := h x hx; omega
    simp [List.getD, List.getElem?_eq_getElem h2] at this
    rw [List.getElem?_eq_getElem h2, this]
  · intro hc x hx
    cases hd : x.dirty
    · have := hc x hx hd
      simp [List.getD, this]
    · rfl
theorem use_split {U : List Ln} {m : Nat} (h : U.length ≤ m + 1) : (U.take m = U ∧ U[m]? = none) ∨ ∃ y, U[m]? = some y ∧ U = U.take m ++ [y] := by
  by_cases e : U.length ≤ m
  · left; exact ⟨List.take_of_length_le e, by simp; omega⟩
  · right
    have hm : m < U.length := by omega
    refine ⟨U[m], List.getElem?_eq_getElem hm, ?_⟩
    rw [List.take_append_getElem hm]
    exact (List.take_of_length_le (by omega)).symm

theorem seen_append (T : List Ln) (y : Ln) (d d' : List Int) (i : Nat) (h : d'[i]? = if y.at_ = (i : Int) then some y.value else d[i]?) : seen T d' i = seen (T ++ [y]) d i := by
  unfold seen
  rw [List.find?_append]
  cases T.find? (fun x => x.at_ == (i : Int)) with
  | some z => rfl
  | none =>
    simp only [Option.none_or, List.find?_cons, List.find?_nil]
    rw [h]
    by_cases e : y.at_ = (i : Int)
    · simp [e]
    · have : (y.at_ == (i : Int)) = false := by simpa using e
      simp [e, this]
theorem dropD_get {d : List Int} {y : Ln} (h0 : 0 ≤ y.at_) (h1 : y.at_ < d.length) (hc : y.dirty = false → d[y.at_.toNat]? = some y.value) (i : Nat) : (dropD d y)[i]? = if y.at_ = (i : Int) then some y.value else d[i]? := by
  cases hd : y.dirty
  · unfold dropD; rw [if_neg (by simp [hd])]
    by_cases e : y.at_ = (i : Int)
    · rw [if_pos e, ← hc hd]; congr 1; omega
    · rw [if_neg e]
  · unfold dropD; rw [if_pos hd]; exact setD_get h0 h1 i
theorem use_view {c : Ca} (h : COk c) (hc : Clean c.L c.D) {x : Ln} (hx0 : 0 ≤ x.at_ ∧ x.at_ < c.D.length) (hx1 : 0 ≤ x.value ∧ x.value ≤ 255) (hxc : x.dirty = false → c.D[x.at_.toNat]? = some x.value) :
    (∀ i : Nat, seen (c.use x).L (c.use x).D i = if x.at_ = (i : Int) then some x.value else seen c.L c.D i) ∧ Clean (c.use x).L (c.use x).D := by
  have hlen : (useAll c.L x).length ≤ c.M.toNat + 1 := by have := useAll_length c.L x; have := h.most; omega
  have hcU : ∀ y ∈ useAll c.L x, y.dirty = false → c.D[y.at_.toNat]? = some y.value := fun y hy hd => by
    rcases mem_useAll hy with rfl | ⟨hy, _⟩
    · exact hxc hd
    · exact hc y hy hd
  have hm : ∀ y ∈ useAll c.L x, 0 ≤ y.at_ ∧ y.at_ < c.D.length := fun y hy => by
    rcases mem_useAll hy with rfl | ⟨hy, _⟩
    · exact hx0
    · exact (h.lns y hy).1
  have hnd := useAll_nodup h.nd x
  have key := seen_useAll c.L x c.D
  unfold Ca.use
  simp only
  rcases use_split hlen with ⟨h1, h2⟩ | ⟨y, h1, h2⟩
  · unfold useD
    rw [h1, h2]
    exact ⟨key, hcU⟩
  · have hyU : y ∈ useAll c.L x := List.mem_of_getElem? h1
    have hD : ∀ i : Nat, (useD (useAll c.L x) c.M.toNat c.D)[i]? = if y.at_ = (i : Int) then some y.value else c.D[i]? := fun i => by
      unfold useD; rw [h1]
      exact dropD_get (hm y hyU).1 (hm y hyU).2 (hcU y hyU) i
    refine ⟨fun i => ?_, fun z hz hd => ?_⟩
    · rw [seen_append _ y c.D _ i (hD i), ← h2]; exact key i
    · rw [hD, if_neg, hcU z (List.mem_of_mem_take hz) hd]
      have hz0 := hm z (List.mem_of_mem_take hz)
      rw [h2, List.map_append, List.nodup_append] at hnd
      have := hnd.2.2 z.at_ (List.mem_map.2 ⟨z, hz, rfl⟩) y.at_ (by simp)
      omega

theorem lineR_facts {c : Ca} (h : COk c) {a : Int} (ha : 0 ≤ a ∧ a < c.D.length) : (lineR c.L c.D a).at_ = a ∧ (0 ≤ (lineR c.L c.D a).value ∧ (lineR c.L c.D a).value ≤ 255) ∧ seen c.L c.D a.toNat = some (lineR c.L c.D a).value ∧ (Clean c.L c.D → (lineR c.L c.D a).dirty = false → c.D[(lineR c.L c.D a).at_.toNat]? = some (lineR c.L c.D a).value) := by
  have hz : ((a.toNat : Nat) : Int) = a := by omega
  have hlt : a.toNat < c.D.length := by omega
  unfold lineR seen
  rw [hz]
  cases e : c.L.find? (fun x => x.at_ == a) with
  | some x =>
    have hx := List.mem_of_find?_eq_some e
    have he : x.at_ = a := by have := List.find?_some e; simpa using this
    exact ⟨he, (h.lns x hx).2, rfl, fun hc hd => hc x hx hd⟩
  | none =>
    have hg : c.D.getD a.toNat 0 = c.D[a.toNat] := by simp [hlt]
    refine ⟨rfl, ?_, ?_, fun _ _ => ?_⟩
    · show 0 ≤ c.D.getD a.toNat 0 ∧ c.D.getD a.toNat 0 ≤ 255
      rw [hg]; exact h.val _ (List.getElem_mem hlt)
    · show c.D[a.toNat]? = some (c.D.getD a.toNat 0)
      rw [hg]; simp [hlt]
    · show c.D[a.toNat]? = some (c.D.getD a.toNat 0)
      rw [hg]; simp [hlt]
theorem viewC_seen {c : Ca} (h : COk c) : ∀ i, (viewC c)[i]? = seen c.L c.D i := by
  unfold viewC
  rw [if_pos (ok_iff.2 h)]
  exact viewD_get c.L c.D (fun x hx => (h.lns x hx).1) h.nd
theorem viewC_length {c : Ca} (h : COk c) : (viewC c).length = c.D.length := by
  unfold viewC
  rw [if_pos (ok_iff.2 h)]
  exact viewD_length _ _
theorem caAt_parts {c : Ca} {a : Int} (h : caAt c a = true) : COk c ∧ 0 ≤ a ∧ a < c.D.length := by
  unfold caAt at h
  simp only [Bool.and_eq_true, inB_iff] at h
  exact ⟨ok_iff.1 h.1, h.2.1, by omega⟩
theorem caAt_mk {c : Ca} {a : Int} (h : COk c) (h0 : 0 ≤ a) (h1 : a < c.D.length) : caAt c a = true := by
  unfold caAt
  simp only [Bool.and_eq_true, inB_iff]
  exact ⟨ok_iff.2 h, h0, by omega⟩

/-- READING -/
theorem read_law {c : Ca} {a : Int} (h : caAt c a = true) : (viewC c).length = c.D.length ∧ (viewC c)[a.toNat]? = some (readV c a) ∧ (0 ≤ readV c a) ∧ COk (readC c a) ∧ (readC c a).D.length = c.D.length ∧ (∃ (x : Ln) (r : List Ln), (readC c a).L = x :: r ∧ x.at_ = a ∧ x.value = readV c a) ∧ (Clean c.L c.D → viewC (readC c a) = viewC c ∧ Clean (readC c a).L (readC c a).D) := by
  obtain ⟨hk, a0, a1⟩ := caAt_parts h
  obtain ⟨f1, f2, f3, f4⟩ := lineR_facts hk ⟨a0, a1⟩
  unfold readV readC
  rw [if_pos h, if_pos h]
  obtain ⟨x, hx⟩ : ∃ x, lineR c.L c.D a = x := ⟨_, rfl⟩
  rw [hx] at f1 f2 f3 f4 ⊢
  have hu := use_ok hk (x := x) (by omega) f2
  have hl : (c.use x).D.length = c.D.length := useD_length _ _ _
  refine ⟨viewC_length hk, by rw [viewC_seen hk, f3], f2.1, hu, hl, ⟨x, (c.L.filter (fun y => y.at_ != x.at_)).take (c.M.toNat - 1), ?_, f1, rfl⟩, fun hc => ?_⟩
  · have hm : c.M.toNat = (c.M.toNat - 1) + 1 := by have := hk.m0; omega
    show (useAll c.L x).take c.M.toNat = _
    rw [hm]; rfl
  · obtain ⟨u1, u2⟩ := use_view hk hc (x := x) (by omega) f2 (f4 hc)
    refine ⟨?_, u2⟩
    apply List.ext_getElem?
    intro i
    rw [viewC_seen hu, viewC_seen hk, u1 i]
    by_cases e : x.at_ = (i : Int)
    · rw [if_pos e, ← f3]; congr 1; omega
    · rw [if_neg e]
/-- WRITING -/
theorem write_law {c : Ca} {a v : Int} (h : caAt c a = true) (hv : 0 ≤ v ∧ v ≤ 255) : COk (writeC c a v) ∧ (writeC c a v).D.length = c.D.length ∧ caAt (writeC c a v) a = true ∧ readV (writeC c a v) a = v ∧ (Clean c.L c.D → viewC (writeC c a v) = (viewC c).set a.toNat v ∧ Clean (writeC c a v).L (writeC c a v).D) := by
  obtain ⟨hk, a0, a1⟩ := caAt_parts h
  unfold writeC
  rw [if_pos (by rw [h]; simpa using inB_iff.2 hv)]
  have hu := use_ok hk (x := ⟨a, v, true⟩) ⟨a0, a1⟩ hv
  have hl : (c.use ⟨a, v, true⟩).D.length = c.D.length := useD_length _ _ _
  have hat : caAt (c.use ⟨a, v, true⟩) a = true := caAt_mk hu a0 (by omega)
  refine ⟨hu, hl, hat, ?_, fun hc => ?_⟩
  · unfold readV
    rw [if_pos hat]
    have hm : c.M.toNat = (c.M.toNat - 1) + 1 := by have := hk.m0; omega
    have : (c.use ⟨a, v, true⟩).L = ⟨a, v, true⟩ :: (c.L.filter (fun y => y.at_ != a)).take (c.M.toNat - 1) := by
      show (useAll c.L ⟨a, v, true⟩).take c.M.toNat = _
      rw [hm]; rfl
    unfold lineR
    rw [this]
    simp
  · obtain ⟨u1, u2⟩ := use_view hk hc (x := ⟨a, v, true⟩) ⟨a0, a1⟩ hv (fun e => by cases e)
    refine ⟨?_, u2⟩
    apply List.ext_getElem?
    intro i
    rw [viewC_seen hu, u1 i, List.getElem?_set, viewC_length hk, viewC_seen hk]
    simp only
    by_cases e : a = (i : Int)
    · rw [if_pos e, if_pos (by omega), if_pos (by omega)]
    · rw [if_neg e, if_neg (by omega)]
/-- FLUSHING -/
theorem flush_law {c : Ca} (h : COk c) : COk (flushC c) ∧ (flushC c).M = c.M ∧ (∀ x ∈ (flushC c).L, x.dirty = false) ∧ flushC (flushC c) = flushC c ∧ (Clean c.L c.D → (flushC c).D = viewC c) := by
  have hok := ok_iff.2 h
  have hl : (flushD c.L c.D).length = c.D.length := flushD_length _ _
  have hmap : (c.L.map clr).map Ln.at_ = c.L.map Ln.at_ := by rw [List.map_map]; rfl
  have hfin : ∀ (L : List Ln) (d : List Int), (∀ x ∈ L, (0 ≤ x.value ∧ x.value ≤ 255)) → (∀ v ∈ d, 0 ≤ v ∧ v ≤ 255) → ∀ v ∈ flushD L d, 0 ≤ v ∧ v ≤ 255 := by
    intro L
    induction L with
    | nil => intro d _ hd; exact hd
    | cons x L ih =>
      intro d hL hd
      show ∀ v ∈ flushD L (dropD d x), _
      refine ih _ (fun y hy => hL y (List.mem_cons_of_mem _ hy)) ?_
      unfold dropD
      split
      · exact cok_setD hd (hL x List.mem_cons_self)
      · exact hd
  have hk : COk ⟨c.L.map clr, c.M, flushD c.L c.D⟩ := by
    refine ⟨by rw [hl]; exact h.len, hfin _ _ (fun x hx => (h.lns x hx).2) h.val, h.m0, h.m1, by simpa using h.most, ?_, by rw [hmap]; exact h.nd⟩
    intro x hx
    obtain ⟨y, hy, rfl⟩ := List.mem_map.1 hx
    rw [hl]
    exact h.lns y hy
  have hf : flushC c = ⟨c.L.map clr, c.M, flushD c.L c.D⟩ := if_pos hok
  have hcl : ∀ x ∈ c.L.map clr, x.dirty = false := fun x hx => by obtain ⟨y, _, rfl⟩ := List.mem_map.1 hx; rfl
  rw [hf]
  refine ⟨hk, rfl, hcl, ?_, fun hc => ?_⟩
  · unfold flushC
    rw [if_pos (ok_iff.2 hk)]
    have h1 : (c.L.map clr).map clr = c.L.map clr := by rw [List.map_map]; rfl
    have h2 : flushD (c.L.map clr) (flushD c.L c.D) = flushD c.L c.D := by
      rw [flushD_eq]
      have : (c.L.map clr).filter Ln.dirty = [] := by
        rw [List.filter_eq_nil_iff]
        intro x hx
        rw [hcl x hx]; simp
      rw [this]; rfl
    rw [h1, h2]
  · apply List.ext_getElem?
    intro i
    rw [viewC_seen h]
    show (flushD c.L c.D)[i]? = _
    rw [flushD_eq, viewD_get _ _ (fun x hx => (h.lns x (List.mem_filter.1 hx).1).1) (h.nd.sublist ((List.filter_sublist (l := c.L)).map _))]
    unfold seen
    rw [List.find?_filter]
    cases e : c.L.find? (fun x => x.at_ == (i : Int)) with
    | none =>
      have : c.L.find? (fun a => decide (a.dirty = true ∧ (a.at_ == (i : Int)) = true)) = none := by
        rw [List.find?_eq_none] at e ⊢
        intro x hx
        have := e x hx
        simp at this ⊢
        intro _; exact this
      rw [this]
    | some x =>
      have hx := List.mem_of_find?_eq_some e
      have he : x.at_ = (i : Int) := by have := List.find?_some e; simpa using this
      have uniq : ∀ y ∈ c.L, y.at_ = (i : Int) → y = x := fun y hy hy2 => by
        obtain ⟨p, hp, rfl⟩ := List.getElem_of_mem hy
        obtain ⟨q, hq, rfl⟩ := List.getElem_of_mem hx
        have hne : ∀ (i j : Nat) (hi : i < c.L.length) (hj : j < c.L.length), i < j → c.L[i].at_ ≠ c.L[j].at_ := fun i j hi hj hij => by
          have := List.pairwise_iff_getElem.1 h.nd i j (by rw [List.length_map]; exact hi) (by rw [List.length_map]; exact hj) hij
          rwa [List.getElem_map, List.getElem_map] at this
        rcases Nat.lt_trichotomy p q with g | g | g
        · exact absurd (hy2.trans he.symm) (hne p q hp hq g)
        · subst g; rfl
        · exact absurd (he.trans hy2.symm) (hne q p hq hp g)
      cases hd : x.dirty
      · have : c.L.find? (fun a => decide (a.dirty = true ∧ (a.at_ == (i : Int)) = true)) = none := by
          rw [List.find?_eq_none]
          intro y hy hy2
          simp at hy2
          have := uniq y hy hy2.2
          subst this
          rw [hd] at hy2; cases hy2.1
        rw [this]
        show c.D[i]? = some x.value
        rw [← hc x hx hd]; congr 1; omega
      · have : ∃ z, c.L.find? (fun a => decide (a.dirty = true ∧ (a.at_ == (i : Int)) = true)) = some z := by
          cases e3 : c.L.find? (fun a => decide (a.dirty = true ∧ (a.at_ == (i : Int)) = true)) with
          | some z => exact ⟨z, rfl⟩
          | none =>
            rw [List.find?_eq_none] at e3
            have := e3 x hx
            simp [hd, he] at this
        obtain ⟨z, hz⟩ := this
        rw [hz]
        have hz2 := List.find?_some hz
        simp at hz2
        rw [uniq z (List.mem_of_find?_eq_some hz) hz2.2]
/-- the first line away; a line twice -/
theorem valid_less {x : Ln} {L : List Ln} {most size : Int} (h : cvB (x :: L) most size = true) : cvB L most size = true := by
  rw [cvB_iff] at h ⊢
  obtain ⟨h1, h2, h3, h4, h5⟩ := h
  rw [List.map_cons, List.nodup_cons] at h5
  rw [List.length_cons] at h3
  exact ⟨h1, h2, by omega, fun y hy => h4 y (List.mem_cons_of_mem _ hy), h5.2⟩
theorem valid_twice (x : Ln) (L : List Ln) (most size : Int) : cvB ((x :: L) ++ [x]) most size = false := by
  cases h : cvB ((x :: L) ++ [x]) most size
  · rfl
  · rw [cvB_iff] at h
    have := h.2.2.2.2
    simp at this
/-- a cache with one line -/
theorem small_law {d : List Int} {a v : Int} (h : caAt ⟨[], 1, d⟩ a = true) (hv : 0 ≤ v ∧ v ≤ 255) :
    writeC ⟨[], 1, d⟩ a v = ⟨[⟨a, v, true⟩], 1, d⟩ ∧ (2 ≤ d.length → ∀ b : Int, 0 ≤ b → b < d.length → b ≠ a → readC ⟨[⟨a, v, true⟩], 1, d⟩ b = ⟨[⟨b, d.getD b.toNat 0, false⟩], 1, d.set a.toNat v⟩ ∧ readV ⟨[⟨a, v, true⟩], 1, d⟩ b = d.getD b.toNat 0) := by
  have hw : writeC ⟨[], 1, d⟩ a v = ⟨[⟨a, v, true⟩], 1, d⟩ := by
    unfold writeC
    rw [if_pos (by rw [h]; simpa using inB_iff.2 hv)]
    rfl
  refine ⟨hw, fun _ b b0 b1 hb => ?_⟩
  obtain ⟨hk, a0, a1⟩ := caAt_parts h
  have hk2 := (write_law h hv).1
  rw [hw] at hk2
  have hat : caAt ⟨[⟨a, v, true⟩], 1, d⟩ b = true := caAt_mk hk2 b0 b1
  have hl : lineR [⟨a, v, true⟩] d b = ⟨b, d.getD b.toNat 0, false⟩ := by
    unfold lineR
    have : ((⟨a, v, true⟩ : Ln).at_ == b) = false := by simp; omega
    rw [List.find?_cons, this]; rfl
  unfold readC readV
  rw [if_pos hat, if_pos hat]
  simp only [hl]
  refine ⟨?_, trivial⟩
  unfold Ca.use useAll
  have : ((⟨a, v, true⟩ : Ln).at_ != b) = true := by simp; omega
  simp only [List.filter_cons, this, if_true, List.filter_nil]
  rfl
end Go.Proofs.Ytejnieoneknbbaa
