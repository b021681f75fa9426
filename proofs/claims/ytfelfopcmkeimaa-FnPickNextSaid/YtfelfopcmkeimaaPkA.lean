/-
  Schedulers: the request that is served next.
-/
import Derived.Test.YtfelfopcmkeimaaScJ
import Derived.Test.YtfelfopcmkeimaaSgA
import Derived.Test.YtfelfopcmkeimaaSkA
import Derived.BigRegion
namespace Go.Proofs.Ytfelfopcmkeimaa
open Go.ChangeShapes Go.WideShapes Go.ChangeAt Go.RowKit Go.BigFrame

/-- the first number less than n with a property; -1 without one -/
def fst_ (p : Nat → Bool) (n : Nat) : Int := match (List.range n).find? p with
  | some k => (k : Int)
  | none => -1
theorem fst_at {p : Nat → Bool} {n k : Nat} (h : p k = true) (hk : k < n) (h0 : ∀ i, i < k → p i = false) : fst_ p n = (k : Int) := by
  have : (List.range n).find? p = some k := by
    rw [List.find?_range_eq_some]
    exact ⟨h, by simpa using hk, fun i hi => by rw [h0 i hi]; rfl⟩
  unfold fst_; rw [this]
theorem fst_no {p : Nat → Bool} {n : Nat} (h0 : ∀ i, i < n → p i = false) : fst_ p n = -1 := by
  have : (List.range n).find? p = none := by
    rw [List.find?_eq_none]
    intro i hi
    rw [h0 i (List.mem_range.1 hi)]; simp
  unfold fst_; rw [this]
theorem fst_cases (p : Nat → Bool) (n : Nat) : (fst_ p n = -1 ∧ ∀ i, i < n → p i = false) ∨ ∃ k : Nat, fst_ p n = (k : Int) ∧ k < n ∧ p k = true ∧ ∀ i, i < k → p i = false := by
  rcases h : (List.range n).find? p with _ | k
  · left
    have h0 : ∀ i, i < n → p i = false := fun i hi => by
      have := List.find?_eq_none.1 h i (List.mem_range.2 hi)
      simpa using this
    exact ⟨fst_no h0, h0⟩
  · right
    rw [List.find?_range_eq_some] at h
    have hk : k < n := by simpa using h.2.1
    have h0 : ∀ i, i < k → p i = false := fun i hi => by simpa using h.2.2 i hi
    exact ⟨k, fst_at h.1 hk h0, hk, h.1, h0⟩

/-- the field Write of the request at a place; a time -/
def wrK (l : List Rq) (k : Nat) : Bool := match l[k]? with
  | some r => r.write
  | none => false
theorem wrK_get (l : List Rq) (k : Nat) (h : k < l.length) : wrK l k = l[k].write := by simp [wrK, h]
def tmK (ts : List Int) (k : Nat) : Int := ts.getD k 0
theorem tmK_get (ts : List Int) (k : Nat) (h : k < ts.length) : tmK ts k = ts[k] := by simp [tmK, h]
/-- the request at a place writes (or not) and has waited -/
def dueB (l : List Rq) (ts : List Int) (now : Int) (b : Bool) (lim : Int) (k : Nat) : Bool := (wrK l k == b) && decide (lim ≤ now - tmK ts k)
def pickN (l : List Rq) (ts : List Int) (now head reads writes : Int) : Int :=
  if 0 ≤ fst_ (dueB l ts now false reads) l.length then fst_ (dueB l ts now false reads) l.length
  else if 0 ≤ fst_ (dueB l ts now true writes) l.length then fst_ (dueB l ts now true writes) l.length
  else (sweepO l head (sortN l l.length)).getD 0 (-1)
def pkOk (l : List Rq) (ts : List Int) (now head reads writes : Int) : Bool := rv l && tvB ts && decide (ts.length = l.length) && inB now 0 100000 && inB head 0 100000 && inB reads 0 100000 && inB writes 0 100000
def pickR (l : List Rq) (ts : List Int) (now head reads writes : Int) : Int := if pkOk l ts now head reads writes = true then pickN l ts now head reads writes else -1
theorem pickR_ok {l : List Rq} {ts : List Int} {now head reads writes : Int} (h : pkOk l ts now head reads writes = true) : pickR l ts now head reads writes = pickN l ts now head reads writes := if_pos h
theorem pickR_no {l : List Rq} {ts : List Int} {now head reads writes : Int} (h : pkOk l ts now head reads writes = false) : pickR l ts now head reads writes = -1 := if_neg (by simp [h])
theorem pkOk_parts {l : List Rq} {ts : List Int} {now head reads writes : Int} (h : pkOk l ts now head reads writes = true) : rv l = true ∧ tvB ts = true ∧ ts.length = l.length ∧ inB now 0 100000 = true ∧ inB head 0 100000 = true ∧ inB reads 0 100000 = true ∧ inB writes 0 100000 = true := by
  unfold pkOk at h; simpa [and_assoc] using h
theorem pkOk_not {l : List Rq} {ts : List Int} {now head reads writes : Int} (h : pkOk l ts now head reads writes = false) : rv l = false ∨ (rv l = true ∧ tvB ts = false) ∨ (rv l = true ∧ tvB ts = true ∧ ts.length ≠ l.length) ∨ (rv l = true ∧ tvB ts = true ∧ ts.length = l.length ∧ inB now 0 100000 = false) ∨ (rv l = true ∧ tvB ts = true ∧ ts.length = l.length ∧ inB now 0 100000 = true ∧ inB head 0 100000 = false) ∨ (rv l = true ∧ tvB ts = true ∧ ts.length = l.length ∧ inB now 0 100000 = true ∧ inB head 0 100000 = true ∧ inB reads 0 100000 = false) ∨ (rv l = true ∧ tvB ts = true ∧ ts.length = l.length ∧ inB now 0 100000 = true ∧ inB head 0 100000 = true ∧ inB reads 0 100000 = true ∧ inB writes 0 100000 = false) := by
  unfold pkOk at h
  cases q0 : rv l <;> cases q1 : tvB ts <;> by_cases q2 : ts.length = l.length <;> cases q3 : inB now 0 100000 <;> cases q4 : inB head 0 100000 <;> cases q5 : inB reads 0 100000 <;> cases q6 : inB writes 0 100000 <;> simp_all
theorem pickN_a {l : List Rq} {ts : List Int} {now head reads writes : Int} {k : Nat} (hk : k < l.length) (h : dueB l ts now false reads k = true) (h0 : ∀ i, i < k → dueB l ts now false reads i = false) : pickN l ts now head reads writes = (k : Int) := by
  unfold pickN; rw [fst_at h hk h0, if_pos (by omega)]
theorem pickN_b {l : List Rq} {ts : List Int} {now head reads writes : Int} {k : Nat} (hk : k < l.length) (ha : ∀ i, i < l.length → dueB l ts now false reads i = false) (h : dueB l ts now true writes k = true) (h0 : ∀ i, i < k → dueB l ts now true writes i = false) : pickN l ts now head reads writes = (k : Int) := by
  unfold pickN; rw [fst_no ha, fst_at h hk h0, if_neg (by omega), if_pos (by omega)]
theorem pickN_c {l : List Rq} {ts : List Int} {now head reads writes : Int} (ha : ∀ i, i < l.length → dueB l ts now false reads i = false) (hb : ∀ i, i < l.length → dueB l ts now true writes i = false) : pickN l ts now head reads writes = (sweepO l head (sortN l l.length)).getD 0 (-1) := by
  unfold pickN; rw [fst_no ha, fst_no hb, if_neg (by omega), if_neg (by omega)]

theorem addr_of_ {w : World} {A : Option Addr} {n k : Nat} {xs : List Value} (h : Rd w k A n xs) (hn : 0 < n) : ∃ b o, A = some ⟨b, o, none⟩ := by
  obtain ⟨b, o, e, _⟩ := h.2 hn
  exact ⟨b, o, e⟩
/-- the cells of a request at a place, with the field Write by name -/
theorem rq_at3 {w : World} {b o n : Nat} {l : List Rq} (h : Rd w 3 (some ⟨b, o, none⟩) n (rqC l)) (x : Nat) (hx : x < n) (hn : l.length = n) :
    w.cell? ⟨b, o + x * 3, none⟩ = some (.int .i64 (atK l (x : Int))) ∧ w.cell? ⟨b, o + x * 3 + 1, none⟩ = some (.int .i64 (ctK l (x : Int))) ∧ w.cell? ⟨b, o + x * 3 + 2, none⟩ = some (.bool (wrK l x)) := by
  obtain ⟨b', o', e, h0, h1, h2⟩ := h.rq x hx hn
  injection e with e
  injection e with e1 e2
  subst e1; subst e2
  rw [atK_nat l x (by omega), ctK_nat l x (by omega), wrK_get l x (by omega)]; exact ⟨h0, h1, h2⟩
theorem tm_at {w : World} {b o n : Nat} {ts : List Int} (h : Rd w 1 (some ⟨b, o, none⟩) n (intC ts)) (x : Nat) (hx : x < n) (hn : ts.length = n) :
    w.cell? ⟨b, o + x, none⟩ = some (.int .i64 (tmK ts x)) := by
  obtain ⟨b', o', e, h0⟩ := h.int x hx hn
  injection e with e
  injection e with e1 e2
  subst e1; subst e2
  rw [tmK_get ts x (by omega)]; exact h0
theorem tm_bd {ts : List Int} (h : tvB ts = true) (x : Nat) (hx : x < ts.length) : 0 ≤ tmK ts x ∧ tmK ts x ≤ 100000 := by
  unfold tvB at h
  simp only [Bool.and_eq_true] at h
  rw [tmK_get ts x hx]; exact allB_get h.1.1 x hx
end Go.Proofs.Ytfelfopcmkeimaa
