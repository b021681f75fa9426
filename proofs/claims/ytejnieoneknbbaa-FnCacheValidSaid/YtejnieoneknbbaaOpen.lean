/-
  Arguments opened: a slice that came in reads as a list.
-/
import Derived.Test.YtejnieoneknbbaaBase
import Derived.Deep.Slices
namespace Go.Proofs.Ytejnieoneknbbaa
open Go.ChangeShapes Go.WideShapes Go.ChangeAt Go.RowKit Go.Deep

theorem own_ : ownKnob Try.prog.godebug = none := by kernel_rfl
theorem laidOut_ : laidOutB Try.prog = true := by kernel_rfl

theorem list_of_all {α : Type} : ∀ (n : Nat) (P : Nat → α → Prop) (_ : ∀ i, i < n → ∃ a, P i a), ∃ l : List α, l.length = n ∧ ∀ i (hi : i < l.length), P i l[i] := by
  intro n
  induction n with
  | zero => intro P _; exact ⟨[], rfl, fun i hi => absurd hi (by simp)⟩
  | succ n ih =>
    intro P h
    obtain ⟨l, hl, hp⟩ := ih P (fun i hi => h i (by omega))
    obtain ⟨a, ha⟩ := h n (by omega)
    refine ⟨l ++ [a], by simp [hl], fun i hi => ?_⟩
    by_cases e : i < l.length
    · rw [List.getElem_append_left e]; exact hp i e
    · have : i = n := by simp [hl] at hi; omega
      subst this
      rw [List.getElem_append_right (by omega)]
      simpa [hl] using ha

theorem rd_of_rows {α : Type} (f : α → List Value) (k : Nat) (hf : ∀ a, (f a).length = k) (hk : 0 < k) {w : World} {b o : Nat} (l : List α)
    (h : ∀ i (hi : i < l.length) j u, (f l[i])[j]? = some u → w.cell? ⟨b, o + i * k + j, none⟩ = some u) : Rd w k (some ⟨b, o, none⟩) l.length (l.flatMap f) := by
  refine ⟨flat_length f k hf l, fun _ => ⟨b, o, rfl, fun j u hu => ?_⟩⟩
  have hlt : j < l.length * k := by
    rw [← flat_length f k hf l]
    exact (List.getElem?_eq_some_iff.1 hu).1
  have hi : j / k < l.length := (Nat.div_lt_iff_lt_mul hk).2 hlt
  have hj : j % k < k := Nat.mod_lt _ hk
  have e : j / k * k + j % k = j := by rw [Nat.mul_comm]; exact Nat.div_add_mod j k
  have g := flat_get f k hf l (j / k) hi (j % k) hj
  rw [e] at g
  rw [g] at hu
  have := h (j / k) hi (j % k) u hu
  rwa [Nat.add_assoc, e] at this

theorem flat_int (l : List Int) : l.flatMap (fun x : Int => [Value.int .i64 x]) = intC l := by
  induction l with
  | nil => rfl
  | cons a r ih => rw [List.flatMap_cons, ih]; rfl

theorem wf_i64 {z : Int} (h : (Lit.int .i64 z).wf = true) : I64 z := by
  simpa [Lit.wf, IntKind.min, IntKind.max, IntKind.signed, IntKind.bits, I64] using h

theorem three {l : List Value} (h : l.length = 3) : ∃ a b c, l = [a, b, c] := by
  match l, h with
  | [a, b, c], _ => exact ⟨a, b, c, rfl⟩
theorem two_ {l : List Value} (h : l.length = 2) : ∃ a b, l = [a, b] := by
  match l, h with
  | [a, b], _ => exact ⟨a, b, rfl⟩

theorem cells_int : Try.prog.cellsOf 3 = 1 := by kernel_rfl
theorem cells_bool : Try.prog.cellsOf 4 = 1 := by kernel_rfl

section
variable {H : Type} {enc : TypeId × Value → H} {P : Program} {w : World} {base : Nat} {spare : Nat → Bool} {held : Bool}
theorem open_rowsOf {α : Type} (f : α → List Value) (Q : α → Prop) (k : Nat) (hf : ∀ a, (f a).length = k) (hk : 0 < k) {t e : TypeId} {A : Option Addr} {n c : Nat} {d : DataW H} {p : List MemPlace}
    (ht : P.underlying t = some (.slice e)) (hC : P.cellsOf e = k) (helem : ∀ n' cs x, DataW.trod enc P w base spare held n' e cs = some x → ∃ a, cs = f a ∧ Q a)
    (h : DataW.Trod enc P w base spare held t (.slice A n c) d p) :
    ∃ l : List α, l.length = n ∧ n ≤ c ∧ c ≤ maxLen ∧ (∀ a ∈ l, Q a) ∧ Rd w k A n (l.flatMap f) := by
  obtain ⟨fuel, hfu⟩ := h
  rcases open_slice ht hfu with ⟨hcs, _⟩ | ⟨a, len, cap, m, n', D, Pl, hcs, _, hl, hm, hmm, _, hi⟩
  · simp [Value.cells] at hcs
    obtain ⟨rfl, rfl, rfl⟩ := hcs
    exact ⟨[], rfl, Nat.le_refl _, by simp [maxLen], fun a ha => by simp at ha, by simpa using Rd.nil w k none⟩
  · simp [Value.cells] at hcs
    obtain ⟨rfl, rfl, rfl⟩ := hcs
    have hnm : n ≤ m := by rw [hmm]; split <;> omega
    rw [hC] at hi
    obtain ⟨l, hll, hp⟩ := list_of_all n (fun i (x : α) => Q x ∧ ∀ j u, (f x)[j]? = some u → w.cell? ((a.add (i * k)).add j) = some u) (fun i hin => by
      obtain ⟨cs', hcells, htr⟩ := hi i (by omega)
      obtain ⟨x, rfl, hq⟩ := helem _ _ _ htr
      obtain ⟨_, hlen, hat⟩ := World.cells?_some hcells
      refine ⟨x, hq, fun j u hu => ?_⟩
      rw [hat j (by rw [← hlen]; exact (List.getElem?_eq_some_iff.1 hu).1), hu])
    refine ⟨l, hll, hl, hm, fun x hx => ?_, ?_⟩
    · obtain ⟨i, hi', rfl⟩ := List.getElem_of_mem hx
      exact (hp i hi').1
    · subst hll
      rcases Nat.eq_zero_or_pos l.length with h0 | h0
      · have : l = [] := List.eq_nil_of_length_eq_zero h0
        subst this
        exact Rd.nil w k _
      · obtain ⟨b, o, s⟩ := a
        have hs : s = none := by
          have h1 := (hp 0 h0).2 0 ((f l[0])[0]'(by rw [hf]; exact hk)) (List.getElem?_eq_getElem _)
          simp [Addr.add] at h1
          exact World.cell?_spot h1
        subst hs
        refine rd_of_rows f k hf hk l (fun i hi' j u hu => ?_)
        have := (hp i hi').2 j u hu
        rwa [add_mid, add_mid] at this

theorem open_intsOf {t e : TypeId} {A : Option Addr} {n c : Nat} {d : DataW H} {p : List MemPlace} (ht : P.underlying t = some (.slice e)) (he : P.underlying e = some (.int .i64)) (hC : P.cellsOf e = 1)
    (h : DataW.Trod enc P w base spare held t (.slice A n c) d p) : ∃ l : List Int, l.length = n ∧ n ≤ c ∧ c ≤ maxLen ∧ (∀ a ∈ l, I64 a) ∧ Rd w 1 A n (intC l) := by
  obtain ⟨l, h1, h2, h3, h4, h5⟩ := open_rowsOf (fun x : Int => [Value.int .i64 x]) I64 1 (fun _ => rfl) (by omega) ht hC (fun n' cs x hx => by
    obtain ⟨z, rfl, _, hw⟩ := DataW.trod_int he hx
    exact ⟨z, rfl, by simpa [Lit.wf, IntKind.min, IntKind.max, IntKind.signed, IntKind.bits, I64] using hw⟩) h
  refine ⟨l, h1, h2, h3, h4, ?_⟩
  rwa [flat_int] at h5
end

end Go.Proofs.Ytejnieoneknbbaa
