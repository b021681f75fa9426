/-
  Sorting in place, plain: exchanges; what the library's stable sort leaves.
-/
import Derived.Test.YtfelfopcmkeimaaScP
namespace Go.Proofs.Ytfelfopcmkeimaa
open Go.ChangeShapes Go.WideShapes Go.ChangeAt Go.RowKit Go.BigFrame

def gd (X : List Int) (i : Nat) : Int := X.getD i 0
theorem gd_get (X : List Int) (i : Nat) (h : i < X.length) : gd X i = X[i] := by
  unfold gd; rw [List.getD_eq_getElem?_getD, List.getElem?_eq_getElem h]; rfl
def sw (X : List Int) (i j : Nat) : List Int := (X.set i (gd X j)).set j (gd X i)
theorem sw_length (X : List Int) (i j : Nat) : (sw X i j).length = X.length := by simp [sw]
theorem gd_set (X : List Int) (i k : Nat) (v : Int) (hi : i < X.length) : gd (X.set i v) k = if k = i then v else gd X k := by
  unfold gd
  rw [List.getD_eq_getElem?_getD, List.getD_eq_getElem?_getD, List.getElem?_set]
  by_cases e : i = k
  · subst e; simp [hi]
  · rw [if_neg e, if_neg (fun h => e h.symm)]
theorem gd_sw (X : List Int) (i j k : Nat) (hi : i < X.length) (hj : j < X.length) : gd (sw X i j) k = if k = j then gd X i else if k = i then gd X j else gd X k := by
  unfold sw
  rw [gd_set _ _ _ _ (by simpa using hj), gd_set _ _ _ _ hi]
theorem sw_perm (X : List Int) (i j : Nat) (hi : i < X.length) (hj : j < X.length) : (sw X i j).Perm X := by
  unfold sw
  rw [gd_get X i hi, gd_get X j hj]
  exact List.set_set_perm hi hj

/-- X' is X but for the places a .. b-1, which hold what some of these places held -/
structure Kept (X X' : List Int) (a b : Nat) : Prop where
  len : X'.length = X.length
  out : ∀ i, i < a ∨ b ≤ i → gd X' i = gd X i
  src : ∀ i, a ≤ i → i < b → ∃ j, a ≤ j ∧ j < b ∧ gd X' i = gd X j
  perm : X'.Perm X
theorem Kept.refl (X : List Int) (a b : Nat) : Kept X X a b := ⟨rfl, fun _ _ => rfl, fun i h1 h2 => ⟨i, h1, h2, rfl⟩, List.Perm.refl _⟩
theorem Kept.trans {X Y Z : List Int} {a b : Nat} (h : Kept X Y a b) (k : Kept Y Z a b) : Kept X Z a b :=
  ⟨k.len.trans h.len, fun i hi => (k.out i hi).trans (h.out i hi), fun i h1 h2 => by
    obtain ⟨j, j1, j2, e⟩ := k.src i h1 h2
    obtain ⟨p, p1, p2, e2⟩ := h.src j j1 j2
    exact ⟨p, p1, p2, e.trans e2⟩, k.perm.trans h.perm⟩
theorem Kept.wider {X Y : List Int} {a b a' b' : Nat} (h : Kept X Y a b) (ha : a' ≤ a) (hb : b ≤ b') : Kept X Y a' b' :=
  ⟨h.len, fun i hi => h.out i (by omega), fun i h1 h2 => by
    by_cases hin : a ≤ i ∧ i < b
    · obtain ⟨j, j1, j2, e⟩ := h.src i hin.1 hin.2
      exact ⟨j, by omega, by omega, e⟩
    · exact ⟨i, h1, h2, h.out i (by omega)⟩, h.perm⟩
theorem Kept.sw {X : List Int} {a b : Nat} (i j : Nat) (hi : i < X.length) (hj : j < X.length) (h1 : a ≤ i) (h2 : i < b) (h3 : a ≤ j) (h4 : j < b) : Kept X (sw X i j) a b :=
  ⟨sw_length X i j, fun k hk => by rw [gd_sw X i j k hi hj, if_neg (by omega), if_neg (by omega)], fun k k1 k2 => by
    rw [gd_sw X i j k hi hj]
    by_cases e : k = j
    · exact ⟨i, h1, h2, by rw [if_pos e]⟩
    · by_cases e2 : k = i
      · exact ⟨j, h3, h4, by rw [if_neg e, if_pos e2]⟩
      · exact ⟨k, k1, k2, by rw [if_neg e, if_neg e2]⟩, sw_perm X i j hi hj⟩

/-- the places a .. b-1 are in order -/
def Srt (l : List Rq) (X : List Int) (a b : Nat) : Prop := ∀ i j, a ≤ i → i < j → j < b → lx l (gd X i) (gd X j)

/-! the insertion sort -/
structure InsI (l : List Rq) (X0 X : List Int) (a i j : Nat) : Prop where
  kept : Kept X0 X a (i + 1)
  s1 : ∀ p q, a ≤ p → p < q → q ≤ i → p ≠ j → q ≠ j → lx l (gd X p) (gd X q)
  s2 : ∀ q, j < q → q ≤ i → lx l (gd X j) (gd X q)
  s3 : ∀ p, a ≤ p → p ≤ i → p ≠ j → gd X p < gd X j
theorem InsI.start {l : List Rq} {X0 X : List Int} {a b i : Nat} (hs : Srt l X a i) (hk : Kept X0 X a i) (hi : a ≤ i) (hib : i < b) (h0 : ∀ p q, a ≤ p → p < q → q < b → gd X0 p < gd X0 q) : InsI l X0 X a i i := by
  refine ⟨hk.wider (Nat.le_refl _) (by omega), fun p q h1 h2 h3 h4 h5 => hs p q h1 h2 (by omega), fun q h1 h2 => by omega, fun p h1 h2 h3 => ?_⟩
  obtain ⟨p', p1, p2, e⟩ := hk.src p h1 (by omega)
  rw [e, hk.out i (by omega)]
  exact h0 p' i p1 p2 hib
theorem InsI.step {l : List Rq} {X0 X : List Int} {a i j : Nat} (h : InsI l X0 X a i (j + 1)) (haj : a ≤ j) (hji : j + 1 ≤ i) (hil : i < X.length) (hlt : atK l (gd X (j + 1)) < atK l (gd X j)) : InsI l X0 (sw X (j + 1) j) a i j := by
  have g := fun k => gd_sw X (j + 1) j k (by omega) (by omega)
  refine ⟨h.kept.trans (Kept.sw (j + 1) j (by omega) (by omega) (by omega) (by omega) haj (by omega)), fun p q h1 h2 h3 h4 h5 => ?_, fun q h1 h2 => ?_, fun p h1 h2 h3 => ?_⟩
  · rw [g p, g q, if_neg h4, if_neg h5]
    by_cases ep : p = j + 1
    · rw [if_pos ep, if_neg (by omega)]
      exact h.s1 j q haj (by omega) h3 (by omega) (by omega)
    · rw [if_neg ep]
      by_cases eq : q = j + 1
      · rw [if_pos eq]
        exact h.s1 p j h1 (by omega) (by omega) (by omega) (by omega)
      · rw [if_neg eq]
        exact h.s1 p q h1 h2 h3 ep eq
  · rw [g j, g q, if_pos rfl, if_neg (by omega)]
    by_cases eq : q = j + 1
    · rw [if_pos eq]; exact .inl hlt
    · rw [if_neg eq]
      exact h.s2 q (by omega) h2
  · rw [g p, g j, if_pos rfl, if_neg h3]
    by_cases ep : p = j + 1
    · rw [if_pos ep]; exact h.s3 j haj (by omega) (by omega)
    · rw [if_neg ep]; exact h.s3 p h1 h2 ep
theorem InsI.stop {l : List Rq} {X0 X : List Int} {a i j : Nat} (h : InsI l X0 X a i j) (hji : j ≤ i) (haj : a ≤ j) (hst : j = a ∨ ¬ atK l (gd X j) < atK l (gd X (j - 1))) : Srt l X a (i + 1) := by
  intro p q h1 h2 h3
  by_cases ep : p = j
  · subst ep; exact h.s2 q h2 (by omega)
  · by_cases eq : q = j
    · subst eq
      have hs3 := h.s3 p h1 (by omega) ep
      rcases hst with hst | hst
      · omega
      · have hle : atK l (gd X p) ≤ atK l (gd X q) := by
          by_cases e : p = q - 1
          · rw [e]; omega
          · have := lx_le (h.s1 p (q - 1) h1 (by omega) (by omega) ep (by omega))
            omega
        unfold lx; omega
    · exact h.s1 p q h1 h2 (by omega) ep eq

/-! blocks exchanged, and rotation -/
structure SwR (X X' : List Int) (a b n : Nat) : Prop where
  len : X'.length = X.length
  left : ∀ k, k < n → gd X' (a + k) = gd X (b + k)
  right : ∀ k, k < n → gd X' (b + k) = gd X (a + k)
  out : ∀ i, (i < a ∨ a + n ≤ i) → (i < b ∨ b + n ≤ i) → gd X' i = gd X i
  perm : X'.Perm X
theorem SwR.zero (X : List Int) (a b : Nat) : SwR X X a b 0 := ⟨rfl, fun k h => absurd h (by omega), fun k h => absurd h (by omega), fun _ _ _ => rfl, List.Perm.refl _⟩
theorem SwR.step {X X' : List Int} {a b n i : Nat} (h : SwR X X' a b i) (hin : i < n) (hab : a + n ≤ b) (hbl : b + n ≤ X.length) : SwR X (sw X' (a + i) (b + i)) a b (i + 1) := by
  have g := fun k => gd_sw X' (a + i) (b + i) k (by rw [h.len]; omega) (by rw [h.len]; omega)
  refine ⟨(sw_length _ _ _).trans h.len, fun k hk => ?_, fun k hk => ?_, fun j h1 h2 => ?_, (sw_perm _ _ _ (by rw [h.len]; omega) (by rw [h.len]; omega)).trans h.perm⟩
  · rw [g, if_neg (by omega)]
    by_cases e : k = i
    · subst e; rw [if_pos rfl]; exact h.out _ (by omega) (by omega)
    · rw [if_neg (by omega)]; exact h.left k (by omega)
  · rw [g]
    by_cases e : k = i
    · subst e; rw [if_pos rfl]; exact h.out _ (by omega) (by omega)
    · rw [if_neg (by omega), if_neg (by omega)]; exact h.right k (by omega)
  · rw [g, if_neg (by omega), if_neg (by omega)]
    exact h.out j (by omega) (by omega)

/-- what a rotation has still to do: i places left of m and j from m on are to change sides, T being the end -/
structure RotI (T X : Nat → Int) (m i j : Nat) : Prop where
  a1 : ∀ k, k < j → T (m - i + k) = X (m + k)
  a2 : ∀ k, k < i → T (m - i + j + k) = X (m - i + k)
  a3 : ∀ p, p < m - i ∨ m + j ≤ p → T p = X p
theorem RotI.gt {T : Nat → Int} {X X' : List Int} {m i j : Nat} (h : RotI T (gd X) m i j) (him : i ≤ m) (hj : j < i) (hs : SwR X X' (m - i) m j) : RotI T (gd X') m (i - j) j := by
  refine ⟨fun k hk => ?_, fun k hk => ?_, fun p hp => ?_⟩
  · have e := h.a2 k (by omega)
    have r := hs.right k hk
    rw [r, show m - (i - j) + k = m - i + j + k by omega]
    exact e
  · have e := h.a2 (j + k) (by omega)
    have r := hs.out (m - i + (j + k)) (by omega) (by omega)
    rw [show m - (i - j) + j + k = m - i + j + (j + k) by omega, show m - (i - j) + k = m - i + (j + k) by omega, r]
    exact e
  · by_cases hp2 : m - i ≤ p ∧ p < m - i + j
    · have e := h.a1 (p - (m - i)) (by omega)
      have r := hs.left (p - (m - i)) (by omega)
      rw [show m - i + (p - (m - i)) = p by omega] at e r
      rw [e, r]
    · have e := h.a3 p (by omega)
      have r := hs.out p (by omega) (by omega)
      rw [e, r]
theorem RotI.lt {T : Nat → Int} {X X' : List Int} {m i j : Nat} (h : RotI T (gd X) m i j) (him : i ≤ m) (hj : i < j) (hs : SwR X X' (m - i) (m + j - i) i) : RotI T (gd X') m i (j - i) := by
  refine ⟨fun k hk => ?_, fun k hk => ?_, fun p hp => ?_⟩
  · have e := h.a1 k (by omega)
    have r := hs.out (m + k) (by omega) (by omega)
    rw [r]; exact e
  · have e := h.a1 (j - i + k) (by omega)
    have r := hs.left k hk
    rw [show m - i + (j - i) + k = m - i + (j - i + k) by omega, r, e, show m + (j - i + k) = m + j - i + k by omega]
  · by_cases hp2 : m + j - i ≤ p ∧ p < m + j
    · have e := h.a2 (p - (m + j - i)) (by omega)
      have r := hs.right (p - (m + j - i)) (by omega)
      rw [show m - i + j + (p - (m + j - i)) = p by omega] at e
      rw [show m + j - i + (p - (m + j - i)) = p by omega] at r
      rw [e, r]
    · have e := h.a3 p (by omega)
      have r := hs.out p (by omega) (by omega)
      rw [e, r]
theorem RotI.eq {T : Nat → Int} {X X' : List Int} {m i : Nat} (h : RotI T (gd X) m i i) (him : i ≤ m) (hs : SwR X X' (m - i) m i) (p : Nat) : T p = gd X' p := by
  by_cases h1 : m - i ≤ p ∧ p < m
  · have e := h.a1 (p - (m - i)) (by omega)
    have r := hs.left (p - (m - i)) (by omega)
    rw [show m - i + (p - (m - i)) = p by omega] at e r
    rw [e, r]
  · by_cases h2 : m ≤ p ∧ p < m + i
    · have e := h.a2 (p - m) (by omega)
      have r := hs.right (p - m) (by omega)
      rw [show m - i + i + (p - m) = p by omega] at e
      rw [show m + (p - m) = p by omega] at r
      rw [e, r]
    · have e := h.a3 p (by omega)
      have r := hs.out p (by omega) (by omega)
      rw [e, r]
/-- the rotation's end -/
def rotT (X : List Int) (a m b : Nat) (p : Nat) : Int := if p < a ∨ b ≤ p then gd X p else if p < a + (b - m) then gd X (p - a + m) else gd X (p - (b - m))
theorem rot_start (X : List Int) (a m b : Nat) (h1 : a ≤ m) (h2 : m ≤ b) : RotI (rotT X a m b) (gd X) m (m - a) (b - m) := by
  refine ⟨fun k hk => ?_, fun k hk => ?_, fun p hp => ?_⟩
  · unfold rotT
    rw [if_neg (by omega), if_pos (by omega), show m - (m - a) + k - a + m = m + k by omega]
  · unfold rotT
    rw [if_neg (by omega), if_neg (by omega), show m - (m - a) + (b - m) + k - (b - m) = m - (m - a) + k by omega]
  · unfold rotT
    rw [if_pos (by omega)]
structure Rot (X X' : List Int) (a m b : Nat) : Prop where
  len : X'.length = X.length
  val : ∀ p, gd X' p = rotT X a m b p
  perm : X'.Perm X
theorem Rot.kept {X X' : List Int} {a m b : Nat} (h : Rot X X' a m b) (h1 : a ≤ m) (h2 : m ≤ b) : Kept X X' a b :=
  ⟨h.len, fun i hi => by rw [h.val]; unfold rotT; rw [if_pos hi], fun i i1 i2 => by
    rw [h.val]
    unfold rotT
    rw [if_neg (by omega)]
    by_cases e : i < a + (b - m)
    · exact ⟨i - a + m, by omega, by omega, by rw [if_pos e]⟩
    · exact ⟨i - (b - m), by omega, by omega, by rw [if_neg e]⟩, h.perm⟩

/-! one element moved through others -/
structure MvR (X X' : List Int) (a k : Nat) : Prop where
  len : X'.length = X.length
  moved : ∀ p, a ≤ p → p < k → gd X' p = gd X (p + 1)
  at_ : gd X' k = gd X a
  out : ∀ p, p < a ∨ k < p → gd X' p = gd X p
  perm : X'.Perm X
theorem MvR.zero (X : List Int) (a : Nat) : MvR X X a a := ⟨rfl, fun p h1 h2 => by omega, rfl, fun _ _ => rfl, List.Perm.refl _⟩
theorem MvR.step {X X' : List Int} {a k : Nat} (h : MvR X X' a k) (hak : a ≤ k) (hk : k + 1 < X.length) : MvR X (sw X' k (k + 1)) a (k + 1) := by
  have g := fun p => gd_sw X' k (k + 1) p (by rw [h.len]; omega) (by rw [h.len]; omega)
  refine ⟨(sw_length _ _ _).trans h.len, fun p h1 h2 => ?_, ?_, fun p hp => ?_, (sw_perm _ _ _ (by rw [h.len]; omega) (by rw [h.len]; omega)).trans h.perm⟩
  · rw [g, if_neg (by omega)]
    by_cases e : p = k
    · subst e; rw [if_pos rfl]; exact h.out _ (by omega)
    · rw [if_neg e]; exact h.moved p h1 (by omega)
  · rw [g, if_pos rfl]; exact h.at_
  · rw [g, if_neg (by omega), if_neg (by omega)]; exact h.out p (by omega)
theorem MvR.kept {X X' : List Int} {a k b : Nat} (h : MvR X X' a k) (hak : a ≤ k) (hkb : k < b) : Kept X X' a b :=
  ⟨h.len, fun p hp => h.out p (by omega), fun p h1 h2 => by
    by_cases e : p < k
    · exact ⟨p + 1, by omega, by omega, h.moved p h1 e⟩
    · by_cases e2 : p = k
      · subst e2; exact ⟨a, by omega, by omega, h.at_⟩
      · exact ⟨p, h1, h2, h.out p (by omega)⟩, h.perm⟩
structure MvL (X X' : List Int) (m k : Nat) : Prop where
  len : X'.length = X.length
  moved : ∀ p, k < p → p ≤ m → gd X' p = gd X (p - 1)
  at_ : gd X' k = gd X m
  out : ∀ p, p < k ∨ m < p → gd X' p = gd X p
  perm : X'.Perm X
theorem MvL.zero (X : List Int) (m : Nat) : MvL X X m m := ⟨rfl, fun p h1 h2 => by omega, rfl, fun _ _ => rfl, List.Perm.refl _⟩
theorem MvL.step {X X' : List Int} {m k : Nat} (h : MvL X X' m (k + 1)) (hk : k + 1 ≤ m) (hm : m < X.length) : MvL X (sw X' (k + 1) k) m k := by
  have g := fun p => gd_sw X' (k + 1) k p (by rw [h.len]; omega) (by rw [h.len]; omega)
  refine ⟨(sw_length _ _ _).trans h.len, fun p h1 h2 => ?_, ?_, fun p hp => ?_, (sw_perm _ _ _ (by rw [h.len]; omega) (by rw [h.len]; omega)).trans h.perm⟩
  · rw [g, if_neg (by omega)]
    by_cases e : p = k + 1
    · subst e; rw [if_pos rfl, Nat.add_sub_cancel]; exact h.out _ (by omega)
    · rw [if_neg e]; exact h.moved p (by omega) h2
  · rw [g, if_pos rfl]; exact h.at_
  · rw [g, if_neg (by omega), if_neg (by omega)]; exact h.out p (by omega)
theorem MvL.kept {X X' : List Int} {m k a b : Nat} (h : MvL X X' m k) (hak : a ≤ k) (hkm : k ≤ m) (hmb : m < b) : Kept X X' a b :=
  ⟨h.len, fun p hp => h.out p (by omega), fun p h1 h2 => by
    by_cases e : k < p ∧ p ≤ m
    · exact ⟨p - 1, by omega, by omega, h.moved p e.1 e.2⟩
    · by_cases e2 : p = k
      · subst e2; exact ⟨m, by omega, by omega, h.at_⟩
      · exact ⟨p, h1, h2, h.out p (by omega)⟩, h.perm⟩

/-! merging -/
structure MPre (l : List Rq) (X : List Int) (a m b : Nat) : Prop where
  left : Srt l X a m
  right : Srt l X m b
  cross : ∀ i j, a ≤ i → i < m → m ≤ j → j < b → gd X i < gd X j
theorem merge_one {l : List Rq} {X X' : List Int} {a b i : Nat} (h : MPre l X a (a + 1) b) (h1 : a + 1 ≤ i) (h2 : i ≤ b) (hlo : i = a + 1 ∨ atK l (gd X (i - 1)) < atK l (gd X a)) (hhi : i = b ∨ atK l (gd X a) ≤ atK l (gd X i)) (hm : MvR X X' a (i - 1)) : Srt l X' a b := by
  have lo : ∀ p, a < p → p < i → lx l (gd X p) (gd X a) := fun p p1 p2 => by
    have e : atK l (gd X (i - 1)) < atK l (gd X a) := by rcases hlo with h | h <;> omega
    by_cases q : p = i - 1
    · subst q; exact .inl e
    · have := lx_le (h.right p (i - 1) (by omega) (by omega) (by omega))
      exact .inl (by omega)
  have hi : ∀ p, i ≤ p → p < b → lx l (gd X a) (gd X p) := fun p p1 p2 => by
    have e : atK l (gd X a) ≤ atK l (gd X i) := by rcases hhi with h | h <;> omega
    have c := h.cross a p (Nat.le_refl _) (by omega) (by omega) p2
    by_cases q : p = i
    · subst q; unfold lx; omega
    · have := lx_le (h.right i p (by omega) (by omega) p2)
      unfold lx; omega
  intro p q p1 pq q1
  by_cases hp : p < i - 1
  · rw [hm.moved p p1 hp]
    by_cases hq : q < i - 1
    · rw [hm.moved q (by omega) hq]; exact h.right _ _ (by omega) (by omega) (by omega)
    · by_cases eq : q = i - 1
      · rw [eq, hm.at_]; exact lo _ (by omega) (by omega)
      · rw [hm.out q (by omega)]; exact h.right _ _ (by omega) (by omega) (by omega)
  · by_cases ep : p = i - 1
    · rw [ep, hm.at_, hm.out q (by omega)]; exact hi q (by omega) q1
    · rw [hm.out p (by omega), hm.out q (by omega)]; exact h.right _ _ (by omega) (by omega) (by omega)
theorem merge_last {l : List Rq} {X X' : List Int} {a m i : Nat} (h : MPre l X a m (m + 1)) (h1 : a ≤ i) (h2 : i ≤ m) (hlo : i = a ∨ atK l (gd X (i - 1)) ≤ atK l (gd X m)) (hhi : i = m ∨ atK l (gd X m) < atK l (gd X i)) (hm : MvL X X' m i) : Srt l X' a (m + 1) := by
  have lo : ∀ p, a ≤ p → p < i → lx l (gd X p) (gd X m) := fun p p1 p2 => by
    have e : atK l (gd X (i - 1)) ≤ atK l (gd X m) := by rcases hlo with h | h <;> omega
    have c := h.cross p m p1 (by omega) (by omega) (by omega)
    by_cases q : p = i - 1
    · subst q; unfold lx; omega
    · have := lx_le (h.left p (i - 1) p1 (by omega) (by omega))
      unfold lx; omega
  have hi : ∀ p, i ≤ p → p < m → lx l (gd X m) (gd X p) := fun p p1 p2 => by
    have e : atK l (gd X m) < atK l (gd X i) := by rcases hhi with h | h <;> omega
    by_cases q : p = i
    · subst q; exact .inl e
    · have := lx_le (h.left i p h1 (by omega) p2)
      exact .inl (by omega)
  intro p q p1 pq q1
  by_cases hp : p < i
  · rw [hm.out p (by omega)]
    by_cases hq : q < i
    · rw [hm.out q (by omega)]; exact h.left _ _ p1 pq (by omega)
    · by_cases eq : q = i
      · rw [eq, hm.at_]; exact lo p p1 hp
      · rw [hm.moved q (by omega) (by omega)]; exact h.left _ _ p1 (by omega) (by omega)
  · by_cases ep : p = i
    · rw [ep, hm.at_, hm.moved q (by omega) (by omega)]; exact hi _ (by omega) (by omega)
    · rw [hm.moved p (by omega) (by omega), hm.moved q (by omega) (by omega)]; exact h.left _ _ (by omega) (by omega) (by omega)
/-- behind the search: s places .. the halves part at mid -/
structure MCut (l : List Rq) (X : List Int) (a m b mid s e : Nat) : Prop where
  as_ : a ≤ s
  sm : s ≤ m
  me : m ≤ e
  eb : e ≤ b
  sum : s + e = mid + m
  lo : s = a ∨ e = b ∨ lx l (gd X (s - 1)) (gd X e)
  hi : s = m ∨ e = m ∨ lx l (gd X (e - 1)) (gd X s)
theorem cut_rot {l : List Rq} {X Y : List Int} {a m b mid s e : Nat} (h : MPre l X a m b) (hc : MCut l X a m b mid s e) (hr : Rot X Y s m e) :
    Srt l Y a s ∧ Srt l Y s mid ∧ Srt l Y mid e ∧ Srt l Y e b ∧ (∀ i j, a ≤ i → i < s → s ≤ j → j < mid → gd Y i < gd Y j) ∧ (∀ i j, mid ≤ i → i < e → e ≤ j → j < b → gd Y i < gd Y j) ∧ ∀ i j, a ≤ i → i < mid → mid ≤ j → j < b → lx l (gd Y i) (gd Y j) := by
  obtain ⟨c1, c2, c3, c4, c5, c6, c7⟩ := hc
  have v1 : ∀ p, p < s ∨ e ≤ p → gd Y p = gd X p := fun p hp => by rw [hr.val]; unfold rotT; rw [if_pos hp]
  have v2 : ∀ p, s ≤ p → p < mid → gd Y p = gd X (p - s + m) := fun p h1 h2 => by rw [hr.val]; unfold rotT; rw [if_neg (by omega), if_pos (by omega)]
  have v3 : ∀ p, mid ≤ p → p < e → gd Y p = gd X (p - (e - m)) := fun p h1 h2 => by rw [hr.val]; unfold rotT; rw [if_neg (by omega), if_neg (by omega)]
  have L1 : ∀ p q, a ≤ p → p < s → s ≤ q → q < m → lx l (gd X p) (gd X q) := fun p q h1 h2 h3 h4 => h.left p q h1 (by omega) h4
  have L2 : ∀ p q, a ≤ p → p < s → e ≤ q → q < b → lx l (gd X p) (gd X q) := fun p q h1 h2 h3 h4 => by
    have k : lx l (gd X (s - 1)) (gd X e) := by
      rcases c6 with c6 | c6 | c6
      · omega
      · omega
      · exact c6
    have k1 : p = s - 1 ∨ lx l (gd X p) (gd X (s - 1)) := by
      by_cases q : p = s - 1
      · exact .inl q
      · exact .inr (h.left p (s - 1) h1 (by omega) (by omega))
    have k2 : q = e ∨ lx l (gd X e) (gd X q) := by
      by_cases r : q = e
      · exact .inl r
      · exact .inr (h.right e q (by omega) (by omega) h4)
    rcases k1 with rfl | k1 <;> rcases k2 with rfl | k2
    · exact k
    · exact lx_trans k k2
    · exact lx_trans k1 k
    · exact lx_trans k1 (lx_trans k k2)
  have L3 : ∀ p q, m ≤ p → p < e → s ≤ q → q < m → lx l (gd X p) (gd X q) := fun p q h1 h2 h3 h4 => by
    have k : lx l (gd X (e - 1)) (gd X s) := by
      rcases c7 with c7 | c7 | c7
      · omega
      · omega
      · exact c7
    have k1 : p = e - 1 ∨ lx l (gd X p) (gd X (e - 1)) := by
      by_cases q : p = e - 1
      · exact .inl q
      · exact .inr (h.right p (e - 1) h1 (by omega) (by omega))
    have k2 : q = s ∨ lx l (gd X s) (gd X q) := by
      by_cases r : q = s
      · exact .inl r
      · exact .inr (h.left s q (by omega) (by omega) h4)
    rcases k1 with rfl | k1 <;> rcases k2 with rfl | k2
    · exact k
    · exact lx_trans k k2
    · exact lx_trans k1 k
    · exact lx_trans k1 (lx_trans k k2)
  have L4 : ∀ p q, m ≤ p → p < e → e ≤ q → q < b → lx l (gd X p) (gd X q) := fun p q h1 h2 h3 h4 => h.right p q h1 (by omega) h4
  refine ⟨fun i j h1 h2 h3 => ?_, fun i j h1 h2 h3 => ?_, fun i j h1 h2 h3 => ?_, fun i j h1 h2 h3 => ?_, fun i j h1 h2 h3 h4 => ?_, fun i j h1 h2 h3 h4 => ?_, fun i j h1 h2 h3 h4 => ?_⟩
  · rw [v1 i (by omega), v1 j (by omega)]; exact h.left i j h1 h2 (by omega)
  · rw [v2 i h1 (by omega), v2 j (by omega) h3]; exact h.right _ _ (by omega) (by omega) (by omega)
  · rw [v3 i h1 (by omega), v3 j (by omega) h3]; exact h.left _ _ (by omega) (by omega) (by omega)
  · rw [v1 i (by omega), v1 j (by omega)]; exact h.right i j (by omega) h2 h3
  · rw [v1 i (by omega), v2 j h3 h4]; exact h.cross _ _ h1 (by omega) (by omega) (by omega)
  · rw [v3 i h1 h2, v1 j (by omega)]; exact h.cross _ _ (by omega) (by omega) (by omega) h4
  · by_cases hi : i < s
    · rw [v1 i (by omega)]
      by_cases hj : j < e
      · rw [v3 j h3 hj]; exact L1 _ _ h1 hi (by omega) (by omega)
      · rw [v1 j (by omega)]; exact L2 _ _ h1 hi (by omega) h4
    · rw [v2 i (by omega) h2]
      by_cases hj : j < e
      · rw [v3 j h3 hj]; exact L3 _ _ (by omega) (by omega) (by omega) (by omega)
      · rw [v1 j (by omega)]; exact L4 _ _ (by omega) (by omega) (by omega) h4
/-- both halves put in order -/
theorem merge_join {l : List Rq} {Y Z V : List Int} {a mid b : Nat} (ham : a ≤ mid) (hmb : mid ≤ b) (hx : ∀ i j, a ≤ i → i < mid → mid ≤ j → j < b → lx l (gd Y i) (gd Y j)) (k1 : Kept Y Z a mid) (s1 : Srt l Z a mid) (k2 : Kept Z V mid b) (s2 : Srt l V mid b) : Kept Y V a b ∧ Srt l V a b := by
  refine ⟨(k1.wider (Nat.le_refl _) hmb).trans (k2.wider ham (Nat.le_refl _)), fun i j h1 h2 h3 => ?_⟩
  by_cases hj : j < mid
  · rw [k2.out i (by omega), k2.out j (by omega)]; exact s1 i j h1 h2 hj
  · by_cases hi : i < mid
    · obtain ⟨i', i1, i2, ei⟩ := k1.src i h1 hi
      obtain ⟨j', j1, j2, ej⟩ := k2.src j (by omega) h3
      rw [k2.out i (by omega), ei, ej, k1.out j' (by omega)]
      exact hx i' j' i1 i2 j1 j2
    · exact s2 i j (by omega) h2 h3
theorem Kept.srt {l : List Rq} {X Y : List Int} {a b c d : Nat} (h : Kept X Y a b) (hs : Srt l X c d) (hcd : d ≤ a ∨ b ≤ c) : Srt l Y c d := fun i j h1 h2 h3 => by
  rw [h.out i (by omega), h.out j (by omega)]; exact hs i j h1 h2 h3

/-- the whole is in order: it is the sorted order -/
theorem srt_whole {l : List Rq} {X : List Int} {n : Nat} (hl : X.length = n) (hp : X.Perm (ints n)) (hs : Srt l X 0 n) : X = sortN l n := by
  refine sorted_unique hp ?_
  rw [List.pairwise_iff_getElem]
  intro i j hi hj hij
  have := hs i j (Nat.zero_le _) hij (by omega)
  rwa [gd_get X i hi, gd_get X j hj] at this
theorem gd_ints (n i : Nat) (h : i < n) : gd (ints n) i = (i : Int) := by
  rw [gd_get _ _ (by rw [ints_length]; exact h)]; exact ints_get n i h
end Go.Proofs.Ytfelfopcmkeimaa
