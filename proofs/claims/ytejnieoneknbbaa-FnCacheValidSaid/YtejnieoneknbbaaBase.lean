/-
  Plain lemmas on memory, for all texts of this seat: slices that read as lists of cells, rows of the call's own.
-/
import Derived.Test.YtejnieoneknbbaaRows
import Derived.WalkKit
import Derived.ProofKit
import Derived.OpenShut
import Derived.Handy
import Derived.BigQuiet
import Derived.Deep.QuietTactic
import Derived.Deep.RegionWith
import Derived.Deep.LoopGhost
import Derived.Deep.AppendLies
import Derived.Laws.OwnMore
namespace Go.Proofs.Ytejnieoneknbbaa
open Go.ChangeShapes Go.WideShapes Go.ChangeAt Go.RowKit Go.BigFrame

theorem hid_ {p : Prop} (h : p) : Hid p := h
theorem cell_lt {w : World} {a : Addr} {v : Value} (h : w.cell? a = some v) : a.block < w.heap.size := World.block_lt_of_cell? _ _ h
theorem meas_ {n k : Nat} (h : k < n) : n - (intOf (.int .i64 ((k : Int) + 1))).toNat < n - (intOf (.int .i64 (k : Int))).toNat := by
  simp only [intOf]; omega
theorem add_mid (b o j : Nat) : (⟨b, o, none⟩ : Addr).add j = ⟨b, o + j, none⟩ := by unfold Addr.add; split <;> simp_all
theorem ret_int {a b : Int} (h : a = b) : Ending.returned (.int .i64 a) = .returned (.int .i64 b) := by rw [h]
theorem ret_bool {a b : Bool} (h : a = b) : Ending.returned (.bool a) = .returned (.bool b) := by rw [h]

theorem bdN {B : Nat} {a w : World} (h : Below B a w) (n : Nat) : Below B a (w.drewN n) := h.trans ⟨rfl, rfl, rfl, Nat.le_refl _, fun _ _ => rfl⟩

theorem bcell {W w1 : World} (hb : Below W.heap.size W w1) : (∀ b o, b < W.heap.size → w1.cell? ⟨b, o, none⟩ = W.cell? ⟨b, o, none⟩) ∧ (∀ b o, b < W.heap.size → w1.frozen? ⟨b, o, none⟩ = W.frozen? ⟨b, o, none⟩) :=
  ⟨fun b o h => hb.cell (p := ⟨b, o, none⟩) h, fun b o h => hb.frozen (p := ⟨b, o, none⟩) h⟩
theorem gb_trans {a b c : World} {row : Option Nat} (h : a.grownBy b row) (k : b.grownBy c row) : a.grownBy c row :=
  ⟨k.os.trans h.os, k.tape.trans h.tape, k.output.trans h.output, Nat.le_trans h.size k.size, fun i hi hn => (k.block i (Nat.lt_of_lt_of_le hi h.size) hn).trans (h.block i hi hn)⟩
theorem gb_of_below {a b : World} {row : Option Nat} (h : Below a.heap.size a b) : a.grownBy b row := ⟨h.os, h.tape, h.output, h.size, fun i hi _ => h.block i hi⟩
theorem below_of_gb {B : Nat} {a b : World} {row : Option Nat} (h : a.grownBy b row) (hB : B ≤ a.heap.size) (hr : ∀ k, row = some k → B ≤ k) : Below B a b := (Below.refl B a).grown h hB hr

/-- low to high -/
def inB (n lo hi : Int) : Bool := decide (lo ≤ n) && decide (n ≤ hi)
theorem inB_iff {n lo hi : Int} : inB n lo hi = true ↔ lo ≤ n ∧ n ≤ hi := by simp [inB]
theorem inB_not {n lo hi : Int} : inB n lo hi = false ↔ ¬ (lo ≤ n ∧ n ≤ hi) := by rw [← inB_iff]; simp

/-- the worlds in which all that was there in w is as it was -/
def Later (w : World) : Type := { x : World // Below w.heap.size w x }
instance {w : World} : Nonempty (Later w) := ⟨⟨w, Below.refl _ _⟩⟩
def Later.w {w : World} (n : Later w) : World := n.val
theorem Later.property {w : World} (n : Later w) : Below w.heap.size w n.w := Subtype.property n
theorem Later.cell {w : World} (n : Later w) {a : Addr} {v : Value} (h : w.cell? a = some v) : n.w.cell? a = some v := (n.property.cell (cell_lt h)).trans h
theorem Later.size {w : World} (n : Later w) : w.heap.size ≤ n.w.heap.size := n.property.size
/-- A region that draws its order, whose operations read and whose callees leave what was there as it was: one walk, in the text's order. -/
theorem wp_region_later {P : Program} {id : Nat} {Q : Exit → Act → World → Prop} {a : Act} {w : World} {l : List Oper} (hm : P.follows .mixedOrders = true) (hB : Region.lexB .any l.toArray = true)
    (h : wpQuiet P l.toArray (fun w' => ∃ n : Later w, w' = n.w) (fun a' => ∀ w', (∃ n : Later w, w' = n.w) → Q .normal a' w') l a) : (Code.region id l.toArray true).wp P Q a w :=
  wp_region_quiet (C := fun w' => ∃ n : Later w, w' = n.w) hm hB ⟨⟨_, (Below.refl _ w).drew⟩, rfl⟩ (by simpa using h)
theorem later_same {P : Program} {f : FuncId} {args : Array Value} {w : World} {n : Later w} {v : Value}
    (h : Calls P f args n.w fun e w' => e = .returned v ∧ n.w = w') : Calls P f args n.w fun e w'' => e = .returned v ∧ ∃ m : Later w, w'' = m.w :=
  h.mono fun _ _ ⟨he, hm⟩ => ⟨he, n, hm.symm⟩
theorem later_below {P : Program} {f : FuncId} {args : Array Value} {w : World} {n : Later w} {v : Value}
    (h : Calls P f args n.w fun e w' => e = .returned v ∧ Below n.w.heap.size n.w w') : Calls P f args n.w fun e w'' => e = .returned v ∧ ∃ m : Later w, w'' = m.w :=
  h.mono fun _ w' ⟨he, hm⟩ => ⟨he, ⟨w', n.property.trans (hm.mono n.size)⟩, rfl⟩

theorem int_info : (Try.prog.info? 3).map (fun i => (i.zero, i.size, i.bytes)) = some (some (.int .i64 0), 1, 8) := by kernel_rfl
/-- a number of the kind int -/
def I64 (n : Int) : Prop := -9223372036854775808 ≤ n ∧ n ≤ 9223372036854775807

/-- the slice at A with n elements of k cells holds the cells xs -/
def Rd (w : World) (k : Nat) (A : Option Addr) (n : Nat) (xs : List Value) : Prop :=
  xs.length = n * k ∧ (0 < n → ∃ b o, A = some ⟨b, o, none⟩ ∧ ∀ j u, xs[j]? = some u → w.cell? ⟨b, o + j, none⟩ = some u)

theorem Rd.nil (w : World) (k : Nat) (A : Option Addr) : Rd w k A 0 [] := ⟨by simp, fun h => absurd h (by omega)⟩

theorem Rd.keep {w w' : World} {k n : Nat} {A : Option Addr} {xs : List Value} (h : Rd w k A n xs)
    (hk : ∀ b o, b < w.heap.size → w'.cell? ⟨b, o, none⟩ = w.cell? ⟨b, o, none⟩) : Rd w' k A n xs :=
  ⟨h.1, fun hn => by
    obtain ⟨b, o, e, hc⟩ := h.2 hn
    exact ⟨b, o, e, fun j u hu => (hk b _ (cell_lt (hc j u hu))).trans (hc j u hu)⟩⟩

theorem Rd.below {w w' : World} {k n : Nat} {A : Option Addr} {xs : List Value} (h : Rd w k A n xs) (hb : Below w.heap.size w w') : Rd w' k A n xs :=
  h.keep fun _ _ hlt => hb.cell hlt

theorem Rd.alloc {w : World} {k n : Nat} {A : Option Addr} {xs : List Value} (h : Rd w k A n xs) (o : Obj) : Rd (w.alloc o) k A n xs :=
  h.below ((Below.refl _ _).alloc (Nat.le_refl _) o)

theorem Rd.drew {w : World} {k n : Nat} {A : Option Addr} {xs : List Value} (h : Rd w k A n xs) : Rd w.drew k A n xs := h
theorem Rd.drewN {w : World} {k n : Nat} {A : Option Addr} {xs : List Value} (h : Rd w k A n xs) (m : Nat) : Rd (w.drewN m) k A n xs := h

theorem flat_length {α : Type} (f : α → List Value) (k : Nat) (hf : ∀ a, (f a).length = k) (l : List α) : (l.flatMap f).length = l.length * k := by
  induction l with
  | nil => simp
  | cons a r ih => simp [List.flatMap_cons, ih, hf, Nat.add_mul, Nat.add_comm]

theorem flat_get {α : Type} (f : α → List Value) (k : Nat) (hf : ∀ a, (f a).length = k) : ∀ (l : List α) (i : Nat) (hi : i < l.length) (j : Nat), j < k → (l.flatMap f)[i * k + j]? = (f l[i])[j]? := by
  intro l
  induction l with
  | nil => intro i hi; simp at hi
  | cons a r ih =>
    intro i hi j hj
    rw [List.flatMap_cons]
    cases i with
    | zero =>
      rw [List.getElem?_append_left (by rw [hf]; omega)]
      simp
    | succ i =>
      have e : (i + 1) * k + j = k + (i * k + j) := by rw [Nat.add_mul]; omega
      rw [e, List.getElem?_append_right (by rw [hf]; omega), hf]
      have e2 : k + (i * k + j) - k = i * k + j := by omega
      rw [e2, ih i (by simpa using hi) j hj]
      simp

/-- a cut of the list: x[:m] -/
theorem Rd.take {w : World} {k n m : Nat} {A : Option Addr} {xs : List Value} (h : Rd w k A n xs) (hm : m ≤ n) : Rd w k A m (xs.take (m * k)) := by
  refine ⟨?_, fun hn => ?_⟩
  · rw [List.length_take, h.1]
    exact Nat.min_eq_left (Nat.mul_le_mul_right _ hm)
  · obtain ⟨b, o, e, hc⟩ := h.2 (by omega)
    refine ⟨b, o, e, fun j u hu => hc j u ?_⟩
    rw [List.getElem?_take] at hu
    split at hu
    · exact hu
    · cases hu

/-- x[m:], as the model has it -/
theorem Rd.drop {w : World} {k n m c : Nat} {A : Option Addr} {xs : List Value} (h : Rd w k A n xs) (hm : m ≤ n) (hc : n ≤ c) :
    Rd w k (if c = m then A else A.map (·.add (m * k))) (n - m) (xs.drop (m * k)) := by
  refine ⟨by rw [List.length_drop, h.1, Nat.sub_mul], fun hn => ?_⟩
  obtain ⟨b, o, rfl, hcell⟩ := h.2 (by omega)
  rw [if_neg (by omega)]
  refine ⟨b, o + m * k, by unfold Addr.add; split <;> simp_all, fun j u hu => ?_⟩
  rw [Nat.add_assoc]
  exact hcell _ u (by rw [← hu, List.getElem?_drop])

theorem own_shape {w : World} {B E k n : Nat} {v : Value} {xs : List Value} (h : w.ownsRow B E k v n xs) : ∃ A c, v = .slice A n c ∧ n ≤ c ∧ c ≤ maxLen := by
  rcases h.2 with ⟨rfl, rfl⟩ | ⟨g, cap, cur, rfl, _, _, h1, h2, _⟩
  · exact ⟨none, 0, rfl, Nat.le_refl _, by simp [maxLen]⟩
  · exact ⟨_, cap, rfl, h1, h2⟩

theorem own_rd {w : World} {B E k n c : Nat} {A : Option Addr} {xs : List Value} (h : w.ownsRow B E k (.slice A n c) n xs) : Rd w k A n xs := by
  refine ⟨h.1, fun hn => ?_⟩
  obtain ⟨g, cap, hv, _, _⟩ := h.form hn
  have hA : A = some ⟨g, 0, none⟩ := by injection hv
  subst hA
  refine ⟨g, 0, rfl, fun j u hu => ?_⟩
  have := h.cells (g := g) rfl j u hu
  rwa [add_mid] at this

theorem own_block {w : World} {B E k n c : Nat} {A : Option Addr} {xs : List Value} (h : w.ownsRow B E k (.slice A n c) n xs) (hn : 0 < n) :
    ∃ g, A = some ⟨g, 0, none⟩ ∧ B ≤ g ∧ g < w.heap.size ∧ (∀ j u, xs[j]? = some u → w.cell? ⟨g, j, none⟩ = some u) ∧ ∀ j, w.frozen? ⟨g, j, none⟩ = false := by
  obtain ⟨g, cap, hv, hB, hlt⟩ := h.form hn
  have hA : A = some ⟨g, 0, none⟩ ∧ c = cap := by injection hv with h1 h2 h3; exact ⟨h1, h3⟩
  obtain ⟨rfl, rfl⟩ := hA
  refine ⟨g, rfl, hB, hlt, fun j u hu => ?_, fun j => h.frozenAt j⟩
  have := h.cells (g := g) rfl j u hu
  rwa [add_mid, Nat.zero_add] at this

theorem own_below {w w' : World} {B E k n : Nat} {v : Value} {xs : List Value} (h : w.ownsRow B E k v n xs) (hb : Below w.heap.size w w') : w'.ownsRow B E k v n xs :=
  h.kept (row := none) ⟨hb.os, hb.tape, hb.output, hb.size, fun i hi _ => hb.block i hi⟩ (by cases hv : v.ownBlock <;> simp)

theorem own_base {w : World} {B B' E k n : Nat} {v : Value} {xs : List Value} (h : w.ownsRow B E k v n xs) (hB : B' ≤ B) : w.ownsRow B' E k v n xs := by
  refine ⟨h.1, ?_⟩
  rcases h.2 with h2 | ⟨g, cap, cur, e, hg, r⟩
  · exact .inl h2
  · exact .inr ⟨g, cap, cur, e, by omega, r⟩

theorem own_pick {w w' : World} {B E k n g : Nat} {v : Value} {xs : List Value} (h : w.ownsRow B E k v n xs) (hg : w.grownBy w' (some g)) (hB : g < B) : w'.ownsRow B E k v n xs :=
  h.kept hg (by
    cases hv : v.ownBlock with
    | none => exact .inl rfl
    | some b => right; have := (h.lt b hv).1; simp; omega)
theorem gb_setCell (w : World) (g o : Nat) (v : Value) : w.grownBy (w.setCell ⟨g, o, none⟩ v) (some g) := ⟨rfl, rfl, rfl, by simp, fun k _ hk => Below.heap_setCell _ _ _ _ (fun e => hk (by rw [e]))⟩
theorem own_set {w : World} {B E k n b o : Nat} {v x : Value} {xs : List Value} (h : w.ownsRow B E k v n xs) (hne : v.ownBlock ≠ some b) : (w.setCell ⟨b, o, none⟩ x).ownsRow B E k v n xs :=
  h.kept (gb_setCell w b o x) (.inr hne)
theorem own_store {w : World} {B E k n c g : Nat} {xs : List Value} (h : w.ownsRow B E k (.slice (some ⟨g, 0, none⟩) n c) n xs) (j : Nat) (hj : j < n * k) :
    ∃ v, w.cell? ⟨g, j, none⟩ = some v ∧ w.frozen? ⟨g, j, none⟩ = false :=
  ⟨_, (h.cellAt j hj).trans (List.getElem?_eq_getElem (by rw [h.1]; exact hj)), h.frozenAt j⟩
theorem own_base_lt {w : World} {B E k n c g : Nat} {xs : List Value} (h : w.ownsRow B E k (.slice (some ⟨g, 0, none⟩) n c) n xs) : B ≤ g ∧ g < w.heap.size := h.lt g rfl

/-- The result is a slice of the call's own with n elements of k cells, xs; nothing that was there has changed. -/
def RSl (w : World) (E k n : Nat) (xs : List Value) (e : Ending) (w' : World) : Prop :=
  ∃ A c, e = .returned (.slice A n c) ∧ n ≤ c ∧ c ≤ maxLen ∧ w'.ownsRow w.heap.size E k (.slice A n c) n xs ∧ Below w.heap.size w w'

theorem RSl.of_own {w w' : World} {E k n : Nat} {v : Value} {xs : List Value} (h : w'.ownsRow w.heap.size E k v n xs) (hb : Below w.heap.size w w') :
    RSl w E k n xs (.returned v) w' := by
  obtain ⟨A, c, rfl, h1, h2⟩ := own_shape h
  exact ⟨A, c, rfl, h1, h2, h, hb⟩

theorem RSl.of_own' {w w' : World} {E k n n' : Nat} {v : Value} {xs xs' : List Value} (h : w'.ownsRow w.heap.size E k v n xs) (hb : Below w.heap.size w w') (hn : n = n') (hx : xs = xs') :
    RSl w E k n' xs' (.returned v) w' := by
  subst hn; subst hx; exact RSl.of_own h hb

theorem below_push {B E k n : Nat} {w wr w' : World} {v : Value} {xs : List Value} (hb : Below B w wr) (ho : wr.ownsRow B E k v n xs) (hg : wr.grownBy w' v.ownBlock) (hB : B ≤ wr.heap.size) : Below B w w' :=
  hb.grown hg hB (fun g e => (ho.lt g e).1)
theorem own_eq {B E k n n' : Nat} {w : World} {v : Value} {xs xs' : List Value} (h : w.ownsRow B E k v n xs) (hn : n = n') (hx : xs = xs') : w.ownsRow B E k v n' xs' := by
  subst hn; subst hx; exact h
theorem own_empty (w : World) (E k : Nat) : (w.alloc (.cells #[] E)).ownsRow w.heap.size E k (.slice (some ⟨w.heap.size, 0, none⟩) 0 0) 0 [] :=
  World.ownsRow_made w #[] 0 (Nat.le_refl _) (by simp [maxLen]) (by simp)

theorem own_empty_at (w : World) (E k g : Nat) (hg : w.heap.size = g) : (w.alloc (.cells #[] E)).ownsRow g E k (.slice (some ⟨g, 0, none⟩) 0 0) 0 [] := by
  subst hg; exact own_empty w E k
theorem news_alloc (w : World) (cs : List Value) (T : TypeId) : ∀ j u, cs[j]? = some u → (w.alloc (.cells cs.toArray T)).cell? ((⟨w.heap.size, 0, none⟩ : Addr).add j) = some u := by
  intro j u hu
  refine World.news_of_block (heap_alloc_new w _) j u ?_
  simpa using hu

/-- 'append(s, x)' where s is a row of the call's own and x the one element that has just been laid -/
theorem wpList_push {P : Program} (w : World) {ops : Array Oper} {rest : List Oper} {o : Oper} {a : Act} {Q : Exit → Act → World → Prop} (hgd : o.guard = none) (s x : Operand) (t : TypeId)
    (ho : o.op = .call { callee := .builtin .append, args := #[s, x], argTypes := #[t, t] })
    (base : Nat) (e : TypeId) (z : Value) (size bytes : Nat) (ht : P.underlying t = some (.slice e)) (hinfo : (P.info? e).map (fun i => (i.zero, i.size, i.bytes)) = some (some z, size, bytes))
    (hzs : z.cells.size = size) (hsz : 0 < size) (hby : bytes ≤ 1024) (news : List Value) (T : TypeId) (hl : news.length = size) (h1 : news.all (·.oneCell') = true)
    (v : Value) (n : Nat) (xs : List Value) (hown : w.ownsRow base e size v n xs) (hs : a.eval s = v)
    (g : Nat) (hx : a.eval x = .slice (some ⟨g, 0, none⟩) 1 1) (hgs : g = w.heap.size) (hn : n ≤ 1073741824) (hbase : base ≤ w.heap.size)
    (h : ∀ v' w', w'.ownsRow base e size v' (n + 1) (xs ++ news) → w.grownBy w' v.ownBlock → wpList P ops Q rest (a.put o.dst v') w') :
    wpList P ops Q (o :: rest) a (w.alloc (.cells news.toArray T)) := by
  subst hgs
  obtain ⟨i, hi, hz, hz1, hz2⟩ := info_parts hinfo
  refine wpList_append_own _ hgd s x t ho base e i z size bytes ht hi hz hz1 hz2 hzs hsz v n xs hs (hown.alloc _) ⟨w.heap.size, 0, none⟩ 1 1 news hx (by omega) (news_alloc w news T) (fun u hu => (List.all_eq_true.1 h1) u hu) (by simp only [maxLen]; omega) ?_ (by simp; omega) ?_
  · calc (n + 1) * bytes ≤ (1073741824 + 1) * 1024 := Nat.mul_le_mul (by omega) hby
      _ ≤ 140737488355328 := by decide
  · intro v' w' h2 h3 _
    exact h v' w' h2 (gb_trans (World.grownBy_alloc w _ _) h3)

/-- slices of numbers -/
def intC (l : List Int) : List Value := l.map (Value.int .i64)
theorem intC_length (l : List Int) : (intC l).length = l.length := by simp [intC]
theorem intC_append (a b : List Int) : intC (a ++ b) = intC a ++ intC b := by simp [intC]
theorem intC_one (l : List Int) : ∀ u ∈ intC l, u.oneCell' = true := by
  intro u hu
  obtain ⟨z, _, rfl⟩ := List.mem_map.1 hu
  rfl
theorem Rd.int {w : World} {A : Option Addr} {n : Nat} {l : List Int} (h : Rd w 1 A n (intC l)) (i : Nat) (hi : i < n) (hn : l.length = n) :
    ∃ b o, A = some ⟨b, o, none⟩ ∧ w.cell? ⟨b, o + i, none⟩ = some (.int .i64 (l[i]'(by omega))) := by
  obtain ⟨b, o, e, hc⟩ := h.2 (by omega)
  exact ⟨b, o, e, hc i _ (by simp [intC, hn ▸ hi])⟩
end Go.Proofs.Ytejnieoneknbbaa
