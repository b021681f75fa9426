/-
  append of a whole slice onto a row of the call's own.
-/
import Derived.Test.YtejnieoneknbbaaBase
import Derived.BigFrame
namespace Go.Proofs.Ytejnieoneknbbaa
open Go.ChangeShapes Go.WideShapes Go.ChangeAt Go.RowKit Go.BigFrame

section
variable {P : Program} (w : World)
theorem run_append_none_any (base : Nat) (t ty e : TypeId) (i : TypeInfo) (size : Nat) (ht : P.underlying t = some (.slice e)) (hi : P.info? e = some i)
    (v : Value) (n : Nat) (xs : List Value) (hown : w.ownsRow base e size v n xs) (c : Nat) :
    (Builtin.append_ #[t, t] ty #[v, .slice none 0 c]).run P w = .ok v w := by
  rcases hown.2 with ⟨rfl, rfl⟩ | ⟨g, cap, cur, rfl, _, _, hnc, _⟩
  · simp [Builtin.append_, run_underlying ht, sizeOf, typeInfo, hi, Builtin.lenOf, Builtin.firstCells]
  · simp [Builtin.append_, run_underlying ht, sizeOf, typeInfo, hi, Builtin.lenOf, Builtin.firstCells, hnc, storeCells]

theorem wp_append_rd {o : Oper} {a : Act} {K : Act → World → Prop} {Q : Exit → Act → World → Prop} (s x : Operand) (t : TypeId)
    (ho : o.op = .call { callee := .builtin .append, args := #[s, x], argTypes := #[t, t] })
    (base : Nat) (e : TypeId) (z : Value) (size bytes : Nat) (ht : P.underlying t = some (.slice e)) (hinfo : (P.info? e).map (fun i => (i.zero, i.size, i.bytes)) = some (some z, size, bytes))
    (hzs : z.cells.size = size) (hsz : 0 < size) (hby : bytes ≤ 1024)
    (v : Value) (n : Nat) (xs : List Value) (hown : w.ownsRow base e size v n xs) (hs : a.eval s = v)
    (A : Option Addr) (m c : Nat) (news : List Value) (hr : Rd w size A m news) (hx : a.eval x = .slice A m c) (h1 : ∀ u ∈ news, u.oneCell' = true)
    (hn : n + m ≤ 1073741824) (hbase : base ≤ w.heap.size)
    (h : ∀ v' w', w'.ownsRow base e size v' (n + m) (xs ++ news) → w.grownBy w' v.ownBlock → K (a.put o.dst v') w') :
    o.wp P a w K Q := by
  obtain ⟨i, hi, hz, hz1, hz2⟩ := info_parts hinfo
  have hbytes : (n + m) * bytes ≤ 140737488355328 := by
    calc (n + m) * bytes ≤ 1073741824 * 1024 := Nat.mul_le_mul hn hby
      _ ≤ 140737488355328 := by decide
  cases A with
  | none =>
    have hm : m = 0 := by
      rcases Nat.eq_zero_or_pos m with h0 | h0
      · exact h0
      · obtain ⟨b, o, h, _⟩ := hr.2 h0
        cases h
    subst hm
    have hnil : news = [] := List.eq_nil_of_length_eq_zero (by simpa using hr.1)
    subst hnil
    have hrun := run_append_none_any (P := P) w base t o.type e i size ht hi v n xs hown c
    unfold Oper.wp execOp
    simp only [ho, resolve, invoke, builtin, Sem.run_bind, Sem.run_pure, Result.andThen_ok, List.map_toArray, List.map_cons, List.map_nil, hs, hx, hrun]
    exact h v w (by simpa using hown) (World.grownBy.refl w _)
  | some ad =>
    have hnews : ∀ j u, news[j]? = some u → w.cell? (ad.add j) = some u := by
      intro j u hu
      rcases Nat.eq_zero_or_pos m with h0 | h0
      · subst h0
        have hnil : news = [] := List.eq_nil_of_length_eq_zero (by simpa using hr.1)
        subst hnil
        simp at hu
      · obtain ⟨b, o, he, hc⟩ := hr.2 h0
        injection he with he
        subst he
        rw [add_mid]
        exact hc j u hu
    exact wp_append_own w s x t ho base e i z size bytes ht hi hz hz1 hz2 hzs hsz v n xs hs hown ad m c news hx hr.1 hnews h1 (by simp only [maxLen]; omega) hbytes hbase (fun v' w' h2 h3 _ => h v' w' h2 h3)

theorem wpList_append_rd {ops : Array Oper} {rest : List Oper} {o : Oper} {a : Act} {Q : Exit → Act → World → Prop} (hgd : o.guard = none) (s x : Operand) (t : TypeId)
    (ho : o.op = .call { callee := .builtin .append, args := #[s, x], argTypes := #[t, t] })
    (base : Nat) (e : TypeId) (z : Value) (size bytes : Nat) (ht : P.underlying t = some (.slice e)) (hinfo : (P.info? e).map (fun i => (i.zero, i.size, i.bytes)) = some (some z, size, bytes))
    (hzs : z.cells.size = size) (hsz : 0 < size) (hby : bytes ≤ 1024)
    (v : Value) (n : Nat) (xs : List Value) (hown : w.ownsRow base e size v n xs) (hs : a.eval s = v)
    (A : Option Addr) (m c : Nat) (news : List Value) (hr : Rd w size A m news) (hx : a.eval x = .slice A m c) (h1 : ∀ u ∈ news, u.oneCell' = true)
    (hn : n + m ≤ 1073741824) (hbase : base ≤ w.heap.size)
    (h : ∀ v' w', w'.ownsRow base e size v' (n + m) (xs ++ news) → w.grownBy w' v.ownBlock → wpList P ops Q rest (a.put o.dst v') w') :
    wpList P ops Q (o :: rest) a w :=
  wpList_plain hgd fun _ hK => wp_append_rd w s x t ho base e z size bytes ht hinfo hzs hsz hby v n xs hown hs A m c news hr hx h1 hn hbase fun v' w' h2 h3 => hK _ _ (h v' w' h2 h3)

/-- the same, at a step of a region that draws its order -/
theorem step_append_rd {ops : Array Oper} {o : Oper} {a : Act} {K : Act → World → Prop} {Q : Exit → Act → World → Prop} {E : Prop} (hgd : o.guard = none) (s x : Operand) (t : TypeId)
    (ho : o.op = .call { callee := .builtin .append, args := #[s, x], argTypes := #[t, t] })
    (base : Nat) (e : TypeId) (z : Value) (size bytes : Nat) (ht : P.underlying t = some (.slice e)) (hinfo : (P.info? e).map (fun i => (i.zero, i.size, i.bytes)) = some (some z, size, bytes))
    (hzs : z.cells.size = size) (hsz : 0 < size) (hby : bytes ≤ 1024)
    (v : Value) (n : Nat) (xs : List Value) (hown : w.ownsRow base e size v n xs) (hs : a.eval s = v)
    (A : Option Addr) (m c : Nat) (news : List Value) (hr : Rd w size A m news) (hx : a.eval x = .slice A m c) (h1 : ∀ u ∈ news, u.oneCell' = true)
    (hn : n + m ≤ 1073741824) (hbase : base ≤ w.heap.size)
    (h : ∀ v' w', w'.ownsRow base e size v' (n + m) (xs ++ news) → w.grownBy w' v.ownBlock → K (a.put o.dst v') w') :
    if Region.wanted o (yielded ops a.tmps) = true then Oper.wp P o a w K Q else E := by
  have hw : Region.wanted o (yielded ops a.tmps) = true := by simp [Region.wanted, hgd]
  rw [if_pos hw]
  exact wp_append_rd w s x t ho base e z size bytes ht hinfo hzs hsz hby v n xs hown hs A m c news hr hx h1 hn hbase h

/-- the same, behind a guard that stands open -/
theorem wpList_append_rdg {ops : Array Oper} {rest : List Oper} {o : Oper} {a : Act} {Q : Exit → Act → World → Prop} (hgd : Region.wanted o (yielded ops a.tmps) = true) (s x : Operand) (t : TypeId)
    (ho : o.op = .call { callee := .builtin .append, args := #[s, x], argTypes := #[t, t] })
    (base : Nat) (e : TypeId) (z : Value) (size bytes : Nat) (ht : P.underlying t = some (.slice e)) (hinfo : (P.info? e).map (fun i => (i.zero, i.size, i.bytes)) = some (some z, size, bytes))
    (hzs : z.cells.size = size) (hsz : 0 < size) (hby : bytes ≤ 1024)
    (v : Value) (n : Nat) (xs : List Value) (hown : w.ownsRow base e size v n xs) (hs : a.eval s = v)
    (A : Option Addr) (m c : Nat) (news : List Value) (hr : Rd w size A m news) (hx : a.eval x = .slice A m c) (h1 : ∀ u ∈ news, u.oneCell' = true)
    (hn : n + m ≤ 1073741824) (hbase : base ≤ w.heap.size)
    (h : ∀ v' w', w'.ownsRow base e size v' (n + m) (xs ++ news) → w.grownBy w' v.ownBlock → wpList P ops Q rest (a.put o.dst v') w') :
    wpList P ops Q (o :: rest) a w :=
  wpList_want hgd fun _ hK => wp_append_rd w s x t ho base e z size bytes ht hinfo hzs hsz hby v n xs hown hs A m c news hr hx h1 hn hbase fun v' w' h2 h3 => hK _ _ (h v' w' h2 h3)
end

/-- 'clear' of what lies behind a row's elements -/
theorem run_clear_tail {P : Program} (w : World) (t ty e : TypeId) (z : Value) (k B g n c m c' : Nat) (xs : List Value) (ht : P.underlying t = some (.slice e)) (hv : (zeroValue e).run P w = .ok z w) (hzs : z.cells.size = k)
    (hone : ∀ v ∈ (Builtin.zeroCells z.cells m).toList, v.oneCell' = true) (h : w.ownsRow B e k (.slice (some ⟨g, 0, none⟩) n c) n xs) (hm : n + m ≤ c) (hpos : 0 < m) :
    ∃ w', (Builtin.clear_ #[t] ty #[.slice (some ⟨g, n * k, none⟩) m c']).run P w = .ok (.tuple #[]) w' ∧ w'.ownsRow B e k (.slice (some ⟨g, 0, none⟩) n c) n xs ∧ w.grownBy w' (some g) := by
  rcases h.2 with ⟨h', _⟩ | ⟨g', cap', cur, h', hb, hg, hnc, hcm, hcs, htake⟩
  · simp at h'
  · simp only [Value.slice.injEq, Option.some.injEq, Addr.mk.injEq, and_true, true_and] at h'
    obtain ⟨rfl, rfl⟩ := h'
    have hlz : (Builtin.zeroCells z.cells m).toList.length = m * k := by rw [Array.length_toList, size_zeroCells, hzs]
    have hfit : n * k + 0 + (Builtin.zeroCells z.cells m).toList.length ≤ cur.size := by
      rw [hlz, hcs, Nat.add_zero, ← Nat.add_mul]; exact Nat.mul_le_mul_right _ hm
    have hst := run_storeCells_at (P := P) g (n * k) e (Builtin.zeroCells z.cells m).toList 0 cur w hg hfit hone
    simp only [Nat.add_zero] at hst hfit
    obtain ⟨m, rfl⟩ : ∃ m', m = m' + 1 := ⟨m - 1, by omega⟩
    obtain ⟨C, hC⟩ : ∃ C, C = (cur.toList.take (n * k) ++ (Builtin.zeroCells z.cells (m + 1)).toList ++ cur.toList.drop (n * k + (Builtin.zeroCells z.cells (m + 1)).toList.length)).toArray := ⟨_, rfl⟩
    rw [← hC] at hst
    refine ⟨w.setRow g C, ?_, ⟨h.1, .inr ⟨g, c, C, rfl, hb, setRow_heap w g cur _ e _ hg, hnc, hcm, ?_, ?_⟩⟩, ⟨rfl, rfl, rfl, by simp, fun j _ hj => setRow_other w g j _ (fun e => hj (by simp [e]))⟩⟩
    · simp [Builtin.clear_, run_underlying ht, hv, hst]
    · rw [hC]
      simp only [List.size_toArray, List.length_append, List.length_take, List.length_drop, Array.length_toList] at hfit ⊢
      omega
    · have hle : n * k ≤ cur.toList.length := by rw [Array.length_toList]; omega
      rw [hC, List.append_assoc, ← htake]
      simp only []
      rw [List.take_left' (by rw [List.length_take]; omega)]
end Go.Proofs.Ytejnieoneknbbaa
