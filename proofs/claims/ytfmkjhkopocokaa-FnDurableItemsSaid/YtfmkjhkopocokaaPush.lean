/-
  append of one element onto a row of the call's own: where the new row lies.
-/
import Derived.Test.YtfmkjhkopocokaaBase
import Derived.Maps.AppendAt
namespace Go.Proofs.Ytfmkjhkopocokaa
open Go.ChangeShapes Go.WideShapes Go.ChangeAt Go.RowKit Go.BigFrame

/-- 'append(s, x)': where the new row lies -/
theorem wpList_push_at {P : Program} (w : World) {ops : Array Oper} {rest : List Oper} {o : Oper} {a : Act} {Q : Exit → Act → World → Prop} (hgd : o.guard = none) (s x : Operand) (t : TypeId)
    (ho : o.op = .call { callee := .builtin .append, args := #[s, x], argTypes := #[t, t] })
    (base : Nat) (e : TypeId) (z : Value) (size bytes : Nat) (ht : P.underlying t = some (.slice e)) (hinfo : (P.info? e).map (fun i => (i.zero, i.size, i.bytes)) = some (some z, size, bytes))
    (hzs : z.cells.size = size) (hsz : 0 < size) (hby : bytes ≤ 1024) (news : List Value) (T : TypeId) (hl : news.length = size) (h1 : news.all (·.oneCell') = true)
    (v : Value) (n : Nat) (xs : List Value) (hown : w.ownsRow base e size v n xs) (hs : a.eval s = v)
    (g : Nat) (hx : a.eval x = .slice (some ⟨g, 0, none⟩) 1 1) (hgs : g = w.heap.size) (hn : n ≤ 1073741824) (hbase : base ≤ w.heap.size)
    (h : ∀ v' w', w'.ownsRow base e size v' (n + 1) (xs ++ news) → w.grownBy w' v.ownBlock → (∀ b, v'.ownBlock = some b → v.ownBlock = some b ∨ w.heap.size ≤ b) → wpList P ops Q rest (a.put o.dst v') w') :
    wpList P ops Q (o :: rest) a (w.alloc (.cells news.toArray T)) := by
  subst hgs
  obtain ⟨i, hi, hz, hz1, hz2⟩ := info_parts hinfo
  refine wpList_append_own_at _ hgd s x t ho base e i z size bytes ht hi hz hz1 hz2 hzs hsz v n xs hs (hown.alloc _) ⟨w.heap.size, 0, none⟩ 1 1 news hx (by omega) (news_alloc w news T) (fun u hu => (List.all_eq_true.1 h1) u hu) (by simp only [maxLen]; omega) ?_ (by simp; omega) ?_
  · calc (n + 1) * bytes ≤ (1073741824 + 1) * 1024 := Nat.mul_le_mul (by omega) hby
      _ ≤ 140737488355328 := by decide
  · intro v' w' h2 h3 _ h5
    refine h v' w' h2 (gb_trans (World.grownBy_alloc w _ _) h3) (fun b hb => ?_)
    rcases h5 with h5 | h5
    · exact .inl (h5 ▸ hb)
    · right
      rw [h5] at hb
      injection hb with hb
      simp only [World.size_alloc] at hb
      omega

end Go.Proofs.Ytfmkjhkopocokaa
