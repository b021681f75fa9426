/-
  Disks: impl.WriteSectors with one value.
-/
import Derived.Test.YtejnieoneknbbaaCaB
import Derived.Test.YtejnieoneknbbaaAlive
import Derived.Laws.CopyOwn
namespace Go.Proofs.Ytejnieoneknbbaa
open Go.ChangeShapes Go.WideShapes Go.ChangeAt Go.RowKit Go.BigFrame

theorem isStretch_yes (a n : Nat) (w : World) (h : a < n) (hn : n ≤ 1048576) :
    Calls Try.prog 65 #[.int .i64 (a : Int), .int .i64 1, .int .i64 (n : Int)] w fun e w' => e = .returned (.bool true) ∧ w = w' := by
  have h1 : inB (a : Int) 0 (n : Int) = true := inB_iff.2 (by omega)
  have h2 : inB 1 0 ((n : Int) - (a : Int)) = true := inB_iff.2 (by omega)
  go_enter Try.func65, Try.ntmps65
  go_wp2_with fail
  refine (iwithin_any _ _ _ _).mono ?_
  rw [h1]
  rintro e w1 ⟨rfl, rfl⟩
  go_wp2_with fail
  refine (iwithin_any _ _ _ _).mono ?_
  rw [h2]
  rintro e w1 ⟨rfl, rfl⟩
  go_wp2
  go_returns
  exact ⟨rfl, rfl⟩

theorem own_row {w : World} {B E k n c : Nat} {A : Option Addr} {xs : List Value} (h : w.ownsRow B E k (.slice A n c) n xs) (hn : 0 < n) :
    ∃ (g : Nat) (cur : List Value), A = some ⟨g, 0, none⟩ ∧ B ≤ g ∧ n ≤ c ∧ w.heap[g]? = some (.cells cur.toArray E (0, 0)) ∧ cur.length = c * k ∧ cur.take (n * k) = xs := by
  rcases h.2 with ⟨_, e⟩ | ⟨g, cap, cur, e, hB, hh, h1, _, h2, h3⟩
  · omega
  · injection e with e1 e2 e3
    subst e1 e3
    exact ⟨g, cur.toList, rfl, hB, h1, by simpa using hh, by simpa using h2, h3⟩
theorem splice_get (cur : List Value) (a : Nat) (v : Value) (h : a < cur.length) (j : Nat) : (splice cur a [v])[j]? = if j = a then some v else cur[j]? := by
  have hs : splice cur a [v] = cur.set a v := by
    unfold splice
    rw [List.set_eq_take_append_cons_drop, if_pos h]; rfl
  rw [hs, List.getElem?_set]
  by_cases e : j = a
  · subst e; simp [h]
  · rw [if_neg (fun q => e q.symm), if_neg e]

/-- the result is a slice that reads as given -/
def RRd (w : World) (n : Nat) (xs : List Value) (e : Ending) (w' : World) : Prop :=
  ∃ A c, e = .returned (.slice A n c) ∧ Rd w' 1 A n xs ∧ Below w.heap.size w w'

set_option maxHeartbeats 1000000 in
theorem implWS_any (d : List Int) (A : Option Addr) (n c : Nat) (a : Nat) (v : Int) (A1 : Option Addr) (c1 : Nat) (w : World) (hn : d.length = n) (hm : n ≤ 1048576) (hR : Rd w 1 A n (intC d)) (hR1 : Rd w 1 A1 1 (intC [v])) (hok : diskB d = true) (hv : 0 ≤ v ∧ v ≤ 255) (ha : a < n) :
    Calls Try.prog 40 #[.slice A n c, .int .i64 (a : Int), .slice A1 1 c1] w (RRd w n (intC (d.set a v))) := by
  have HR := hid_ hR; clear hR
  have HN := hid_ hn; clear hn
  have hal : allB [v] 0 255 = true := by simp [allB, inB_iff.2 hv]
  go_enter Try.func40, Try.ntmps40
  go_wp2_with fail
  refine (diskValid_any d A n c _ HN.out (by omega) HR.out).mono ?_
  rw [hok]
  rintro e w1 ⟨rfl, rfl⟩
  go_wp2_with fail
  refine (allWithin_any [v] A1 1 c1 0 255 _ rfl (by omega) hR1).mono ?_
  rw [hal]
  rintro e w1 ⟨rfl, rfl⟩
  go_wp2_with fail
  refine (isStretch_yes a n _ ha (by omega)).mono ?_
  rintro e w1 ⟨rfl, rfl⟩
  clear hal hok
  have HR1 := hid_ hR1; clear hR1
  go_wp2_with fail
  refine (cloneI_any d A n c _ HN.out hm HR.out).mono ?_
  rintro e w2 ⟨A2, c2, rfl, hc2, hcm2, ho2, hb2⟩
  obtain ⟨g, cur, rfl, hgB, -, hh, hcl, htk⟩ := own_row ho2 (by omega)
  have HB2 := hid_ hb2
  obtain ⟨b1, o1, rfl, hc1⟩ := (HR1.out.below hb2).int 0 (by omega) rfl
  simp only [Nat.add_zero] at hc1
  have HC1 := hid_ (show w2.cell? ⟨b1, o1, none⟩ = some (.int .i64 v) from hc1)
  have HH := hid_ hh; clear hh
  have HCL := hid_ hcl; clear hcl
  have HTK := hid_ htk; clear htk
  have HCM := hid_ hcm2
  clear hb2 ho2 hc1 hcm2
  have haz : (a : Int) < (n : Int) := by omega
  have hac : (a : Int) < (c2 : Int) := by omega
  have hacn : ¬ c2 = a := by omega
  have hcm3 : c2 ≤ 9223372036854775807 := by have := HCM.out; unfold maxLen at this; omega
  go_wp2_with (with_reducible refine wpList_copy_splice rfl _ _ _ _ rfl 3 Try.underlying40 (by kernel_rfl) _ _ _ _ _ _ rfl rfl g a cur 3 HH.out [.int .i64 v] ?_ ?_ ?_ ?_ w.heap.size w HB2.out hgB ?_)
  · show 1 = min 1 (n - a); omega
  · intro j u hu
    rcases j with _ | j
    · simp at hu; subst hu; exact HC1.out
    · simp at hu
  · show a + 1 ≤ cur.length
    have := HCL.out; omega
  · intro u hu
    simp at hu; subst hu; rfl
  · intro w3 HG3 hb3
    have HL := hid_ (show ∀ j : Nat, w3.cell? ⟨g, 0 + j, none⟩ = (splice cur a [.int .i64 v])[j]? from fun j => by
      have := HG3.out
      simp [World.cell?, this])
    go_wp2
    go_returns
    refine ⟨some ⟨g, 0, none⟩, c2, rfl, ⟨by simp [intC, HN.out], fun _ => ⟨g, 0, rfl, fun j u hu => ?_⟩⟩, hb3⟩
    rw [HL.out j, splice_get _ _ _ (by have := HCL.out; omega)]
    simp only [intC, List.map_set, List.getElem?_set] at hu
    have hj : j < n := by
      rcases Nat.lt_or_ge j n with q | q
      · exact q
      · exfalso
        rw [if_neg (by omega)] at hu
        rw [List.getElem?_eq_none (by rw [List.length_map, HN.out]; exact q)] at hu
        cases hu
    by_cases e : a = j
    · rw [if_pos e.symm]
      rw [if_pos e, if_pos (by rw [List.length_map, HN.out]; exact ha)] at hu
      exact hu
    · rw [if_neg (fun q => e q.symm)]
      rw [if_neg e] at hu
      have ht : (intC d)[j]? = cur[j]? := by rw [← HTK.out, List.getElem?_take, if_pos (by omega)]
      rw [← ht]; exact hu
end Go.Proofs.Ytejnieoneknbbaa
