/-
  Barriers: the draw of the law on durable items.
-/
import Derived.Test.YtfmkjhkopocokaaBaR
import Derived.Maps.AppendAt
import Derived.Deep.RegionLaw
namespace Go.Proofs.Ytfmkjhkopocokaa
open Go.ChangeShapes Go.WideShapes Go.ChangeAt Go.RowKit Go.BigFrame Go.Deep

section
variable {P : Program} (w : World)
/-- append of a read slice, at a step of a region that draws its order; with where the new row lies -/
theorem step_append_at {ops : Array Oper} {o : Oper} {a : Act} {K : Act → World → Prop} {Q : Exit → Act → World → Prop} {E : Prop} (hgd : o.guard = none) (s x : Operand) (t : TypeId)
    (ho : o.op = .call { callee := .builtin .append, args := #[s, x], argTypes := #[t, t] })
    (base : Nat) (e : TypeId) (z : Value) (size bytes : Nat) (ht : P.underlying t = some (.slice e)) (hinfo : (P.info? e).map (fun i => (i.zero, i.size, i.bytes)) = some (some z, size, bytes))
    (hzs : z.cells.size = size) (hsz : 0 < size) (hby : bytes ≤ 1024)
    (v : Value) (n : Nat) (xs : List Value) (hown : w.ownsRow base e size v n xs) (hs : a.eval s = v)
    (b0 o0 : Nat) (m c : Nat) (news : List Value) (hr : Rd w size (some ⟨b0, o0, none⟩) m news) (hx : a.eval x = .slice (some ⟨b0, o0, none⟩) m c) (h1 : ∀ u ∈ news, u.oneCell' = true)
    (hn : n + m ≤ 1073741824) (hbase : base ≤ w.heap.size) (hm : 0 < m)
    (h : ∀ v' w', w'.ownsRow base e size v' (n + m) (xs ++ news) → w.grownBy w' v.ownBlock → (v'.ownBlock = v.ownBlock ∨ v'.ownBlock = some w.heap.size) → K (a.put o.dst v') w') :
    if Region.wanted o (yielded ops a.tmps) = true then Oper.wp P o a w K Q else E := by
  have hw : Region.wanted o (yielded ops a.tmps) = true := by simp [Region.wanted, hgd]
  rw [if_pos hw]
  obtain ⟨i, hi, hz, hz1, hz2⟩ := info_parts hinfo
  have hbytes : (n + m) * bytes ≤ 140737488355328 := by
    calc (n + m) * bytes ≤ 1073741824 * 1024 := Nat.mul_le_mul hn hby
      _ ≤ 140737488355328 := by decide
  have hnews : ∀ j u, news[j]? = some u → w.cell? ((⟨b0, o0, none⟩ : Addr).add j) = some u := by
    intro j u hu
    obtain ⟨b, o', he, hc⟩ := hr.2 hm
    injection he with he
    injection he with e1 e2 _
    subst e1
    subst e2
    rw [add_mid]
    exact hc j u hu
  obtain ⟨v', w', hrun, h2, h3, _, h5⟩ := run_append_own_at (P := P) w base t o.type e i z size bytes ht hi hz hz1 hz2 hzs hsz v n xs hown ⟨b0, o0, none⟩ m c news hr.1 hnews h1 (by simp only [maxLen]; omega) hbytes hbase
  unfold Oper.wp execOp
  simp only [ho, resolve, invoke, builtin, Sem.run_bind, Sem.run_pure, Result.andThen_ok, List.map_toArray, List.map_cons, List.map_nil, hs, hx, hrun]
  exact h v' w' h2 h3 h5
end

/-- all blocks but two are as they were -/
structure Kp (g b7 : Nat) (w w' : World) : Prop where
  os : w'.os = w.os
  tape : w'.tape = w.tape
  output : w'.output = w.output
  size : w.heap.size ≤ w'.heap.size
  block : ∀ i, i < w.heap.size → i ≠ g → i ≠ b7 → w'.heap[i]? = w.heap[i]?
theorem Kp.refl (g b7 : Nat) (w : World) : Kp g b7 w w := ⟨rfl, rfl, rfl, Nat.le_refl _, fun _ _ _ _ => rfl⟩
theorem Kp.step {g b7 : Nat} {w wr w' : World} {row : Option Nat} (h : Kp g b7 w wr) (hg : wr.grownBy w' row) (hrow : ∀ b, row = some b → b = g ∨ b = b7 ∨ w.heap.size ≤ b) : Kp g b7 w w' :=
  ⟨hg.os.trans h.os, hg.tape.trans h.tape, hg.output.trans h.output, Nat.le_trans h.size hg.size, fun i hi h1 h2 =>
    (hg.block i (by have := h.size; omega) (fun e => by rcases hrow i e.symm with q | q | q <;> omega)).trans (h.block i hi h1 h2)⟩
theorem Kp.below {g b7 B : Nat} {w w' : World} (h : Kp g b7 w w') (h1 : B ≤ g) (h2 : B ≤ b7) (h3 : B ≤ w.heap.size) : Below B w w' :=
  ⟨h.os, h.tape, h.output, h.size, fun i hi => h.block i (by omega) (by omega) (by omega)⟩
theorem own_kp {w w' : World} {B E k n g b7 : Nat} {v : Value} {xs : List Value} (h : w.ownsRow B E k v n xs) (hk : Kp g b7 w w') (h1 : ∀ b, v.ownBlock = some b → b ≠ g ∧ b ≠ b7) : w'.ownsRow B E k v n xs := by
  refine ⟨h.1, ?_⟩
  rcases h.2 with q | ⟨b, cap, cur, rfl, hb, hh, r⟩
  · exact .inl q
  · refine .inr ⟨b, cap, cur, rfl, hb, ?_, r⟩
    have := h1 b rfl
    rw [hk.block b (Array.getElem?_eq_some_iff.1 hh).1 this.1 this.2]
    exact hh
theorem OwnGs.kp {w w' : World} {B g b7 : Nat} {v : Value} {gs : List (List Int)} {vs : List Value} (h : OwnGs w B v gs vs) (hk : Kp g b7 w w') (h1 : g < B) (h2 : b7 < B) : OwnGs w' B v gs vs :=
  ⟨h.len, own_kp h.row hk (fun b hb => by have := (h.row.lt b hb).1; omega), fun j p q => own_kp (h.inner j p q) hk (fun b hb => by have := ((h.inner j p q).lt b hb).1; omega), h.apart⟩

/-- the order on its way: S places, read at the reader's place p -/
def DuAt (g b7 : Nat) (w3 : World) (S : Nat) (p : Int) (v : Value) (wr : World) : Prop :=
  ∃ o : List Int, o.length = S ∧ wr.ownsRow b7 3 1 v S (intC o) ∧ (∀ b, v.ownBlock = some b → b = b7 ∨ w3.heap.size ≤ b) ∧ Rdr wr g p ∧ Kp g b7 w3 wr
theorem DuAt.pick {g b7 S : Nat} {w3 wr w' : World} {p p' : Int} {v : Value} (h : DuAt g b7 w3 S p v wr) (hg : wr.grownBy w' (some g)) (hr : Rdr w' g p') (hb : g < b7) : DuAt g b7 w3 S p' v w' := by
  obtain ⟨o, h1, h2, h3, _, h5⟩ := h
  exact ⟨o, h1, own_pick h2 hg hb, h3, hr, h5.step hg (fun b e => .inl (by injection e with e; exact e.symm))⟩
theorem DuAt.push {g b7 S : Nat} {w3 wr wl w' : World} {p : Int} {v v' : Value} (h : DuAt g b7 w3 S p v wr) (hl : wr.grownBy wl none) (o : List Int) (hol : o.length = S + 1) (ho : w'.ownsRow b7 3 1 v' (S + 1) (intC o)) (hg : wl.grownBy w' v.ownBlock)
    (ha : v'.ownBlock = v.ownBlock ∨ v'.ownBlock = some wl.heap.size) (hb : g < b7) : DuAt g b7 w3 (S + 1) p v' w' := by
  obtain ⟨_, _, h2, h3, h4, h5⟩ := h
  have h2l : wl.ownsRow b7 3 1 v _ _ := h2.kept hl (by cases hv : v.ownBlock <;> simp)
  have h4l : Rdr wl g p := h4.keep (fun b hb' => hl.block b (by have := h4.lt; omega) (by simp))
  have h5l : Kp g b7 w3 wl := h5.step hl (fun b e => by cases e)
  refine ⟨o, hol, ho, fun b e => ?_, rdr_own h4l h2l hg hb, h5l.step hg (fun b e => .inr (h3 b e))⟩
  rcases ha with q | q
  · exact h3 b (q ▸ e)
  · right
    rw [q] at e
    injection e with e
    have := h5l.size
    omega

theorem DuAt.mono {g b7 S S' : Nat} {w3 wr : World} {p p' : Int} {v : Value} (h : DuAt g b7 w3 S p v wr) (hS : S = S') (hp : p ≤ p') : DuAt g b7 w3 S' p' v wr := by
  subst hS
  obtain ⟨o, h1, h2, h3, h4, h5⟩ := h
  exact ⟨o, h1, h2, h3, h4.mono hp, h5⟩
theorem gb_draw (w : World) (o : Obj) : w.grownBy (w.alloc o).drew none :=
  gb_trans (World.grownBy_alloc _ _ _) (⟨rfl, rfl, rfl, Nat.le_refl _, fun _ _ _ => rfl⟩ : (w.alloc o).grownBy (w.alloc o).drew none)

/-- drawn items, an order, a number -/
def DrawnDu (w : World) (e : Ending) (w' : World) : Prop :=
  ∃ (l : List It) (A : Option Addr) (c : Nat) (o : List Int) (A2 : Option Addr) (c2 : Nat) (d : Int), e = .returned (.tuple #[.slice A l.length c, .slice A2 o.length c2, .int .i64 d]) ∧ l.length ≤ 13 ∧ l.length ≤ c ∧ c ≤ maxLen ∧ o.length ≤ 13 ∧ o.length ≤ c2 ∧ c2 ≤ maxLen ∧ -1 ≤ d ∧ d ≤ 20 ∧
    w'.ownsRow w.heap.size 33 2 (.slice A l.length c) l.length (itC l) ∧ w'.ownsRow w.heap.size 3 1 (.slice A2 o.length c2) o.length (intC o) ∧ Below w.heap.size w w'

theorem DrawnDu.mk_ {w w' : World} {l : List It} {A A2 : Option Addr} {c c2 S : Nat} {o : List Int} {d : Int} (hl : l.length ≤ 13) (hc : l.length ≤ c) (hcm : c ≤ maxLen) (hS : o.length = S) (hSm : S ≤ 13) (hc2 : S ≤ c2) (hcm2 : c2 ≤ maxLen) (h1 : -1 ≤ d) (h2 : d ≤ 20)
    (ho : w'.ownsRow w.heap.size 33 2 (.slice A l.length c) l.length (itC l)) (ho2 : w'.ownsRow w.heap.size 3 1 (.slice A2 S c2) S (intC o)) (hb : Below w.heap.size w w') :
    DrawnDu w (.returned (.tuple #[.slice A l.length c, .slice A2 S c2, .int .i64 d])) w' := by
  subst hS
  exact ⟨l, A, c, o, A2, c2, d, rfl, hl, hc, hcm, hSm, hc2, hcm2, h1, h2, ho, ho2, hb⟩

set_option maxRecDepth 20000 in
set_option maxHeartbeats 1000000 in
theorem drawDu_any (A : Option Addr) (n c : Nat) (w : World) (hn : n ≤ 1048576) (hc : n ≤ c) (hcm : c ≤ maxLen) (hB : Bys w w.heap.size A n) :
    Calls Try.prog 36 #[.slice A n c] w (DrawnDu w) := by
  have HB := hid_ hB; clear hB
  have HC := hid_ hcm; clear hcm
  go_enter Try.func36, Try.ntmps36
  go_wp2_with fail
  refine (open_any A n c _ hn hc HC.out HB.out).mono ?_
  rintro e w1 ⟨rfl, hr1, hb1⟩
  have HBB := hid_ hb1; clear hb1
  have HR1 := hid_ hr1; clear hr1
  have hlt := HR1.out.lt
  go_wp2_with fail
  refine (l20Items_any w.heap.size 14 _ (by omega) (by omega) HR1.out).mono ?_
  rintro e w2 ⟨l, A2, c2, rfl, hl, hc1, hc2, ho2, hr2, hg2⟩
  have HO2 := hid_ ho2; clear ho2
  have HG2 := hid_ hg2; clear hg2
  have HR2 := hid_ hr2; clear hr2
  have hl13 : l.length ≤ 13 := by omega
  have HH := hid_ (And.intro hc1 hc2); clear hc1 hc2 hl
  have hs2 := HG2.out.size
  have HFA := hid_ (grpR_facts l)
  have HGL := grpR_length l
  have HGM := hid_ (grpR_mem l)
  obtain ⟨gs, hgs⟩ : ∃ gs, grpR l = gs := ⟨_, rfl⟩
  go_wp2_with fail
  refine (specGrp_any l A2 l.length c2 _ rfl (by omega) ((own_rd HO2.out).alloc _)).mono ?_
  rw [hgs] at HFA HGL HGM ⊢
  clear hgs
  rintro e w3 ⟨Ao, co, vs, rfl, hco, hcmo, hoo, hbo⟩
  have hs3 := hbo.size
  simp only [World.size_alloc] at hs3
  have HOG := hid_ hoo; clear hoo
  clear hco hcmo
  have HST := hid_ (show DuAt w.heap.size w2.heap.size w3 0 100 (.slice (some ⟨w2.heap.size, 0, none⟩) 0 0) w3 from
    ⟨[], rfl, own_below (own_empty w2 3 1) hbo, fun b e => by left; simpa [Value.ownBlock] using e.symm, ((HR2.out.mono (by omega)).alloc _).below hbo, Kp.refl _ _ _⟩)
  have HO3 := hid_ (own_below (own_below HO2.out ((Below.refl _ _).alloc (Nat.le_refl _) (.cells #[] 3))) hbo)
  have HB3 := hid_ ((HBB.out.trans (below_of_gbs HG2.out HBB.out.size (Nat.le_refl _))).trans (((Below.refl w2.heap.size w2).alloc (Nat.le_refl _) (.cells #[] 3)).mono (by omega)) |>.trans (hbo.mono (by simp; omega)))
  have HN2 := hid_ (show ∀ b, (Value.slice A2 l.length c2).ownBlock = some b → b ≠ w.heap.size ∧ b ≠ w2.heap.size from fun b hb => by have := HO2.out.lt b hb; omega)
  clear hbo HO2 HG2 HR2 HR1 HBB
  have hw12 : w.heap.size < w2.heap.size := by omega
  have HTOT := hid_ (show offs gs gs.length ≤ 13 from by
    by_cases h : l.length ≤ 12
    · rw [HFA.out.2.1 h]; omega
    · rw [HFA.out.2.2 (by omega)]; omega)
  go_wp2
  go_loopw [7, 9] (fun v vk wr => ∃ k : Nat, k ≤ gs.length ∧ vk = .int .i64 (k : Int) ∧ DuAt w.heap.size w2.heap.size w3 (offs gs k) (100 + 44 * (k : Int)) v wr) (fun _ vk _ => gs.length - (intOf vk).toNat)
  case atStart => exact ⟨0, Nat.zero_le _, rfl, by rw [offs_zero]; exact HST.out⟩
  case round =>
    obtain ⟨k, hk, rfl, hdu⟩ := hrel
    have HDU := hid_ hdu; clear hdu
    by_cases hlt2 : k < gs.length
    · obtain ⟨o, hol, ho, hvb, hr, hkp⟩ := HDU.out
      have HKP := hid_ hkp; clear hkp
      have HR := hid_ hr; clear hr
      obtain ⟨A8, c8, rfl, _, _⟩ := own_shape ho
      have HOv := hid_ ho; clear ho
      clear hol hvb
      have hGw := HOG.out.kp HKP.out (by simp; omega) (by simp)
      obtain ⟨b, oo, Aj, cj, rfl, hrow, _, _, _⟩ := hGw.rd.at k hlt2
      clear hGw
      have hSm := offs_succ gs k hlt2
      have hSf := offs_flat gs (k + 1)
      rw [← flat_len] at hSf
      have hm12 := HGM.out gs[k] (List.getElem_mem _)
      obtain ⟨gk, hg⟩ : ∃ g, gs[k] = g := ⟨_, rfl⟩
      rw [hg] at hrow hSm hm12
      have HGK := hid_ hg; clear hg
      obtain ⟨m, hm⟩ : ∃ m, gk.length = m := ⟨_, rfl⟩
      rw [hm] at hrow hSm hm12
      have HM := hid_ hm; clear hm
      obtain ⟨S, hS⟩ : ∃ S, offs gs k = S := ⟨_, rfl⟩
      rw [hS] at hSm HOv HDU ⊢
      clear hS
      have HSM := hid_ hSm
      rw [hSm] at hSf
      clear hSm
      have hSf13 : S + m ≤ 13 := by have := HTOT.out; omega
      clear hSf
      have hkz : (k : Int) < ((gs.length : Nat) : Int) := by omega
      go_wp2_with fail
      refine (l20Order_any w.heap.size (100 + 44 * (k : Int)) m 0 _ (by omega) (by omega) (by omega) (by omega) (by omega) HR.out).mono ?_
      rintro e w4 ⟨mx, A4, c4, rfl, hml, _, hmb, hc4, hcm4, hom, hr4, hg4⟩
      have HMB := hid_ (hmb (by omega)); clear hmb
      have HD4 := hid_ (HDU.out.pick hg4 hr4 hw12)
      clear hc4 hcm4
      rw [hml] at hom ⊢
      have HML := hid_ hml; clear hml
      have HAP := hid_ (show ∀ b, (Value.slice A8 S c8).ownBlock = some b → (Value.slice A4 m c4).ownBlock ≠ some b from fun b hb he => by have := (HOv.out.lt b hb).2; have := (hom.lt b he).1; omega)
      have HOM := hid_ (own_base hom HKP.out.size); clear hom hr4 hg4
      go_wp2
      go_loopw [7, 11] (fun v vj wr => ∃ j : Nat, j ≤ m ∧ vj = .int .i64 (j : Int) ∧ DuAt w.heap.size w2.heap.size w3 (S + j) (100 + 44 * (k : Int) + 2 * m + 20) v wr ∧ wr.ownsRow w3.heap.size 3 1 (.slice A4 m c4) m (intC mx) ∧ (∀ b, v.ownBlock = some b → (Value.slice A4 m c4).ownBlock ≠ some b)) (fun _ vj _ => m - (intOf vj).toNat)
      case atStart => exact ⟨0, Nat.zero_le _, rfl, HD4.out, HOM.out, HAP.out⟩
      case round =>
        obtain ⟨j, hj, rfl, hdu2, hom2, hap2⟩ := hrel
        have HDU2 := hid_ hdu2; clear hdu2
        have HOM2 := hid_ hom2; clear hom2
        have HAP2 := hid_ hap2; clear hap2
        clear hrow
        by_cases hlj : j < m
        · obtain ⟨o2, hol2, ho2, hvb2, hr2, hkp2⟩ := HDU2.out
          have hGw := HOG.out.kp hkp2 (by simp; omega) (by simp)
          obtain ⟨b', oo', Aj', cj', e, hrow, _, _, hrj⟩ := hGw.rd.at k hlt2
          clear hGw hr2 hkp2 hvb2
          injection e with e
          injection e with e1 e2 _
          subst e1
          subst e2
          rw [HGK.out] at hrow hrj
          rw [HM.out] at hrow hrj
          obtain ⟨A7, c7, rfl, hc7, hcm7⟩ := own_shape ho2
          have HOv2 := hid_ ho2; clear ho2
          have HC7 := hid_ hcm7; clear hcm7
          have hxm := HMB.out (mx[j]'(by rw [HML.out]; exact hlj)) (List.getElem_mem _)
          obtain ⟨b4, o4, rfl, hcx⟩ := (own_rd HOM2.out).int j hlj HML.out
          obtain ⟨x, hx⟩ := Int.eq_ofNat_of_zero_le hxm.1
          rw [hx] at hcx hxm
          clear hx
          have hxlt : x < m := by omega
          clear hxm
          obtain ⟨b5, o5, rfl, hcy⟩ := hrj.int x hxlt HM.out
          clear hrj
          obtain ⟨y, hy⟩ : ∃ y, gk[x]'(by rw [HM.out]; exact hxlt) = y := ⟨_, rfl⟩
          rw [hy] at hcy
          clear hy
          have hOL := hid_ hol2; clear hol2
          have hwl : w2.heap.size ≤ wr.heap.size := by have := HDU2.out; obtain ⟨_, _, _, _, _, h⟩ := this; have := h.size; omega
          have hxz : (x : Int) < (m : Int) := by omega
          have hjz : (j : Int) < (m : Int) := by omega
          go_wp2_with fail
          first
            | (go_region_law (refine step_append_at _ (by rfl) _ _ _ (by rfl) w2.heap.size 3 (.int .i64 0) 1 8 Try.underlying38 int_info rfl (by decide) (by decide) _ _ _ (HOv2.out.drew.alloc _) (by rfl) _ _ _ _ _ (rd_int1 _ y _ (by first | rfl | simp)) (by rfl) (intC_one [y]) (by omega) (by simp <;> omega) (by decide) ?_; intro v' w' ho' hg' ha'; obtain ⟨A9, c9, rfl, _, _⟩ := own_shape ho'; have HO' := hid_ ho'; have HG' := hid_ hg'; have HA' := hid_ ha'; clear ho' hg' ha'))
            | fail
          all_goals
            go_wp2
            go_roundw
            case rel =>
              refine ⟨j + 1, by omega, by go_num, HDU2.out.push (gb_draw wr _) (o2 ++ [y]) (by have := hOL.out; simp; omega) (own_eq HO'.out rfl (by rw [intC_append])) HG'.out HA'.out hw12, ?_, fun b hb he => ?_⟩
              · refine (HOM2.out.kept (gb_draw wr _) (.inr (by simp [Value.ownBlock]))).kept HG'.out ?_
                exact .inr (fun e => HAP2.out b4 e.symm rfl)
              · rcases HA'.out with q | q
                · exact HAP2.out b (q ▸ hb) he
                · rw [q] at hb
                  injection hb with hb
                  have := (HOM2.out.lt b he).2
                  simp only [World.size_drew, World.size_alloc] at hb
                  omega
            case measure => exact meas_ hlj
        · obtain rfl : j = m := by omega
          have hjz : ¬ (j : Int) < (j : Int) := by omega
          go_wp2
          go_roundw
          case rel => exact ⟨k + 1, by omega, by go_num, HDU2.out.mono HSM.out.symm (by omega)⟩
          case measure => exact meas_ hlt2
    · have e : k = gs.length := by omega
      have hSt : offs gs k ≤ 13 := by rw [e]; exact HTOT.out
      clear e
      have hkz : ¬ (k : Int) < ((gs.length : Nat) : Int) := by omega
      obtain ⟨S, hS⟩ : ∃ S, offs gs k = S := ⟨_, rfl⟩
      rw [hS] at HDU hSt
      clear hS
      obtain ⟨o, hol, ho, hvb, hr, hkp⟩ := HDU.out
      obtain ⟨A7, c7, rfl, hc7, hcm7⟩ := own_shape ho
      have HOL := hid_ hol; clear hol
      have HC7 := hid_ hcm7; clear hcm7
      have HOv := hid_ ho; clear ho
      have HR := hid_ hr; clear hr hvb
      have HOl := hid_ (own_kp HO3.out hkp HN2.out)
      have HBB := hid_ (HB3.out.trans (hkp.below (Nat.le_refl _) (by omega) (by omega)))
      have hsz := hkp.size
      clear hkp
      go_wp2_with fail
      refine (oddP_any w.heap.size (100 + 44 * (k : Int)) 9 _ (by omega) (by omega) (by omega) HR.out).mono ?_
      rintro e w5 ⟨bb, rfl, _, hr5, hg5⟩
      replace HOl := hid_ (own_pick HOl.out hg5 hlt)
      replace HOv := hid_ (own_pick HOv.out hg5 hw12)
      replace HBB := hid_ (HBB.out.trans (below_of_gbs hg5 (by omega) (Nat.le_refl _)))
      have hs5 := hg5.size
      have HR5 := hid_ hr5; clear hr5 hg5
      cases bb
      · go_wp2_with fail
        refine (pick_any w.heap.size _ ((S : Int) + 3) _ (by omega) (by omega) (by omega) HR5.out).mono ?_
        rintro e w6 ⟨d, rfl, hd0, hd1, _, hr6, hg6⟩
        replace hd1 := hd1 (by omega)
        clear hr6
        go_wp2
        go_returns
        exact DrawnDu.mk_ hl13 HH.out.1 HH.out.2 HOL.out hSt hc7 HC7.out (by omega) (by omega) (own_base (own_pick HOl.out hg6 hlt) (by omega)) (own_base (own_pick HOv.out hg6 hw12) (by omega)) (HBB.out.trans (below_of_gbs hg6 (by omega) (Nat.le_refl _)))
      · go_wp2_with fail
        refine (l20Order_any w.heap.size _ l.length 3 _ (by omega) ?_ ?_ (by omega) (by omega) HR5.out).mono ?_
        · omega
        · omega
        rintro e w6 ⟨o2, A8, c8, rfl, ho2, _, _, hc8, hcm8, hor, hr8, hg8⟩
        rw [ho2] at hor hc8 ⊢
        have HOL2 := hid_ ho2; clear ho2
        have HC8 := hid_ hcm8; clear hcm8
        have HOr := hid_ hor; clear hor
        replace HOl := hid_ (own_pick HOl.out hg8 hlt)
        replace HBB := hid_ (HBB.out.trans (below_of_gbs hg8 (by omega) (Nat.le_refl _)))
        have hs6 := hg8.size
        have HR8 := hid_ hr8; clear hr8 hg8
        go_wp2_with fail
        refine (pick_any w.heap.size _ ((l.length : Int) + 3) _ (by omega) (by omega) (by omega) HR8.out).mono ?_
        rintro e w7 ⟨d, rfl, hd0, hd1, _, hr6, hg6⟩
        replace hd1 := hd1 (by omega)
        clear hr6
        go_wp2
        go_returns
        exact DrawnDu.mk_ hl13 HH.out.1 HH.out.2 HOL2.out hl13 hc8 HC8.out (by omega) (by omega) (own_base (own_pick HOl.out hg6 hlt) (by omega)) (own_base (own_pick HOr.out hg6 (by omega)) (by omega)) (HBB.out.trans (below_of_gbs hg6 (by omega) (Nat.le_refl _)))
end Go.Proofs.Ytfmkjhkopocokaa
