/-
  No cell of these rows narrows 'for every input' (looked for: loops, veiled, ifaces, maps, wideKeys, modest, calm, conditions, laid).
  DERIVED. THE GIVEN ROWS OF THIS SEAT. 9 by the template 'for every input the law returns true; each argument reads behind the call as it read before'; 0 by the template 'total and deterministic' (their statements: YtfelfopcmkeimaaTotals.lean).
  GIVEN WITH THE SEED: the statements are not yours to turn. If you find one false, say at which input.
  Laid BY PROGRAM, IN A SANDBOX (cutbox-rows.mjs): the forced cells as the released guide's own fill.sh prints them over the translation cb3cb85c85442157… (all of the seat's roots in one cut). By AI agents, Wed Nov 11 2026. No macro, syntax, notation, axiom, sorry.
-/
import Derived.Test.YtfelfopcmkeimaaChecked
import GoSem.Claim
import GoSem.ClaimJoined
import GoSem.ClaimMapViews
import Derived.JoinedTies
import Derived.KernelRfl
namespace Go.Proofs.Ytfelfopcmkeimaa
/- THE CELL 'sum', in the pinned program and in every row, IS THE sha256 OF THE DUMP (.gsa) THAT YtfelfopcmkeimaaProg.lean LOADS. Nothing in Lean hashes anything: it is a label: what it is worth is what the hold of that sum in a sandbox is worth. -/
noncomputable def Try.pinned : Pinned := { name := "ytfelfopcmkeimaa", sum := "cb3cb85c85442157f9be87f5442787694aa18399ce8df497189f6daf02e1da31", checked := Try.checked }
namespace Rows
def none {H : Type} : Left H := { results := [], args := [] }

/-- 'laws.FnSweepOrder': WHATEVER THE INPUT: true; the input reads as it did. -/
def fnSweepOrderSpec : ChangeSpec := { name := "fnSweepOrder", fn := fun _ => fun
  | [d] => { results := [.lit (.bool true)], args := [d] }
  | _ => none }
def fnSweepOrderRow : OpenClaim := { program := "ytfelfopcmkeimaa", sum := "cb3cb85c85442157f9be87f5442787694aa18399ce8df497189f6daf02e1da31", func := "loop.example/blockstack/laws.FnSweepOrder", spec := "fnSweepOrder", unfollowed := true, recurses := true, apart := false }
def FnSweepOrderSaid : Prop := fnSweepOrderRow.holds Try.pinned (OpenSpec.ofChange fnSweepOrderSpec)

/-- ITS FALSE NEIGHBOUR: 'it returns false'. Refute it at one input. -/
def fnSweepOrderWrong : ChangeSpec := { name := "fnSweepOrder", fn := fun _ => fun
  | [d] => { results := [.lit (.bool false)], args := [d] }
  | _ => none }
def FnSweepOrderWrongFalsely : Prop := fnSweepOrderRow.holds Try.pinned (OpenSpec.ofChange fnSweepOrderWrong)

/-- 'laws.FnExactPickNext': WHATEVER THE INPUT: true; the input reads as it did. -/
def fnExactPickNextSpec : ChangeSpec := { name := "fnExactPickNext", fn := fun _ => fun
  | [d1, d2, d3, d4, d5, d6] => { results := [.lit (.bool true)], args := [d1, d2, d3, d4, d5, d6] }
  | _ => none }
def fnExactPickNextRow : OpenClaim := { program := "ytfelfopcmkeimaa", sum := "cb3cb85c85442157f9be87f5442787694aa18399ce8df497189f6daf02e1da31", func := "loop.example/blockstack/laws.FnExactPickNext", spec := "fnExactPickNext", unfollowed := true, recurses := true, apart := false }
def FnExactPickNextSaid : Prop := fnExactPickNextRow.holds Try.pinned (OpenSpec.ofChange fnExactPickNextSpec)

/-- ITS FALSE NEIGHBOUR: 'it returns false'. Refute it at one input. -/
def fnExactPickNextWrong : ChangeSpec := { name := "fnExactPickNext", fn := fun _ => fun
  | [d1, d2, d3, d4, d5, d6] => { results := [.lit (.bool false)], args := [d1, d2, d3, d4, d5, d6] }
  | _ => none }
def FnExactPickNextWrongFalsely : Prop := fnExactPickNextRow.holds Try.pinned (OpenSpec.ofChange fnExactPickNextWrong)

/-- 'laws.FnPickNext': WHATEVER THE INPUT: true; the input reads as it did. -/
def fnPickNextSpec : ChangeSpec := { name := "fnPickNext", fn := fun _ => fun
  | [d] => { results := [.lit (.bool true)], args := [d] }
  | _ => none }
def fnPickNextRow : OpenClaim := { program := "ytfelfopcmkeimaa", sum := "cb3cb85c85442157f9be87f5442787694aa18399ce8df497189f6daf02e1da31", func := "loop.example/blockstack/laws.FnPickNext", spec := "fnPickNext", unfollowed := true, recurses := true, apart := false }
def FnPickNextSaid : Prop := fnPickNextRow.holds Try.pinned (OpenSpec.ofChange fnPickNextSpec)

/-- ITS FALSE NEIGHBOUR: 'it returns false'. Refute it at one input. -/
def fnPickNextWrong : ChangeSpec := { name := "fnPickNext", fn := fun _ => fun
  | [d] => { results := [.lit (.bool false)], args := [d] }
  | _ => none }
def FnPickNextWrongFalsely : Prop := fnPickNextRow.holds Try.pinned (OpenSpec.ofChange fnPickNextWrong)

/-- 'laws.FnExactSeekDistance': WHATEVER THE INPUT: true; the input reads as it did. -/
def fnExactSeekDistanceSpec : ChangeSpec := { name := "fnExactSeekDistance", fn := fun _ => fun
  | [d1, d2, d3] => { results := [.lit (.bool true)], args := [d1, d2, d3] }
  | _ => none }
def fnExactSeekDistanceRow : OpenClaim := { program := "ytfelfopcmkeimaa", sum := "cb3cb85c85442157f9be87f5442787694aa18399ce8df497189f6daf02e1da31", func := "loop.example/blockstack/laws.FnExactSeekDistance", spec := "fnExactSeekDistance", unfollowed := true, recurses := true, apart := false }
def FnExactSeekDistanceSaid : Prop := fnExactSeekDistanceRow.holds Try.pinned (OpenSpec.ofChange fnExactSeekDistanceSpec)

/-- ITS FALSE NEIGHBOUR: 'it returns false'. Refute it at one input. -/
def fnExactSeekDistanceWrong : ChangeSpec := { name := "fnExactSeekDistance", fn := fun _ => fun
  | [d1, d2, d3] => { results := [.lit (.bool false)], args := [d1, d2, d3] }
  | _ => none }
def FnExactSeekDistanceWrongFalsely : Prop := fnExactSeekDistanceRow.holds Try.pinned (OpenSpec.ofChange fnExactSeekDistanceWrong)

/-- 'laws.FnSeekDistance': WHATEVER THE INPUT: true; the input reads as it did. -/
def fnSeekDistanceSpec : ChangeSpec := { name := "fnSeekDistance", fn := fun _ => fun
  | [d] => { results := [.lit (.bool true)], args := [d] }
  | _ => none }
def fnSeekDistanceRow : OpenClaim := { program := "ytfelfopcmkeimaa", sum := "cb3cb85c85442157f9be87f5442787694aa18399ce8df497189f6daf02e1da31", func := "loop.example/blockstack/laws.FnSeekDistance", spec := "fnSeekDistance", unfollowed := true, recurses := true, apart := false }
def FnSeekDistanceSaid : Prop := fnSeekDistanceRow.holds Try.pinned (OpenSpec.ofChange fnSeekDistanceSpec)

/-- ITS FALSE NEIGHBOUR: 'it returns false'. Refute it at one input. -/
def fnSeekDistanceWrong : ChangeSpec := { name := "fnSeekDistance", fn := fun _ => fun
  | [d] => { results := [.lit (.bool false)], args := [d] }
  | _ => none }
def FnSeekDistanceWrongFalsely : Prop := fnSeekDistanceRow.holds Try.pinned (OpenSpec.ofChange fnSeekDistanceWrong)

/-- 'laws.FnExactSortedOrder': WHATEVER THE INPUT: true; the input reads as it did. -/
def fnExactSortedOrderSpec : ChangeSpec := { name := "fnExactSortedOrder", fn := fun _ => fun
  | [d] => { results := [.lit (.bool true)], args := [d] }
  | _ => none }
def fnExactSortedOrderRow : OpenClaim := { program := "ytfelfopcmkeimaa", sum := "cb3cb85c85442157f9be87f5442787694aa18399ce8df497189f6daf02e1da31", func := "loop.example/blockstack/laws.FnExactSortedOrder", spec := "fnExactSortedOrder", unfollowed := true, recurses := true, apart := false }
def FnExactSortedOrderSaid : Prop := fnExactSortedOrderRow.holds Try.pinned (OpenSpec.ofChange fnExactSortedOrderSpec)

/-- ITS FALSE NEIGHBOUR: 'it returns false'. Refute it at one input. -/
def fnExactSortedOrderWrong : ChangeSpec := { name := "fnExactSortedOrder", fn := fun _ => fun
  | [d] => { results := [.lit (.bool false)], args := [d] }
  | _ => none }
def FnExactSortedOrderWrongFalsely : Prop := fnExactSortedOrderRow.holds Try.pinned (OpenSpec.ofChange fnExactSortedOrderWrong)

/-- 'laws.FnExactSweepOrder': WHATEVER THE INPUT: true; the input reads as it did. -/
def fnExactSweepOrderSpec : ChangeSpec := { name := "fnExactSweepOrder", fn := fun _ => fun
  | [d1, d2] => { results := [.lit (.bool true)], args := [d1, d2] }
  | _ => none }
def fnExactSweepOrderRow : OpenClaim := { program := "ytfelfopcmkeimaa", sum := "cb3cb85c85442157f9be87f5442787694aa18399ce8df497189f6daf02e1da31", func := "loop.example/blockstack/laws.FnExactSweepOrder", spec := "fnExactSweepOrder", unfollowed := true, recurses := true, apart := false }
def FnExactSweepOrderSaid : Prop := fnExactSweepOrderRow.holds Try.pinned (OpenSpec.ofChange fnExactSweepOrderSpec)

/-- ITS FALSE NEIGHBOUR: 'it returns false'. Refute it at one input. -/
def fnExactSweepOrderWrong : ChangeSpec := { name := "fnExactSweepOrder", fn := fun _ => fun
  | [d1, d2] => { results := [.lit (.bool false)], args := [d1, d2] }
  | _ => none }
def FnExactSweepOrderWrongFalsely : Prop := fnExactSweepOrderRow.holds Try.pinned (OpenSpec.ofChange fnExactSweepOrderWrong)

/-- 'laws.FnSortedOrder': WHATEVER THE INPUT: true; the input reads as it did. -/
def fnSortedOrderSpec : ChangeSpec := { name := "fnSortedOrder", fn := fun _ => fun
  | [d] => { results := [.lit (.bool true)], args := [d] }
  | _ => none }
def fnSortedOrderRow : OpenClaim := { program := "ytfelfopcmkeimaa", sum := "cb3cb85c85442157f9be87f5442787694aa18399ce8df497189f6daf02e1da31", func := "loop.example/blockstack/laws.FnSortedOrder", spec := "fnSortedOrder", unfollowed := true, recurses := true, apart := false }
def FnSortedOrderSaid : Prop := fnSortedOrderRow.holds Try.pinned (OpenSpec.ofChange fnSortedOrderSpec)

/-- ITS FALSE NEIGHBOUR: 'it returns false'. Refute it at one input. -/
def fnSortedOrderWrong : ChangeSpec := { name := "fnSortedOrder", fn := fun _ => fun
  | [d] => { results := [.lit (.bool false)], args := [d] }
  | _ => none }
def FnSortedOrderWrongFalsely : Prop := fnSortedOrderRow.holds Try.pinned (OpenSpec.ofChange fnSortedOrderWrong)

/-- 'laws.FnSweepBack': WHATEVER THE INPUT: true; the input reads as it did. -/
def fnSweepBackSpec : ChangeSpec := { name := "fnSweepBack", fn := fun _ => fun
  | [d] => { results := [.lit (.bool true)], args := [d] }
  | _ => none }
def fnSweepBackRow : OpenClaim := { program := "ytfelfopcmkeimaa", sum := "cb3cb85c85442157f9be87f5442787694aa18399ce8df497189f6daf02e1da31", func := "loop.example/blockstack/laws.FnSweepBack", spec := "fnSweepBack", unfollowed := true, recurses := true, apart := false }
def FnSweepBackSaid : Prop := fnSweepBackRow.holds Try.pinned (OpenSpec.ofChange fnSweepBackSpec)

/-- ITS FALSE NEIGHBOUR: 'it returns false'. Refute it at one input. -/
def fnSweepBackWrong : ChangeSpec := { name := "fnSweepBack", fn := fun _ => fun
  | [d] => { results := [.lit (.bool false)], args := [d] }
  | _ => none }
def FnSweepBackWrongFalsely : Prop := fnSweepBackRow.holds Try.pinned (OpenSpec.ofChange fnSweepBackWrong)

/- THE SECOND FORM. 'bulk': how many values and letters a reading holds, each counted each time it is reached (what is shared counts as often as it is met; a slice's spare places count too). A statement '..UptoSaid' is the law's where the arguments, and the package variables that the reading takes, are together of bulk at most 1048576: NARROWER than '..Said'. Prove '..Said' where nothing that the law and all that it calls make is longer than what came in: it says more and counts as full. Else prove '..UptoSaid'. A law counts once. -/
mutual
def uptoBulk {H : Type} : DataW H → Nat
  | .lit (.string bytes) => bytes.length + 1
  | .lit _ => 1
  | .nil => 1
  | .ptr d => uptoBulk d + 1
  | .slice elems spare => uptoBulkAll elems + uptoBulkAll spare + 1
  | .agg parts => uptoBulkAll parts + 1
  | .iface _ d => uptoBulk d + 1
  | .map entries => uptoBulkEntries entries + 1
  | .held _ => 1
def uptoBulkAll {H : Type} : List (DataW H) → Nat
  | [] => 0
  | d :: r => uptoBulk d + uptoBulkAll r
def uptoBulkEntries {H : Type} : List (Lit × DataW H) → Nat
  | [] => 0
  | x :: r => uptoBulkEntry x + uptoBulkEntries r
def uptoBulkEntry {H : Type} : Lit × DataW H → Nat
  | (.string bytes, d) => bytes.length + uptoBulk d + 1
  | (_, d) => uptoBulk d + 1
 end
def uptoSmall : (H : Type) → List (DataW H) → Bool := fun _ ds => decide (uptoBulkAll ds ≤ 1048576)
def OpenSpec.upto (s : _root_.Go.ChangeSpec) : _root_.Go.OpenSpec := { _root_.Go.OpenSpec.ofChange s with cond := some uptoSmall }

/-- 'laws.FnSweepOrder', WHERE WHAT IT READS IS OF BULK AT MOST 1048576: true; the input reads as it did. -/
def fnSweepOrderUptoRow : OpenClaim := { program := "ytfelfopcmkeimaa", sum := "cb3cb85c85442157f9be87f5442787694aa18399ce8df497189f6daf02e1da31", func := "loop.example/blockstack/laws.FnSweepOrder", spec := "fnSweepOrder", unfollowed := true, recurses := true, apart := false, narrowed := true }
def FnSweepOrderUptoSaid : Prop := fnSweepOrderUptoRow.holds Try.pinned (OpenSpec.upto fnSweepOrderSpec)

/-- 'laws.FnExactPickNext', WHERE WHAT IT READS IS OF BULK AT MOST 1048576: true; the input reads as it did. -/
def fnExactPickNextUptoRow : OpenClaim := { program := "ytfelfopcmkeimaa", sum := "cb3cb85c85442157f9be87f5442787694aa18399ce8df497189f6daf02e1da31", func := "loop.example/blockstack/laws.FnExactPickNext", spec := "fnExactPickNext", unfollowed := true, recurses := true, apart := false, narrowed := true }
def FnExactPickNextUptoSaid : Prop := fnExactPickNextUptoRow.holds Try.pinned (OpenSpec.upto fnExactPickNextSpec)

/-- 'laws.FnPickNext', WHERE WHAT IT READS IS OF BULK AT MOST 1048576: true; the input reads as it did. -/
def fnPickNextUptoRow : OpenClaim := { program := "ytfelfopcmkeimaa", sum := "cb3cb85c85442157f9be87f5442787694aa18399ce8df497189f6daf02e1da31", func := "loop.example/blockstack/laws.FnPickNext", spec := "fnPickNext", unfollowed := true, recurses := true, apart := false, narrowed := true }
def FnPickNextUptoSaid : Prop := fnPickNextUptoRow.holds Try.pinned (OpenSpec.upto fnPickNextSpec)

/-- 'laws.FnExactSeekDistance', WHERE WHAT IT READS IS OF BULK AT MOST 1048576: true; the input reads as it did. -/
def fnExactSeekDistanceUptoRow : OpenClaim := { program := "ytfelfopcmkeimaa", sum := "cb3cb85c85442157f9be87f5442787694aa18399ce8df497189f6daf02e1da31", func := "loop.example/blockstack/laws.FnExactSeekDistance", spec := "fnExactSeekDistance", unfollowed := true, recurses := true, apart := false, narrowed := true }
def FnExactSeekDistanceUptoSaid : Prop := fnExactSeekDistanceUptoRow.holds Try.pinned (OpenSpec.upto fnExactSeekDistanceSpec)

/-- 'laws.FnSeekDistance', WHERE WHAT IT READS IS OF BULK AT MOST 1048576: true; the input reads as it did. -/
def fnSeekDistanceUptoRow : OpenClaim := { program := "ytfelfopcmkeimaa", sum := "cb3cb85c85442157f9be87f5442787694aa18399ce8df497189f6daf02e1da31", func := "loop.example/blockstack/laws.FnSeekDistance", spec := "fnSeekDistance", unfollowed := true, recurses := true, apart := false, narrowed := true }
def FnSeekDistanceUptoSaid : Prop := fnSeekDistanceUptoRow.holds Try.pinned (OpenSpec.upto fnSeekDistanceSpec)

/-- 'laws.FnExactSortedOrder', WHERE WHAT IT READS IS OF BULK AT MOST 1048576: true; the input reads as it did. -/
def fnExactSortedOrderUptoRow : OpenClaim := { program := "ytfelfopcmkeimaa", sum := "cb3cb85c85442157f9be87f5442787694aa18399ce8df497189f6daf02e1da31", func := "loop.example/blockstack/laws.FnExactSortedOrder", spec := "fnExactSortedOrder", unfollowed := true, recurses := true, apart := false, narrowed := true }
def FnExactSortedOrderUptoSaid : Prop := fnExactSortedOrderUptoRow.holds Try.pinned (OpenSpec.upto fnExactSortedOrderSpec)

/-- 'laws.FnExactSweepOrder', WHERE WHAT IT READS IS OF BULK AT MOST 1048576: true; the input reads as it did. -/
def fnExactSweepOrderUptoRow : OpenClaim := { program := "ytfelfopcmkeimaa", sum := "cb3cb85c85442157f9be87f5442787694aa18399ce8df497189f6daf02e1da31", func := "loop.example/blockstack/laws.FnExactSweepOrder", spec := "fnExactSweepOrder", unfollowed := true, recurses := true, apart := false, narrowed := true }
def FnExactSweepOrderUptoSaid : Prop := fnExactSweepOrderUptoRow.holds Try.pinned (OpenSpec.upto fnExactSweepOrderSpec)

/-- 'laws.FnSortedOrder', WHERE WHAT IT READS IS OF BULK AT MOST 1048576: true; the input reads as it did. -/
def fnSortedOrderUptoRow : OpenClaim := { program := "ytfelfopcmkeimaa", sum := "cb3cb85c85442157f9be87f5442787694aa18399ce8df497189f6daf02e1da31", func := "loop.example/blockstack/laws.FnSortedOrder", spec := "fnSortedOrder", unfollowed := true, recurses := true, apart := false, narrowed := true }
def FnSortedOrderUptoSaid : Prop := fnSortedOrderUptoRow.holds Try.pinned (OpenSpec.upto fnSortedOrderSpec)

/-- 'laws.FnSweepBack', WHERE WHAT IT READS IS OF BULK AT MOST 1048576: true; the input reads as it did. -/
def fnSweepBackUptoRow : OpenClaim := { program := "ytfelfopcmkeimaa", sum := "cb3cb85c85442157f9be87f5442787694aa18399ce8df497189f6daf02e1da31", func := "loop.example/blockstack/laws.FnSweepBack", spec := "fnSweepBack", unfollowed := true, recurses := true, apart := false, narrowed := true }
def FnSweepBackUptoSaid : Prop := fnSweepBackUptoRow.holds Try.pinned (OpenSpec.upto fnSweepBackSpec)

end Rows
end Go.Proofs.Ytfelfopcmkeimaa
