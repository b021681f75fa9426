/-
  No cell of these rows narrows 'for every input' (looked for: loops, veiled, ifaces, maps, wideKeys, modest, calm, conditions, laid).
  DERIVED. THE GIVEN ROWS OF THIS SEAT. 9 by the template 'for every input the law returns true; each argument reads behind the call as it read before'; 0 by the template 'total and deterministic' (their statements: YtfmkjhkopocokaaTotals.lean).
  GIVEN WITH THE SEED: the statements are not yours to turn. If you find one false, say at which input.
  Laid BY PROGRAM, IN A SANDBOX (cutbox-rows.mjs): the forced cells as the released guide's own fill.sh prints them over the translation 1f478a2195944833… (all of the seat's roots in one cut). By AI agents, Wed Nov 11 2026. No macro, syntax, notation, axiom, sorry.
-/
import Derived.Test.YtfmkjhkopocokaaChecked
import GoSem.Claim
import GoSem.ClaimJoined
import GoSem.ClaimMapViews
import Derived.JoinedTies
import Derived.KernelRfl
namespace Go.Proofs.Ytfmkjhkopocokaa
/- THE CELL 'sum', in the pinned program and in every row, IS THE sha256 OF THE DUMP (.gsa) THAT YtfmkjhkopocokaaProg.lean LOADS. Nothing in Lean hashes anything: it is a label: what it is worth is what the hold of that sum in a sandbox is worth. -/
noncomputable def Try.pinned : Pinned := { name := "ytfmkjhkopocokaa", sum := "1f478a21959448331641e6188eb4dcb6b7c894ef8f62ff2119e0a326fc3f81a2", checked := Try.checked }
namespace Rows
def none {H : Type} : Left H := { results := [], args := [] }

/-- 'laws.FnExactCountOrders': WHATEVER THE INPUT: true; the input reads as it did. -/
def fnExactCountOrdersSpec : ChangeSpec := { name := "fnExactCountOrders", fn := fun _ => fun
  | [d] => { results := [.lit (.bool true)], args := [d] }
  | _ => none }
def fnExactCountOrdersRow : OpenClaim := { program := "ytfmkjhkopocokaa", sum := "1f478a21959448331641e6188eb4dcb6b7c894ef8f62ff2119e0a326fc3f81a2", func := "loop.example/blockstack/laws.FnExactCountOrders", spec := "fnExactCountOrders", apart := false }
def FnExactCountOrdersSaid : Prop := fnExactCountOrdersRow.holds Try.pinned (OpenSpec.ofChange fnExactCountOrdersSpec)

/-- ITS FALSE NEIGHBOUR: 'it returns false'. Refute it at one input. -/
def fnExactCountOrdersWrong : ChangeSpec := { name := "fnExactCountOrders", fn := fun _ => fun
  | [d] => { results := [.lit (.bool false)], args := [d] }
  | _ => none }
def FnExactCountOrdersWrongFalsely : Prop := fnExactCountOrdersRow.holds Try.pinned (OpenSpec.ofChange fnExactCountOrdersWrong)

/-- 'laws.FnCountOrders': WHATEVER THE INPUT: true; the input reads as it did. -/
def fnCountOrdersSpec : ChangeSpec := { name := "fnCountOrders", fn := fun _ => fun
  | [d] => { results := [.lit (.bool true)], args := [d] }
  | _ => none }
def fnCountOrdersRow : OpenClaim := { program := "ytfmkjhkopocokaa", sum := "1f478a21959448331641e6188eb4dcb6b7c894ef8f62ff2119e0a326fc3f81a2", func := "loop.example/blockstack/laws.FnCountOrders", spec := "fnCountOrders", apart := false }
def FnCountOrdersSaid : Prop := fnCountOrdersRow.holds Try.pinned (OpenSpec.ofChange fnCountOrdersSpec)

/-- ITS FALSE NEIGHBOUR: 'it returns false'. Refute it at one input. -/
def fnCountOrdersWrong : ChangeSpec := { name := "fnCountOrders", fn := fun _ => fun
  | [d] => { results := [.lit (.bool false)], args := [d] }
  | _ => none }
def FnCountOrdersWrongFalsely : Prop := fnCountOrdersRow.holds Try.pinned (OpenSpec.ofChange fnCountOrdersWrong)

/-- 'laws.FnBarrierGroups': WHATEVER THE INPUT: true; the input reads as it did. -/
def fnBarrierGroupsSpec : ChangeSpec := { name := "fnBarrierGroups", fn := fun _ => fun
  | [d] => { results := [.lit (.bool true)], args := [d] }
  | _ => none }
def fnBarrierGroupsRow : OpenClaim := { program := "ytfmkjhkopocokaa", sum := "1f478a21959448331641e6188eb4dcb6b7c894ef8f62ff2119e0a326fc3f81a2", func := "loop.example/blockstack/laws.FnBarrierGroups", spec := "fnBarrierGroups", apart := false }
def FnBarrierGroupsSaid : Prop := fnBarrierGroupsRow.holds Try.pinned (OpenSpec.ofChange fnBarrierGroupsSpec)

/-- ITS FALSE NEIGHBOUR: 'it returns false'. Refute it at one input. -/
def fnBarrierGroupsWrong : ChangeSpec := { name := "fnBarrierGroups", fn := fun _ => fun
  | [d] => { results := [.lit (.bool false)], args := [d] }
  | _ => none }
def FnBarrierGroupsWrongFalsely : Prop := fnBarrierGroupsRow.holds Try.pinned (OpenSpec.ofChange fnBarrierGroupsWrong)

/-- 'laws.FnExactBarrierGroups': WHATEVER THE INPUT: true; the input reads as it did. -/
def fnExactBarrierGroupsSpec : ChangeSpec := { name := "fnExactBarrierGroups", fn := fun _ => fun
  | [d] => { results := [.lit (.bool true)], args := [d] }
  | _ => none }
def fnExactBarrierGroupsRow : OpenClaim := { program := "ytfmkjhkopocokaa", sum := "1f478a21959448331641e6188eb4dcb6b7c894ef8f62ff2119e0a326fc3f81a2", func := "loop.example/blockstack/laws.FnExactBarrierGroups", spec := "fnExactBarrierGroups", apart := false }
def FnExactBarrierGroupsSaid : Prop := fnExactBarrierGroupsRow.holds Try.pinned (OpenSpec.ofChange fnExactBarrierGroupsSpec)

/-- ITS FALSE NEIGHBOUR: 'it returns false'. Refute it at one input. -/
def fnExactBarrierGroupsWrong : ChangeSpec := { name := "fnExactBarrierGroups", fn := fun _ => fun
  | [d] => { results := [.lit (.bool false)], args := [d] }
  | _ => none }
def FnExactBarrierGroupsWrongFalsely : Prop := fnExactBarrierGroupsRow.holds Try.pinned (OpenSpec.ofChange fnExactBarrierGroupsWrong)

/-- 'laws.FnExactBarrierSafe': WHATEVER THE INPUT: true; the input reads as it did. -/
def fnExactBarrierSafeSpec : ChangeSpec := { name := "fnExactBarrierSafe", fn := fun _ => fun
  | [d1, d2] => { results := [.lit (.bool true)], args := [d1, d2] }
  | _ => none }
def fnExactBarrierSafeRow : OpenClaim := { program := "ytfmkjhkopocokaa", sum := "1f478a21959448331641e6188eb4dcb6b7c894ef8f62ff2119e0a326fc3f81a2", func := "loop.example/blockstack/laws.FnExactBarrierSafe", spec := "fnExactBarrierSafe", apart := false }
def FnExactBarrierSafeSaid : Prop := fnExactBarrierSafeRow.holds Try.pinned (OpenSpec.ofChange fnExactBarrierSafeSpec)

/-- ITS FALSE NEIGHBOUR: 'it returns false'. Refute it at one input. -/
def fnExactBarrierSafeWrong : ChangeSpec := { name := "fnExactBarrierSafe", fn := fun _ => fun
  | [d1, d2] => { results := [.lit (.bool false)], args := [d1, d2] }
  | _ => none }
def FnExactBarrierSafeWrongFalsely : Prop := fnExactBarrierSafeRow.holds Try.pinned (OpenSpec.ofChange fnExactBarrierSafeWrong)

/-- 'laws.FnBarrierPlain': WHATEVER THE INPUT: true; the input reads as it did. -/
def fnBarrierPlainSpec : ChangeSpec := { name := "fnBarrierPlain", fn := fun _ => fun
  | [d] => { results := [.lit (.bool true)], args := [d] }
  | _ => none }
def fnBarrierPlainRow : OpenClaim := { program := "ytfmkjhkopocokaa", sum := "1f478a21959448331641e6188eb4dcb6b7c894ef8f62ff2119e0a326fc3f81a2", func := "loop.example/blockstack/laws.FnBarrierPlain", spec := "fnBarrierPlain", apart := false }
def FnBarrierPlainSaid : Prop := fnBarrierPlainRow.holds Try.pinned (OpenSpec.ofChange fnBarrierPlainSpec)

/-- ITS FALSE NEIGHBOUR: 'it returns false'. Refute it at one input. -/
def fnBarrierPlainWrong : ChangeSpec := { name := "fnBarrierPlain", fn := fun _ => fun
  | [d] => { results := [.lit (.bool false)], args := [d] }
  | _ => none }
def FnBarrierPlainWrongFalsely : Prop := fnBarrierPlainRow.holds Try.pinned (OpenSpec.ofChange fnBarrierPlainWrong)

/-- 'laws.FnBarrierSafe': WHATEVER THE INPUT: true; the input reads as it did. -/
def fnBarrierSafeSpec : ChangeSpec := { name := "fnBarrierSafe", fn := fun _ => fun
  | [d] => { results := [.lit (.bool true)], args := [d] }
  | _ => none }
def fnBarrierSafeRow : OpenClaim := { program := "ytfmkjhkopocokaa", sum := "1f478a21959448331641e6188eb4dcb6b7c894ef8f62ff2119e0a326fc3f81a2", func := "loop.example/blockstack/laws.FnBarrierSafe", spec := "fnBarrierSafe", apart := false }
def FnBarrierSafeSaid : Prop := fnBarrierSafeRow.holds Try.pinned (OpenSpec.ofChange fnBarrierSafeSpec)

/-- ITS FALSE NEIGHBOUR: 'it returns false'. Refute it at one input. -/
def fnBarrierSafeWrong : ChangeSpec := { name := "fnBarrierSafe", fn := fun _ => fun
  | [d] => { results := [.lit (.bool false)], args := [d] }
  | _ => none }
def FnBarrierSafeWrongFalsely : Prop := fnBarrierSafeRow.holds Try.pinned (OpenSpec.ofChange fnBarrierSafeWrong)

/-- 'laws.FnExactDurableItems': WHATEVER THE INPUT: true; the input reads as it did. -/
def fnExactDurableItemsSpec : ChangeSpec := { name := "fnExactDurableItems", fn := fun _ => fun
  | [d1, d2, d3] => { results := [.lit (.bool true)], args := [d1, d2, d3] }
  | _ => none }
def fnExactDurableItemsRow : OpenClaim := { program := "ytfmkjhkopocokaa", sum := "1f478a21959448331641e6188eb4dcb6b7c894ef8f62ff2119e0a326fc3f81a2", func := "loop.example/blockstack/laws.FnExactDurableItems", spec := "fnExactDurableItems", apart := false }
def FnExactDurableItemsSaid : Prop := fnExactDurableItemsRow.holds Try.pinned (OpenSpec.ofChange fnExactDurableItemsSpec)

/-- ITS FALSE NEIGHBOUR: 'it returns false'. Refute it at one input. -/
def fnExactDurableItemsWrong : ChangeSpec := { name := "fnExactDurableItems", fn := fun _ => fun
  | [d1, d2, d3] => { results := [.lit (.bool false)], args := [d1, d2, d3] }
  | _ => none }
def FnExactDurableItemsWrongFalsely : Prop := fnExactDurableItemsRow.holds Try.pinned (OpenSpec.ofChange fnExactDurableItemsWrong)

/-- 'laws.FnDurableItems': WHATEVER THE INPUT: true; the input reads as it did. -/
def fnDurableItemsSpec : ChangeSpec := { name := "fnDurableItems", fn := fun _ => fun
  | [d] => { results := [.lit (.bool true)], args := [d] }
  | _ => none }
def fnDurableItemsRow : OpenClaim := { program := "ytfmkjhkopocokaa", sum := "1f478a21959448331641e6188eb4dcb6b7c894ef8f62ff2119e0a326fc3f81a2", func := "loop.example/blockstack/laws.FnDurableItems", spec := "fnDurableItems", apart := false }
def FnDurableItemsSaid : Prop := fnDurableItemsRow.holds Try.pinned (OpenSpec.ofChange fnDurableItemsSpec)

/-- ITS FALSE NEIGHBOUR: 'it returns false'. Refute it at one input. -/
def fnDurableItemsWrong : ChangeSpec := { name := "fnDurableItems", fn := fun _ => fun
  | [d] => { results := [.lit (.bool false)], args := [d] }
  | _ => none }
def FnDurableItemsWrongFalsely : Prop := fnDurableItemsRow.holds Try.pinned (OpenSpec.ofChange fnDurableItemsWrong)

/- THE SECOND FORM. 'bulk': how many values and letters a reading holds, each counted each time it is reached (what is shared counts as often as it is met; a slice's spare places count too). A statement '..UptoSaid' is the law's where the arguments, and the package variables that the reading takes, are together of bulk at most 1048576: NARROWER than '..Said'. Prove '..Said' where nothing that the law and all that it calls make is longer than what came in: it says more and counts as full. Else prove '..UptoSaid'. A law counts once. -/
mutual
def uptoBulk {H : Type} : DataW H → Nat
  | .lit (.string bytes) => bytes.length + 1
  | .lit _ => 1
  | .nil => 1
  | .ptr d => uptoBulk d + 1
  | .slice elems spare => uptoBulkAll elems + uptoBulkAll spare + 1
  | .agg parts => uptoBulkAll parts + 1
  | .iface _ d => uptoBulk d + 1
  | .map entries => uptoBulkEntries entries + 1
  | .held _ => 1
def uptoBulkAll {H : Type} : List (DataW H) → Nat
  | [] => 0
  | d :: r => uptoBulk d + uptoBulkAll r
def uptoBulkEntries {H : Type} : List (Lit × DataW H) → Nat
  | [] => 0
  | x :: r => uptoBulkEntry x + uptoBulkEntries r
def uptoBulkEntry {H : Type} : Lit × DataW H → Nat
  | (.string bytes, d) => bytes.length + uptoBulk d + 1
  | (_, d) => uptoBulk d + 1
 end
def uptoSmall : (H : Type) → List (DataW H) → Bool := fun _ ds => decide (uptoBulkAll ds ≤ 1048576)
def OpenSpec.upto (s : _root_.Go.ChangeSpec) : _root_.Go.OpenSpec := { _root_.Go.OpenSpec.ofChange s with cond := some uptoSmall }

/-- 'laws.FnExactCountOrders', WHERE WHAT IT READS IS OF BULK AT MOST 1048576: true; the input reads as it did. -/
def fnExactCountOrdersUptoRow : OpenClaim := { program := "ytfmkjhkopocokaa", sum := "1f478a21959448331641e6188eb4dcb6b7c894ef8f62ff2119e0a326fc3f81a2", func := "loop.example/blockstack/laws.FnExactCountOrders", spec := "fnExactCountOrders", apart := false, narrowed := true }
def FnExactCountOrdersUptoSaid : Prop := fnExactCountOrdersUptoRow.holds Try.pinned (OpenSpec.upto fnExactCountOrdersSpec)

/-- 'laws.FnCountOrders', WHERE WHAT IT READS IS OF BULK AT MOST 1048576: true; the input reads as it did. -/
def fnCountOrdersUptoRow : OpenClaim := { program := "ytfmkjhkopocokaa", sum := "1f478a21959448331641e6188eb4dcb6b7c894ef8f62ff2119e0a326fc3f81a2", func := "loop.example/blockstack/laws.FnCountOrders", spec := "fnCountOrders", apart := false, narrowed := true }
def FnCountOrdersUptoSaid : Prop := fnCountOrdersUptoRow.holds Try.pinned (OpenSpec.upto fnCountOrdersSpec)

/-- 'laws.FnBarrierGroups', WHERE WHAT IT READS IS OF BULK AT MOST 1048576: true; the input reads as it did. -/
def fnBarrierGroupsUptoRow : OpenClaim := { program := "ytfmkjhkopocokaa", sum := "1f478a21959448331641e6188eb4dcb6b7c894ef8f62ff2119e0a326fc3f81a2", func := "loop.example/blockstack/laws.FnBarrierGroups", spec := "fnBarrierGroups", apart := false, narrowed := true }
def FnBarrierGroupsUptoSaid : Prop := fnBarrierGroupsUptoRow.holds Try.pinned (OpenSpec.upto fnBarrierGroupsSpec)

/-- 'laws.FnExactBarrierGroups', WHERE WHAT IT READS IS OF BULK AT MOST 1048576: true; the input reads as it did. -/
def fnExactBarrierGroupsUptoRow : OpenClaim := { program := "ytfmkjhkopocokaa", sum := "1f478a21959448331641e6188eb4dcb6b7c894ef8f62ff2119e0a326fc3f81a2", func := "loop.example/blockstack/laws.FnExactBarrierGroups", spec := "fnExactBarrierGroups", apart := false, narrowed := true }
def FnExactBarrierGroupsUptoSaid : Prop := fnExactBarrierGroupsUptoRow.holds Try.pinned (OpenSpec.upto fnExactBarrierGroupsSpec)

/-- 'laws.FnExactBarrierSafe', WHERE WHAT IT READS IS OF BULK AT MOST 1048576: true; the input reads as it did. -/
def fnExactBarrierSafeUptoRow : OpenClaim := { program := "ytfmkjhkopocokaa", sum := "1f478a21959448331641e6188eb4dcb6b7c894ef8f62ff2119e0a326fc3f81a2", func := "loop.example/blockstack/laws.FnExactBarrierSafe", spec := "fnExactBarrierSafe", apart := false, narrowed := true }
def FnExactBarrierSafeUptoSaid : Prop := fnExactBarrierSafeUptoRow.holds Try.pinned (OpenSpec.upto fnExactBarrierSafeSpec)

/-- 'laws.FnBarrierPlain', WHERE WHAT IT READS IS OF BULK AT MOST 1048576: true; the input reads as it did. -/
def fnBarrierPlainUptoRow : OpenClaim := { program := "ytfmkjhkopocokaa", sum := "1f478a21959448331641e6188eb4dcb6b7c894ef8f62ff2119e0a326fc3f81a2", func := "loop.example/blockstack/laws.FnBarrierPlain", spec := "fnBarrierPlain", apart := false, narrowed := true }
def FnBarrierPlainUptoSaid : Prop := fnBarrierPlainUptoRow.holds Try.pinned (OpenSpec.upto fnBarrierPlainSpec)

/-- 'laws.FnBarrierSafe', WHERE WHAT IT READS IS OF BULK AT MOST 1048576: true; the input reads as it did. -/
def fnBarrierSafeUptoRow : OpenClaim := { program := "ytfmkjhkopocokaa", sum := "1f478a21959448331641e6188eb4dcb6b7c894ef8f62ff2119e0a326fc3f81a2", func := "loop.example/blockstack/laws.FnBarrierSafe", spec := "fnBarrierSafe", apart := false, narrowed := true }
def FnBarrierSafeUptoSaid : Prop := fnBarrierSafeUptoRow.holds Try.pinned (OpenSpec.upto fnBarrierSafeSpec)

/-- 'laws.FnExactDurableItems', WHERE WHAT IT READS IS OF BULK AT MOST 1048576: true; the input reads as it did. -/
def fnExactDurableItemsUptoRow : OpenClaim := { program := "ytfmkjhkopocokaa", sum := "1f478a21959448331641e6188eb4dcb6b7c894ef8f62ff2119e0a326fc3f81a2", func := "loop.example/blockstack/laws.FnExactDurableItems", spec := "fnExactDurableItems", apart := false, narrowed := true }
def FnExactDurableItemsUptoSaid : Prop := fnExactDurableItemsUptoRow.holds Try.pinned (OpenSpec.upto fnExactDurableItemsSpec)

/-- 'laws.FnDurableItems', WHERE WHAT IT READS IS OF BULK AT MOST 1048576: true; the input reads as it did. -/
def fnDurableItemsUptoRow : OpenClaim := { program := "ytfmkjhkopocokaa", sum := "1f478a21959448331641e6188eb4dcb6b7c894ef8f62ff2119e0a326fc3f81a2", func := "loop.example/blockstack/laws.FnDurableItems", spec := "fnDurableItems", apart := false, narrowed := true }
def FnDurableItemsUptoSaid : Prop := fnDurableItemsUptoRow.holds Try.pinned (OpenSpec.upto fnDurableItemsSpec)

end Rows
end Go.Proofs.Ytfmkjhkopocokaa
