/-
  No cell of these rows narrows 'for every input' (looked for: loops, veiled, ifaces, maps, wideKeys, modest, calm, conditions, laid).
  DERIVED. THE GIVEN ROWS OF THIS SEAT. 11 by the template 'for every input the law returns true; each argument reads behind the call as it read before'; 0 by the template 'total and deterministic' (their statements: YtfinefjihphnhaaTotals.lean).
  GIVEN WITH THE SEED: the statements are not yours to turn. If you find one false, say at which input.
  Laid BY PROGRAM, IN A SANDBOX (cutbox-rows.mjs): the forced cells as the released guide's own fill.sh prints them over the translation 9ae752c0b18509e0… (all of the seat's roots in one cut). By AI agents, Wed Nov 11 2026. No macro, syntax, notation, axiom, sorry.
-/
import Derived.Test.YtfinefjihphnhaaChecked
import GoSem.Claim
import GoSem.ClaimJoined
import GoSem.ClaimMapViews
import Derived.JoinedTies
import Derived.KernelRfl
namespace Go.Proofs.Ytfinefjihphnhaa
/- THE CELL 'sum', in the pinned program and in every row, IS THE sha256 OF THE DUMP (.gsa) THAT YtfinefjihphnhaaProg.lean LOADS. Nothing in Lean hashes anything: it is a label: what it is worth is what the hold of that sum in a sandbox is worth. -/
noncomputable def Try.pinned : Pinned := { name := "ytfinefjihphnhaa", sum := "9ae752c0b18509e009b2dcb9954d08f6e6ab9562e9cfe219f0add688b02ad4d1", checked := Try.checked }
namespace Rows
def none {H : Type} : Left H := { results := [], args := [] }

/-- 'laws.FnExactFlightsValid': WHATEVER THE INPUT: true; the input reads as it did. -/
def fnExactFlightsValidSpec : ChangeSpec := { name := "fnExactFlightsValid", fn := fun _ => fun
  | [d] => { results := [.lit (.bool true)], args := [d] }
  | _ => none }
def fnExactFlightsValidRow : OpenClaim := { program := "ytfinefjihphnhaa", sum := "9ae752c0b18509e009b2dcb9954d08f6e6ab9562e9cfe219f0add688b02ad4d1", func := "loop.example/blockstack/laws.FnExactFlightsValid", spec := "fnExactFlightsValid", unfollowed := true, recurses := true, apart := false }
def FnExactFlightsValidSaid : Prop := fnExactFlightsValidRow.holds Try.pinned (OpenSpec.ofChange fnExactFlightsValidSpec)

/-- ITS FALSE NEIGHBOUR: 'it returns false'. Refute it at one input. -/
def fnExactFlightsValidWrong : ChangeSpec := { name := "fnExactFlightsValid", fn := fun _ => fun
  | [d] => { results := [.lit (.bool false)], args := [d] }
  | _ => none }
def FnExactFlightsValidWrongFalsely : Prop := fnExactFlightsValidRow.holds Try.pinned (OpenSpec.ofChange fnExactFlightsValidWrong)

/-- 'laws.FnExactNextLate': WHATEVER THE INPUT: true; the input reads as it did. -/
def fnExactNextLateSpec : ChangeSpec := { name := "fnExactNextLate", fn := fun _ => fun
  | [d1, d2] => { results := [.lit (.bool true)], args := [d1, d2] }
  | _ => none }
def fnExactNextLateRow : OpenClaim := { program := "ytfinefjihphnhaa", sum := "9ae752c0b18509e009b2dcb9954d08f6e6ab9562e9cfe219f0add688b02ad4d1", func := "loop.example/blockstack/laws.FnExactNextLate", spec := "fnExactNextLate", unfollowed := true, recurses := true, apart := false }
def FnExactNextLateSaid : Prop := fnExactNextLateRow.holds Try.pinned (OpenSpec.ofChange fnExactNextLateSpec)

/-- ITS FALSE NEIGHBOUR: 'it returns false'. Refute it at one input. -/
def fnExactNextLateWrong : ChangeSpec := { name := "fnExactNextLate", fn := fun _ => fun
  | [d1, d2] => { results := [.lit (.bool false)], args := [d1, d2] }
  | _ => none }
def FnExactNextLateWrongFalsely : Prop := fnExactNextLateRow.holds Try.pinned (OpenSpec.ofChange fnExactNextLateWrong)

/-- 'laws.FnFlightsValid': WHATEVER THE INPUT: true; the input reads as it did. -/
def fnFlightsValidSpec : ChangeSpec := { name := "fnFlightsValid", fn := fun _ => fun
  | [d] => { results := [.lit (.bool true)], args := [d] }
  | _ => none }
def fnFlightsValidRow : OpenClaim := { program := "ytfinefjihphnhaa", sum := "9ae752c0b18509e009b2dcb9954d08f6e6ab9562e9cfe219f0add688b02ad4d1", func := "loop.example/blockstack/laws.FnFlightsValid", spec := "fnFlightsValid", unfollowed := true, recurses := true, apart := false }
def FnFlightsValidSaid : Prop := fnFlightsValidRow.holds Try.pinned (OpenSpec.ofChange fnFlightsValidSpec)

/-- ITS FALSE NEIGHBOUR: 'it returns false'. Refute it at one input. -/
def fnFlightsValidWrong : ChangeSpec := { name := "fnFlightsValid", fn := fun _ => fun
  | [d] => { results := [.lit (.bool false)], args := [d] }
  | _ => none }
def FnFlightsValidWrongFalsely : Prop := fnFlightsValidRow.holds Try.pinned (OpenSpec.ofChange fnFlightsValidWrong)

/-- 'laws.FnExactLateFlights': WHATEVER THE INPUT: true; the input reads as it did. -/
def fnExactLateFlightsSpec : ChangeSpec := { name := "fnExactLateFlights", fn := fun _ => fun
  | [d1, d2, d3] => { results := [.lit (.bool true)], args := [d1, d2, d3] }
  | _ => none }
def fnExactLateFlightsRow : OpenClaim := { program := "ytfinefjihphnhaa", sum := "9ae752c0b18509e009b2dcb9954d08f6e6ab9562e9cfe219f0add688b02ad4d1", func := "loop.example/blockstack/laws.FnExactLateFlights", spec := "fnExactLateFlights", unfollowed := true, recurses := true, apart := false }
def FnExactLateFlightsSaid : Prop := fnExactLateFlightsRow.holds Try.pinned (OpenSpec.ofChange fnExactLateFlightsSpec)

/-- ITS FALSE NEIGHBOUR: 'it returns false'. Refute it at one input. -/
def fnExactLateFlightsWrong : ChangeSpec := { name := "fnExactLateFlights", fn := fun _ => fun
  | [d1, d2, d3] => { results := [.lit (.bool false)], args := [d1, d2, d3] }
  | _ => none }
def FnExactLateFlightsWrongFalsely : Prop := fnExactLateFlightsRow.holds Try.pinned (OpenSpec.ofChange fnExactLateFlightsWrong)

/-- 'laws.FnNextLate': WHATEVER THE INPUT: true; the input reads as it did. -/
def fnNextLateSpec : ChangeSpec := { name := "fnNextLate", fn := fun _ => fun
  | [d] => { results := [.lit (.bool true)], args := [d] }
  | _ => none }
def fnNextLateRow : OpenClaim := { program := "ytfinefjihphnhaa", sum := "9ae752c0b18509e009b2dcb9954d08f6e6ab9562e9cfe219f0add688b02ad4d1", func := "loop.example/blockstack/laws.FnNextLate", spec := "fnNextLate", unfollowed := true, recurses := true, apart := false }
def FnNextLateSaid : Prop := fnNextLateRow.holds Try.pinned (OpenSpec.ofChange fnNextLateSpec)

/-- ITS FALSE NEIGHBOUR: 'it returns false'. Refute it at one input. -/
def fnNextLateWrong : ChangeSpec := { name := "fnNextLate", fn := fun _ => fun
  | [d] => { results := [.lit (.bool false)], args := [d] }
  | _ => none }
def FnNextLateWrongFalsely : Prop := fnNextLateRow.holds Try.pinned (OpenSpec.ofChange fnNextLateWrong)

/-- 'laws.FnLateFlights': WHATEVER THE INPUT: true; the input reads as it did. -/
def fnLateFlightsSpec : ChangeSpec := { name := "fnLateFlights", fn := fun _ => fun
  | [d] => { results := [.lit (.bool true)], args := [d] }
  | _ => none }
def fnLateFlightsRow : OpenClaim := { program := "ytfinefjihphnhaa", sum := "9ae752c0b18509e009b2dcb9954d08f6e6ab9562e9cfe219f0add688b02ad4d1", func := "loop.example/blockstack/laws.FnLateFlights", spec := "fnLateFlights", unfollowed := true, recurses := true, apart := false }
def FnLateFlightsSaid : Prop := fnLateFlightsRow.holds Try.pinned (OpenSpec.ofChange fnLateFlightsSpec)

/-- ITS FALSE NEIGHBOUR: 'it returns false'. Refute it at one input. -/
def fnLateFlightsWrong : ChangeSpec := { name := "fnLateFlights", fn := fun _ => fun
  | [d] => { results := [.lit (.bool false)], args := [d] }
  | _ => none }
def FnLateFlightsWrongFalsely : Prop := fnLateFlightsRow.holds Try.pinned (OpenSpec.ofChange fnLateFlightsWrong)

/-- 'laws.FnExactLandFlight': WHATEVER THE INPUT: true; the input reads as it did. -/
def fnExactLandFlightSpec : ChangeSpec := { name := "fnExactLandFlight", fn := fun _ => fun
  | [d1, d2] => { results := [.lit (.bool true)], args := [d1, d2] }
  | _ => none }
def fnExactLandFlightRow : OpenClaim := { program := "ytfinefjihphnhaa", sum := "9ae752c0b18509e009b2dcb9954d08f6e6ab9562e9cfe219f0add688b02ad4d1", func := "loop.example/blockstack/laws.FnExactLandFlight", spec := "fnExactLandFlight", unfollowed := true, recurses := true, apart := false }
def FnExactLandFlightSaid : Prop := fnExactLandFlightRow.holds Try.pinned (OpenSpec.ofChange fnExactLandFlightSpec)

/-- ITS FALSE NEIGHBOUR: 'it returns false'. Refute it at one input. -/
def fnExactLandFlightWrong : ChangeSpec := { name := "fnExactLandFlight", fn := fun _ => fun
  | [d1, d2] => { results := [.lit (.bool false)], args := [d1, d2] }
  | _ => none }
def FnExactLandFlightWrongFalsely : Prop := fnExactLandFlightRow.holds Try.pinned (OpenSpec.ofChange fnExactLandFlightWrong)

/-- 'laws.FnLandFlight': WHATEVER THE INPUT: true; the input reads as it did. -/
def fnLandFlightSpec : ChangeSpec := { name := "fnLandFlight", fn := fun _ => fun
  | [d] => { results := [.lit (.bool true)], args := [d] }
  | _ => none }
def fnLandFlightRow : OpenClaim := { program := "ytfinefjihphnhaa", sum := "9ae752c0b18509e009b2dcb9954d08f6e6ab9562e9cfe219f0add688b02ad4d1", func := "loop.example/blockstack/laws.FnLandFlight", spec := "fnLandFlight", unfollowed := true, recurses := true, apart := false }
def FnLandFlightSaid : Prop := fnLandFlightRow.holds Try.pinned (OpenSpec.ofChange fnLandFlightSpec)

/-- ITS FALSE NEIGHBOUR: 'it returns false'. Refute it at one input. -/
def fnLandFlightWrong : ChangeSpec := { name := "fnLandFlight", fn := fun _ => fun
  | [d] => { results := [.lit (.bool false)], args := [d] }
  | _ => none }
def FnLandFlightWrongFalsely : Prop := fnLandFlightRow.holds Try.pinned (OpenSpec.ofChange fnLandFlightWrong)

/-- 'laws.FnExactRetryFlights': WHATEVER THE INPUT: true; the input reads as it did. -/
def fnExactRetryFlightsSpec : ChangeSpec := { name := "fnExactRetryFlights", fn := fun _ => fun
  | [d1, d2, d3] => { results := [.lit (.bool true)], args := [d1, d2, d3] }
  | _ => none }
def fnExactRetryFlightsRow : OpenClaim := { program := "ytfinefjihphnhaa", sum := "9ae752c0b18509e009b2dcb9954d08f6e6ab9562e9cfe219f0add688b02ad4d1", func := "loop.example/blockstack/laws.FnExactRetryFlights", spec := "fnExactRetryFlights", unfollowed := true, recurses := true, apart := false }
def FnExactRetryFlightsSaid : Prop := fnExactRetryFlightsRow.holds Try.pinned (OpenSpec.ofChange fnExactRetryFlightsSpec)

/-- ITS FALSE NEIGHBOUR: 'it returns false'. Refute it at one input. -/
def fnExactRetryFlightsWrong : ChangeSpec := { name := "fnExactRetryFlights", fn := fun _ => fun
  | [d1, d2, d3] => { results := [.lit (.bool false)], args := [d1, d2, d3] }
  | _ => none }
def FnExactRetryFlightsWrongFalsely : Prop := fnExactRetryFlightsRow.holds Try.pinned (OpenSpec.ofChange fnExactRetryFlightsWrong)

/-- 'laws.FnRetryEnds': WHATEVER THE INPUT: true; the input reads as it did. -/
def fnRetryEndsSpec : ChangeSpec := { name := "fnRetryEnds", fn := fun _ => fun
  | [d] => { results := [.lit (.bool true)], args := [d] }
  | _ => none }
def fnRetryEndsRow : OpenClaim := { program := "ytfinefjihphnhaa", sum := "9ae752c0b18509e009b2dcb9954d08f6e6ab9562e9cfe219f0add688b02ad4d1", func := "loop.example/blockstack/laws.FnRetryEnds", spec := "fnRetryEnds", unfollowed := true, recurses := true, apart := false }
def FnRetryEndsSaid : Prop := fnRetryEndsRow.holds Try.pinned (OpenSpec.ofChange fnRetryEndsSpec)

/-- ITS FALSE NEIGHBOUR: 'it returns false'. Refute it at one input. -/
def fnRetryEndsWrong : ChangeSpec := { name := "fnRetryEnds", fn := fun _ => fun
  | [d] => { results := [.lit (.bool false)], args := [d] }
  | _ => none }
def FnRetryEndsWrongFalsely : Prop := fnRetryEndsRow.holds Try.pinned (OpenSpec.ofChange fnRetryEndsWrong)

/-- 'laws.FnRetryFlights': WHATEVER THE INPUT: true; the input reads as it did. -/
def fnRetryFlightsSpec : ChangeSpec := { name := "fnRetryFlights", fn := fun _ => fun
  | [d] => { results := [.lit (.bool true)], args := [d] }
  | _ => none }
def fnRetryFlightsRow : OpenClaim := { program := "ytfinefjihphnhaa", sum := "9ae752c0b18509e009b2dcb9954d08f6e6ab9562e9cfe219f0add688b02ad4d1", func := "loop.example/blockstack/laws.FnRetryFlights", spec := "fnRetryFlights", unfollowed := true, recurses := true, apart := false }
def FnRetryFlightsSaid : Prop := fnRetryFlightsRow.holds Try.pinned (OpenSpec.ofChange fnRetryFlightsSpec)

/-- ITS FALSE NEIGHBOUR: 'it returns false'. Refute it at one input. -/
def fnRetryFlightsWrong : ChangeSpec := { name := "fnRetryFlights", fn := fun _ => fun
  | [d] => { results := [.lit (.bool false)], args := [d] }
  | _ => none }
def FnRetryFlightsWrongFalsely : Prop := fnRetryFlightsRow.holds Try.pinned (OpenSpec.ofChange fnRetryFlightsWrong)

/- THE SECOND FORM. 'bulk': how many values and letters a reading holds, each counted each time it is reached (what is shared counts as often as it is met; a slice's spare places count too). A statement '..UptoSaid' is the law's where the arguments, and the package variables that the reading takes, are together of bulk at most 1048576: NARROWER than '..Said'. Prove '..Said' where nothing that the law and all that it calls make is longer than what came in: it says more and counts as full. Else prove '..UptoSaid'. A law counts once. -/
mutual
def uptoBulk {H : Type} : DataW H → Nat
  | .lit (.string bytes) => bytes.length + 1
  | .lit _ => 1
  | .nil => 1
  | .ptr d => uptoBulk d + 1
  | .slice elems spare => uptoBulkAll elems + uptoBulkAll spare + 1
  | .agg parts => uptoBulkAll parts + 1
  | .iface _ d => uptoBulk d + 1
  | .map entries => uptoBulkEntries entries + 1
  | .held _ => 1
def uptoBulkAll {H : Type} : List (DataW H) → Nat
  | [] => 0
  | d :: r => uptoBulk d + uptoBulkAll r
def uptoBulkEntries {H : Type} : List (Lit × DataW H) → Nat
  | [] => 0
  | x :: r => uptoBulkEntry x + uptoBulkEntries r
def uptoBulkEntry {H : Type} : Lit × DataW H → Nat
  | (.string bytes, d) => bytes.length + uptoBulk d + 1
  | (_, d) => uptoBulk d + 1
 end
def uptoSmall : (H : Type) → List (DataW H) → Bool := fun _ ds => decide (uptoBulkAll ds ≤ 1048576)
def OpenSpec.upto (s : _root_.Go.ChangeSpec) : _root_.Go.OpenSpec := { _root_.Go.OpenSpec.ofChange s with cond := some uptoSmall }

/-- 'laws.FnExactFlightsValid', WHERE WHAT IT READS IS OF BULK AT MOST 1048576: true; the input reads as it did. -/
def fnExactFlightsValidUptoRow : OpenClaim := { program := "ytfinefjihphnhaa", sum := "9ae752c0b18509e009b2dcb9954d08f6e6ab9562e9cfe219f0add688b02ad4d1", func := "loop.example/blockstack/laws.FnExactFlightsValid", spec := "fnExactFlightsValid", unfollowed := true, recurses := true, apart := false, narrowed := true }
def FnExactFlightsValidUptoSaid : Prop := fnExactFlightsValidUptoRow.holds Try.pinned (OpenSpec.upto fnExactFlightsValidSpec)

/-- 'laws.FnExactNextLate', WHERE WHAT IT READS IS OF BULK AT MOST 1048576: true; the input reads as it did. -/
def fnExactNextLateUptoRow : OpenClaim := { program := "ytfinefjihphnhaa", sum := "9ae752c0b18509e009b2dcb9954d08f6e6ab9562e9cfe219f0add688b02ad4d1", func := "loop.example/blockstack/laws.FnExactNextLate", spec := "fnExactNextLate", unfollowed := true, recurses := true, apart := false, narrowed := true }
def FnExactNextLateUptoSaid : Prop := fnExactNextLateUptoRow.holds Try.pinned (OpenSpec.upto fnExactNextLateSpec)

/-- 'laws.FnFlightsValid', WHERE WHAT IT READS IS OF BULK AT MOST 1048576: true; the input reads as it did. -/
def fnFlightsValidUptoRow : OpenClaim := { program := "ytfinefjihphnhaa", sum := "9ae752c0b18509e009b2dcb9954d08f6e6ab9562e9cfe219f0add688b02ad4d1", func := "loop.example/blockstack/laws.FnFlightsValid", spec := "fnFlightsValid", unfollowed := true, recurses := true, apart := false, narrowed := true }
def FnFlightsValidUptoSaid : Prop := fnFlightsValidUptoRow.holds Try.pinned (OpenSpec.upto fnFlightsValidSpec)

/-- 'laws.FnExactLateFlights', WHERE WHAT IT READS IS OF BULK AT MOST 1048576: true; the input reads as it did. -/
def fnExactLateFlightsUptoRow : OpenClaim := { program := "ytfinefjihphnhaa", sum := "9ae752c0b18509e009b2dcb9954d08f6e6ab9562e9cfe219f0add688b02ad4d1", func := "loop.example/blockstack/laws.FnExactLateFlights", spec := "fnExactLateFlights", unfollowed := true, recurses := true, apart := false, narrowed := true }
def FnExactLateFlightsUptoSaid : Prop := fnExactLateFlightsUptoRow.holds Try.pinned (OpenSpec.upto fnExactLateFlightsSpec)

/-- 'laws.FnNextLate', WHERE WHAT IT READS IS OF BULK AT MOST 1048576: true; the input reads as it did. -/
def fnNextLateUptoRow : OpenClaim := { program := "ytfinefjihphnhaa", sum := "9ae752c0b18509e009b2dcb9954d08f6e6ab9562e9cfe219f0add688b02ad4d1", func := "loop.example/blockstack/laws.FnNextLate", spec := "fnNextLate", unfollowed := true, recurses := true, apart := false, narrowed := true }
def FnNextLateUptoSaid : Prop := fnNextLateUptoRow.holds Try.pinned (OpenSpec.upto fnNextLateSpec)

/-- 'laws.FnLateFlights', WHERE WHAT IT READS IS OF BULK AT MOST 1048576: true; the input reads as it did. -/
def fnLateFlightsUptoRow : OpenClaim := { program := "ytfinefjihphnhaa", sum := "9ae752c0b18509e009b2dcb9954d08f6e6ab9562e9cfe219f0add688b02ad4d1", func := "loop.example/blockstack/laws.FnLateFlights", spec := "fnLateFlights", unfollowed := true, recurses := true, apart := false, narrowed := true }
def FnLateFlightsUptoSaid : Prop := fnLateFlightsUptoRow.holds Try.pinned (OpenSpec.upto fnLateFlightsSpec)

/-- 'laws.FnExactLandFlight', WHERE WHAT IT READS IS OF BULK AT MOST 1048576: true; the input reads as it did. -/
def fnExactLandFlightUptoRow : OpenClaim := { program := "ytfinefjihphnhaa", sum := "9ae752c0b18509e009b2dcb9954d08f6e6ab9562e9cfe219f0add688b02ad4d1", func := "loop.example/blockstack/laws.FnExactLandFlight", spec := "fnExactLandFlight", unfollowed := true, recurses := true, apart := false, narrowed := true }
def FnExactLandFlightUptoSaid : Prop := fnExactLandFlightUptoRow.holds Try.pinned (OpenSpec.upto fnExactLandFlightSpec)

/-- 'laws.FnLandFlight', WHERE WHAT IT READS IS OF BULK AT MOST 1048576: true; the input reads as it did. -/
def fnLandFlightUptoRow : OpenClaim := { program := "ytfinefjihphnhaa", sum := "9ae752c0b18509e009b2dcb9954d08f6e6ab9562e9cfe219f0add688b02ad4d1", func := "loop.example/blockstack/laws.FnLandFlight", spec := "fnLandFlight", unfollowed := true, recurses := true, apart := false, narrowed := true }
def FnLandFlightUptoSaid : Prop := fnLandFlightUptoRow.holds Try.pinned (OpenSpec.upto fnLandFlightSpec)

/-- 'laws.FnExactRetryFlights', WHERE WHAT IT READS IS OF BULK AT MOST 1048576: true; the input reads as it did. -/
def fnExactRetryFlightsUptoRow : OpenClaim := { program := "ytfinefjihphnhaa", sum := "9ae752c0b18509e009b2dcb9954d08f6e6ab9562e9cfe219f0add688b02ad4d1", func := "loop.example/blockstack/laws.FnExactRetryFlights", spec := "fnExactRetryFlights", unfollowed := true, recurses := true, apart := false, narrowed := true }
def FnExactRetryFlightsUptoSaid : Prop := fnExactRetryFlightsUptoRow.holds Try.pinned (OpenSpec.upto fnExactRetryFlightsSpec)

/-- 'laws.FnRetryEnds', WHERE WHAT IT READS IS OF BULK AT MOST 1048576: true; the input reads as it did. -/
def fnRetryEndsUptoRow : OpenClaim := { program := "ytfinefjihphnhaa", sum := "9ae752c0b18509e009b2dcb9954d08f6e6ab9562e9cfe219f0add688b02ad4d1", func := "loop.example/blockstack/laws.FnRetryEnds", spec := "fnRetryEnds", unfollowed := true, recurses := true, apart := false, narrowed := true }
def FnRetryEndsUptoSaid : Prop := fnRetryEndsUptoRow.holds Try.pinned (OpenSpec.upto fnRetryEndsSpec)

/-- 'laws.FnRetryFlights', WHERE WHAT IT READS IS OF BULK AT MOST 1048576: true; the input reads as it did. -/
def fnRetryFlightsUptoRow : OpenClaim := { program := "ytfinefjihphnhaa", sum := "9ae752c0b18509e009b2dcb9954d08f6e6ab9562e9cfe219f0add688b02ad4d1", func := "loop.example/blockstack/laws.FnRetryFlights", spec := "fnRetryFlights", unfollowed := true, recurses := true, apart := false, narrowed := true }
def FnRetryFlightsUptoSaid : Prop := fnRetryFlightsUptoRow.holds Try.pinned (OpenSpec.upto fnRetryFlightsSpec)

end Rows
end Go.Proofs.Ytfinefjihphnhaa
