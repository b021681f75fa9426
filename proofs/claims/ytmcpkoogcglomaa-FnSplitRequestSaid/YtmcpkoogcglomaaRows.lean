/-
  No cell of these rows narrows 'for every input' (looked for: loops, veiled, ifaces, maps, wideKeys, modest, calm, conditions, laid).
  DERIVED. THE GIVEN ROWS OF THIS SEAT. 9 by the template 'for every input the law returns true; each argument reads behind the call as it read before'; 0 by the template 'total and deterministic' (their statements: YtmcpkoogcglomaaTotals.lean).
  GIVEN WITH THE SEED: the statements are not yours to turn. If you find one false, say at which input.
  Laid BY PROGRAM, IN A SANDBOX (cutbox-rows.mjs): the forced cells as the released guide's own fill.sh prints them over the translation 8df68108e0baa7b9… (all of the seat's roots in one cut). By AI agents, Wed Nov 11 2026. No macro, syntax, notation, axiom, sorry.
-/
import Derived.Test.YtmcpkoogcglomaaChecked
import GoSem.Claim
import GoSem.ClaimJoined
import GoSem.ClaimMapViews
import Derived.JoinedTies
import Derived.KernelRfl
namespace Go.Proofs.Ytmcpkoogcglomaa
/- THE CELL 'sum', in the pinned program and in every row, IS THE sha256 OF THE DUMP (.gsa) THAT YtmcpkoogcglomaaProg.lean LOADS. Nothing in Lean hashes anything: it is a label: what it is worth is what the hold of that sum in a sandbox is worth. -/
noncomputable def Try.pinned : Pinned := { name := "ytmcpkoogcglomaa", sum := "8df68108e0baa7b91b8c8a0757de4c5aa4bfc82d86be658a62abfc67ddcdb42e", checked := Try.checked }
namespace Rows
def none {H : Type} : Left H := { results := [], args := [] }

/-- 'laws.FnExactRequestsValid': WHATEVER THE INPUT: true; the input reads as it did. -/
def fnExactRequestsValidSpec : ChangeSpec := { name := "fnExactRequestsValid", fn := fun _ => fun
  | [d] => { results := [.lit (.bool true)], args := [d] }
  | _ => none }
def fnExactRequestsValidRow : OpenClaim := { program := "ytmcpkoogcglomaa", sum := "8df68108e0baa7b91b8c8a0757de4c5aa4bfc82d86be658a62abfc67ddcdb42e", func := "loop.example/blockstack/laws.FnExactRequestsValid", spec := "fnExactRequestsValid", unfollowed := true, recurses := true, apart := false }
def FnExactRequestsValidSaid : Prop := fnExactRequestsValidRow.holds Try.pinned (OpenSpec.ofChange fnExactRequestsValidSpec)

/-- ITS FALSE NEIGHBOUR: 'it returns false'. Refute it at one input. -/
def fnExactRequestsValidWrong : ChangeSpec := { name := "fnExactRequestsValid", fn := fun _ => fun
  | [d] => { results := [.lit (.bool false)], args := [d] }
  | _ => none }
def FnExactRequestsValidWrongFalsely : Prop := fnExactRequestsValidRow.holds Try.pinned (OpenSpec.ofChange fnExactRequestsValidWrong)

/-- 'laws.FnExactTotalSectors': WHATEVER THE INPUT: true; the input reads as it did. -/
def fnExactTotalSectorsSpec : ChangeSpec := { name := "fnExactTotalSectors", fn := fun _ => fun
  | [d] => { results := [.lit (.bool true)], args := [d] }
  | _ => none }
def fnExactTotalSectorsRow : OpenClaim := { program := "ytmcpkoogcglomaa", sum := "8df68108e0baa7b91b8c8a0757de4c5aa4bfc82d86be658a62abfc67ddcdb42e", func := "loop.example/blockstack/laws.FnExactTotalSectors", spec := "fnExactTotalSectors", unfollowed := true, recurses := true, apart := false }
def FnExactTotalSectorsSaid : Prop := fnExactTotalSectorsRow.holds Try.pinned (OpenSpec.ofChange fnExactTotalSectorsSpec)

/-- ITS FALSE NEIGHBOUR: 'it returns false'. Refute it at one input. -/
def fnExactTotalSectorsWrong : ChangeSpec := { name := "fnExactTotalSectors", fn := fun _ => fun
  | [d] => { results := [.lit (.bool false)], args := [d] }
  | _ => none }
def FnExactTotalSectorsWrongFalsely : Prop := fnExactTotalSectorsRow.holds Try.pinned (OpenSpec.ofChange fnExactTotalSectorsWrong)

/-- 'laws.FnExactSplitRequest': WHATEVER THE INPUT: true; the input reads as it did. -/
def fnExactSplitRequestSpec : ChangeSpec := { name := "fnExactSplitRequest", fn := fun _ => fun
  | [d1, d2, d3] => { results := [.lit (.bool true)], args := [d1, d2, d3] }
  | _ => none }
def fnExactSplitRequestRow : OpenClaim := { program := "ytmcpkoogcglomaa", sum := "8df68108e0baa7b91b8c8a0757de4c5aa4bfc82d86be658a62abfc67ddcdb42e", func := "loop.example/blockstack/laws.FnExactSplitRequest", spec := "fnExactSplitRequest", apart := false }
def FnExactSplitRequestSaid : Prop := fnExactSplitRequestRow.holds Try.pinned (OpenSpec.ofChange fnExactSplitRequestSpec)

/-- ITS FALSE NEIGHBOUR: 'it returns false'. Refute it at one input. -/
def fnExactSplitRequestWrong : ChangeSpec := { name := "fnExactSplitRequest", fn := fun _ => fun
  | [d1, d2, d3] => { results := [.lit (.bool false)], args := [d1, d2, d3] }
  | _ => none }
def FnExactSplitRequestWrongFalsely : Prop := fnExactSplitRequestRow.holds Try.pinned (OpenSpec.ofChange fnExactSplitRequestWrong)

/-- 'laws.FnRequestsValid': WHATEVER THE INPUT: true; the input reads as it did. -/
def fnRequestsValidSpec : ChangeSpec := { name := "fnRequestsValid", fn := fun _ => fun
  | [d] => { results := [.lit (.bool true)], args := [d] }
  | _ => none }
def fnRequestsValidRow : OpenClaim := { program := "ytmcpkoogcglomaa", sum := "8df68108e0baa7b91b8c8a0757de4c5aa4bfc82d86be658a62abfc67ddcdb42e", func := "loop.example/blockstack/laws.FnRequestsValid", spec := "fnRequestsValid", unfollowed := true, recurses := true, apart := false }
def FnRequestsValidSaid : Prop := fnRequestsValidRow.holds Try.pinned (OpenSpec.ofChange fnRequestsValidSpec)

/-- ITS FALSE NEIGHBOUR: 'it returns false'. Refute it at one input. -/
def fnRequestsValidWrong : ChangeSpec := { name := "fnRequestsValid", fn := fun _ => fun
  | [d] => { results := [.lit (.bool false)], args := [d] }
  | _ => none }
def FnRequestsValidWrongFalsely : Prop := fnRequestsValidRow.holds Try.pinned (OpenSpec.ofChange fnRequestsValidWrong)

/-- 'laws.FnTotalSectors': WHATEVER THE INPUT: true; the input reads as it did. -/
def fnTotalSectorsSpec : ChangeSpec := { name := "fnTotalSectors", fn := fun _ => fun
  | [d] => { results := [.lit (.bool true)], args := [d] }
  | _ => none }
def fnTotalSectorsRow : OpenClaim := { program := "ytmcpkoogcglomaa", sum := "8df68108e0baa7b91b8c8a0757de4c5aa4bfc82d86be658a62abfc67ddcdb42e", func := "loop.example/blockstack/laws.FnTotalSectors", spec := "fnTotalSectors", unfollowed := true, recurses := true, apart := false }
def FnTotalSectorsSaid : Prop := fnTotalSectorsRow.holds Try.pinned (OpenSpec.ofChange fnTotalSectorsSpec)

/-- ITS FALSE NEIGHBOUR: 'it returns false'. Refute it at one input. -/
def fnTotalSectorsWrong : ChangeSpec := { name := "fnTotalSectors", fn := fun _ => fun
  | [d] => { results := [.lit (.bool false)], args := [d] }
  | _ => none }
def FnTotalSectorsWrongFalsely : Prop := fnTotalSectorsRow.holds Try.pinned (OpenSpec.ofChange fnTotalSectorsWrong)

/-- 'laws.FnExactMergeRequests': WHATEVER THE INPUT: true; the input reads as it did. -/
def fnExactMergeRequestsSpec : ChangeSpec := { name := "fnExactMergeRequests", fn := fun _ => fun
  | [d1, d2] => { results := [.lit (.bool true)], args := [d1, d2] }
  | _ => none }
def fnExactMergeRequestsRow : OpenClaim := { program := "ytmcpkoogcglomaa", sum := "8df68108e0baa7b91b8c8a0757de4c5aa4bfc82d86be658a62abfc67ddcdb42e", func := "loop.example/blockstack/laws.FnExactMergeRequests", spec := "fnExactMergeRequests", unfollowed := true, recurses := true, apart := false }
def FnExactMergeRequestsSaid : Prop := fnExactMergeRequestsRow.holds Try.pinned (OpenSpec.ofChange fnExactMergeRequestsSpec)

/-- ITS FALSE NEIGHBOUR: 'it returns false'. Refute it at one input. -/
def fnExactMergeRequestsWrong : ChangeSpec := { name := "fnExactMergeRequests", fn := fun _ => fun
  | [d1, d2] => { results := [.lit (.bool false)], args := [d1, d2] }
  | _ => none }
def FnExactMergeRequestsWrongFalsely : Prop := fnExactMergeRequestsRow.holds Try.pinned (OpenSpec.ofChange fnExactMergeRequestsWrong)

/-- 'laws.FnSplitRequest': WHATEVER THE INPUT: true; the input reads as it did. -/
def fnSplitRequestSpec : ChangeSpec := { name := "fnSplitRequest", fn := fun _ => fun
  | [d] => { results := [.lit (.bool true)], args := [d] }
  | _ => none }
def fnSplitRequestRow : OpenClaim := { program := "ytmcpkoogcglomaa", sum := "8df68108e0baa7b91b8c8a0757de4c5aa4bfc82d86be658a62abfc67ddcdb42e", func := "loop.example/blockstack/laws.FnSplitRequest", spec := "fnSplitRequest", unfollowed := true, recurses := true, apart := false }
def FnSplitRequestSaid : Prop := fnSplitRequestRow.holds Try.pinned (OpenSpec.ofChange fnSplitRequestSpec)

/-- ITS FALSE NEIGHBOUR: 'it returns false'. Refute it at one input. -/
def fnSplitRequestWrong : ChangeSpec := { name := "fnSplitRequest", fn := fun _ => fun
  | [d] => { results := [.lit (.bool false)], args := [d] }
  | _ => none }
def FnSplitRequestWrongFalsely : Prop := fnSplitRequestRow.holds Try.pinned (OpenSpec.ofChange fnSplitRequestWrong)

/-- 'laws.FnSplitMerge': WHATEVER THE INPUT: true; the input reads as it did. -/
def fnSplitMergeSpec : ChangeSpec := { name := "fnSplitMerge", fn := fun _ => fun
  | [d] => { results := [.lit (.bool true)], args := [d] }
  | _ => none }
def fnSplitMergeRow : OpenClaim := { program := "ytmcpkoogcglomaa", sum := "8df68108e0baa7b91b8c8a0757de4c5aa4bfc82d86be658a62abfc67ddcdb42e", func := "loop.example/blockstack/laws.FnSplitMerge", spec := "fnSplitMerge", unfollowed := true, recurses := true, apart := false }
def FnSplitMergeSaid : Prop := fnSplitMergeRow.holds Try.pinned (OpenSpec.ofChange fnSplitMergeSpec)

/-- ITS FALSE NEIGHBOUR: 'it returns false'. Refute it at one input. -/
def fnSplitMergeWrong : ChangeSpec := { name := "fnSplitMerge", fn := fun _ => fun
  | [d] => { results := [.lit (.bool false)], args := [d] }
  | _ => none }
def FnSplitMergeWrongFalsely : Prop := fnSplitMergeRow.holds Try.pinned (OpenSpec.ofChange fnSplitMergeWrong)

/-- 'laws.FnMergeRequests': WHATEVER THE INPUT: true; the input reads as it did. -/
def fnMergeRequestsSpec : ChangeSpec := { name := "fnMergeRequests", fn := fun _ => fun
  | [d] => { results := [.lit (.bool true)], args := [d] }
  | _ => none }
def fnMergeRequestsRow : OpenClaim := { program := "ytmcpkoogcglomaa", sum := "8df68108e0baa7b91b8c8a0757de4c5aa4bfc82d86be658a62abfc67ddcdb42e", func := "loop.example/blockstack/laws.FnMergeRequests", spec := "fnMergeRequests", unfollowed := true, recurses := true, apart := false }
def FnMergeRequestsSaid : Prop := fnMergeRequestsRow.holds Try.pinned (OpenSpec.ofChange fnMergeRequestsSpec)

/-- ITS FALSE NEIGHBOUR: 'it returns false'. Refute it at one input. -/
def fnMergeRequestsWrong : ChangeSpec := { name := "fnMergeRequests", fn := fun _ => fun
  | [d] => { results := [.lit (.bool false)], args := [d] }
  | _ => none }
def FnMergeRequestsWrongFalsely : Prop := fnMergeRequestsRow.holds Try.pinned (OpenSpec.ofChange fnMergeRequestsWrong)

/- THE SECOND FORM. 'bulk': how many values and letters a reading holds, each counted each time it is reached (what is shared counts as often as it is met; a slice's spare places count too). A statement '..UptoSaid' is the law's where the arguments, and the package variables that the reading takes, are together of bulk at most 1048576: NARROWER than '..Said'. Prove '..Said' where nothing that the law and all that it calls make is longer than what came in: it says more and counts as full. Else prove '..UptoSaid'. A law counts once. -/
mutual
def uptoBulk {H : Type} : DataW H → Nat
  | .lit (.string bytes) => bytes.length + 1
  | .lit _ => 1
  | .nil => 1
  | .ptr d => uptoBulk d + 1
  | .slice elems spare => uptoBulkAll elems + uptoBulkAll spare + 1
  | .agg parts => uptoBulkAll parts + 1
  | .iface _ d => uptoBulk d + 1
  | .map entries => uptoBulkEntries entries + 1
  | .held _ => 1
def uptoBulkAll {H : Type} : List (DataW H) → Nat
  | [] => 0
  | d :: r => uptoBulk d + uptoBulkAll r
def uptoBulkEntries {H : Type} : List (Lit × DataW H) → Nat
  | [] => 0
  | x :: r => uptoBulkEntry x + uptoBulkEntries r
def uptoBulkEntry {H : Type} : Lit × DataW H → Nat
  | (.string bytes, d) => bytes.length + uptoBulk d + 1
  | (_, d) => uptoBulk d + 1
 end
def uptoSmall : (H : Type) → List (DataW H) → Bool := fun _ ds => decide (uptoBulkAll ds ≤ 1048576)
def OpenSpec.upto (s : _root_.Go.ChangeSpec) : _root_.Go.OpenSpec := { _root_.Go.OpenSpec.ofChange s with cond := some uptoSmall }

/-- 'laws.FnExactRequestsValid', WHERE WHAT IT READS IS OF BULK AT MOST 1048576: true; the input reads as it did. -/
def fnExactRequestsValidUptoRow : OpenClaim := { program := "ytmcpkoogcglomaa", sum := "8df68108e0baa7b91b8c8a0757de4c5aa4bfc82d86be658a62abfc67ddcdb42e", func := "loop.example/blockstack/laws.FnExactRequestsValid", spec := "fnExactRequestsValid", unfollowed := true, recurses := true, apart := false, narrowed := true }
def FnExactRequestsValidUptoSaid : Prop := fnExactRequestsValidUptoRow.holds Try.pinned (OpenSpec.upto fnExactRequestsValidSpec)

/-- 'laws.FnExactTotalSectors', WHERE WHAT IT READS IS OF BULK AT MOST 1048576: true; the input reads as it did. -/
def fnExactTotalSectorsUptoRow : OpenClaim := { program := "ytmcpkoogcglomaa", sum := "8df68108e0baa7b91b8c8a0757de4c5aa4bfc82d86be658a62abfc67ddcdb42e", func := "loop.example/blockstack/laws.FnExactTotalSectors", spec := "fnExactTotalSectors", unfollowed := true, recurses := true, apart := false, narrowed := true }
def FnExactTotalSectorsUptoSaid : Prop := fnExactTotalSectorsUptoRow.holds Try.pinned (OpenSpec.upto fnExactTotalSectorsSpec)

/-- 'laws.FnExactSplitRequest', WHERE WHAT IT READS IS OF BULK AT MOST 1048576: true; the input reads as it did. -/
def fnExactSplitRequestUptoRow : OpenClaim := { program := "ytmcpkoogcglomaa", sum := "8df68108e0baa7b91b8c8a0757de4c5aa4bfc82d86be658a62abfc67ddcdb42e", func := "loop.example/blockstack/laws.FnExactSplitRequest", spec := "fnExactSplitRequest", apart := false, narrowed := true }
def FnExactSplitRequestUptoSaid : Prop := fnExactSplitRequestUptoRow.holds Try.pinned (OpenSpec.upto fnExactSplitRequestSpec)

/-- 'laws.FnRequestsValid', WHERE WHAT IT READS IS OF BULK AT MOST 1048576: true; the input reads as it did. -/
def fnRequestsValidUptoRow : OpenClaim := { program := "ytmcpkoogcglomaa", sum := "8df68108e0baa7b91b8c8a0757de4c5aa4bfc82d86be658a62abfc67ddcdb42e", func := "loop.example/blockstack/laws.FnRequestsValid", spec := "fnRequestsValid", unfollowed := true, recurses := true, apart := false, narrowed := true }
def FnRequestsValidUptoSaid : Prop := fnRequestsValidUptoRow.holds Try.pinned (OpenSpec.upto fnRequestsValidSpec)

/-- 'laws.FnTotalSectors', WHERE WHAT IT READS IS OF BULK AT MOST 1048576: true; the input reads as it did. -/
def fnTotalSectorsUptoRow : OpenClaim := { program := "ytmcpkoogcglomaa", sum := "8df68108e0baa7b91b8c8a0757de4c5aa4bfc82d86be658a62abfc67ddcdb42e", func := "loop.example/blockstack/laws.FnTotalSectors", spec := "fnTotalSectors", unfollowed := true, recurses := true, apart := false, narrowed := true }
def FnTotalSectorsUptoSaid : Prop := fnTotalSectorsUptoRow.holds Try.pinned (OpenSpec.upto fnTotalSectorsSpec)

/-- 'laws.FnExactMergeRequests', WHERE WHAT IT READS IS OF BULK AT MOST 1048576: true; the input reads as it did. -/
def fnExactMergeRequestsUptoRow : OpenClaim := { program := "ytmcpkoogcglomaa", sum := "8df68108e0baa7b91b8c8a0757de4c5aa4bfc82d86be658a62abfc67ddcdb42e", func := "loop.example/blockstack/laws.FnExactMergeRequests", spec := "fnExactMergeRequests", unfollowed := true, recurses := true, apart := false, narrowed := true }
def FnExactMergeRequestsUptoSaid : Prop := fnExactMergeRequestsUptoRow.holds Try.pinned (OpenSpec.upto fnExactMergeRequestsSpec)

/-- 'laws.FnSplitRequest', WHERE WHAT IT READS IS OF BULK AT MOST 1048576: true; the input reads as it did. -/
def fnSplitRequestUptoRow : OpenClaim := { program := "ytmcpkoogcglomaa", sum := "8df68108e0baa7b91b8c8a0757de4c5aa4bfc82d86be658a62abfc67ddcdb42e", func := "loop.example/blockstack/laws.FnSplitRequest", spec := "fnSplitRequest", unfollowed := true, recurses := true, apart := false, narrowed := true }
def FnSplitRequestUptoSaid : Prop := fnSplitRequestUptoRow.holds Try.pinned (OpenSpec.upto fnSplitRequestSpec)

/-- 'laws.FnSplitMerge', WHERE WHAT IT READS IS OF BULK AT MOST 1048576: true; the input reads as it did. -/
def fnSplitMergeUptoRow : OpenClaim := { program := "ytmcpkoogcglomaa", sum := "8df68108e0baa7b91b8c8a0757de4c5aa4bfc82d86be658a62abfc67ddcdb42e", func := "loop.example/blockstack/laws.FnSplitMerge", spec := "fnSplitMerge", unfollowed := true, recurses := true, apart := false, narrowed := true }
def FnSplitMergeUptoSaid : Prop := fnSplitMergeUptoRow.holds Try.pinned (OpenSpec.upto fnSplitMergeSpec)

/-- 'laws.FnMergeRequests', WHERE WHAT IT READS IS OF BULK AT MOST 1048576: true; the input reads as it did. -/
def fnMergeRequestsUptoRow : OpenClaim := { program := "ytmcpkoogcglomaa", sum := "8df68108e0baa7b91b8c8a0757de4c5aa4bfc82d86be658a62abfc67ddcdb42e", func := "loop.example/blockstack/laws.FnMergeRequests", spec := "fnMergeRequests", unfollowed := true, recurses := true, apart := false, narrowed := true }
def FnMergeRequestsUptoSaid : Prop := fnMergeRequestsUptoRow.holds Try.pinned (OpenSpec.upto fnMergeRequestsSpec)

end Rows
end Go.Proofs.Ytmcpkoogcglomaa
