/-
  No cell of these rows narrows 'for every input' (looked for: loops, veiled, ifaces, maps, wideKeys, modest, calm, conditions, laid).
  DERIVED. THE GIVEN ROWS OF THIS SEAT. 12 by the template 'for every input the law returns true; each argument reads behind the call as it read before'; 0 by the template 'total and deterministic' (their statements: YtejnieoneknbbaaTotals.lean).
  GIVEN WITH THE SEED: the statements are not yours to turn. If you find one false, say at which input.
  Laid BY PROGRAM, IN A SANDBOX (cutbox-rows.mjs): the forced cells as the released guide's own fill.sh prints them over the translation 813c931d4f599324… (all of the seat's roots in one cut). By AI agents, Wed Nov 11 2026. No macro, syntax, notation, axiom, sorry.
-/
import Derived.Test.YtejnieoneknbbaaChecked
import GoSem.Claim
import GoSem.ClaimJoined
import GoSem.ClaimMapViews
import Derived.JoinedTies
import Derived.KernelRfl
namespace Go.Proofs.Ytejnieoneknbbaa
/- THE CELL 'sum', in the pinned program and in every row, IS THE sha256 OF THE DUMP (.gsa) THAT YtejnieoneknbbaaProg.lean LOADS. Nothing in Lean hashes anything: it is a label: what it is worth is what the hold of that sum in a sandbox is worth. -/
noncomputable def Try.pinned : Pinned := { name := "ytejnieoneknbbaa", sum := "813c931d4f599324dd737ef51a7377039448e53921800f6e29f340fc92230a84", checked := Try.checked }
namespace Rows
def none {H : Type} : Left H := { results := [], args := [] }

/-- 'laws.FnExactCacheValid': WHATEVER THE INPUT: true; the input reads as it did. -/
def fnExactCacheValidSpec : ChangeSpec := { name := "fnExactCacheValid", fn := fun _ => fun
  | [d1, d2] => { results := [.lit (.bool true)], args := [d1, d2] }
  | _ => none }
def fnExactCacheValidRow : OpenClaim := { program := "ytejnieoneknbbaa", sum := "813c931d4f599324dd737ef51a7377039448e53921800f6e29f340fc92230a84", func := "loop.example/blockstack/laws.FnExactCacheValid", spec := "fnExactCacheValid", unfollowed := true, recurses := true, apart := false }
def FnExactCacheValidSaid : Prop := fnExactCacheValidRow.holds Try.pinned (OpenSpec.ofChange fnExactCacheValidSpec)

/-- ITS FALSE NEIGHBOUR: 'it returns false'. Refute it at one input. -/
def fnExactCacheValidWrong : ChangeSpec := { name := "fnExactCacheValid", fn := fun _ => fun
  | [d1, d2] => { results := [.lit (.bool false)], args := [d1, d2] }
  | _ => none }
def FnExactCacheValidWrongFalsely : Prop := fnExactCacheValidRow.holds Try.pinned (OpenSpec.ofChange fnExactCacheValidWrong)

/-- 'laws.FnCacheValid': WHATEVER THE INPUT: true; the input reads as it did. -/
def fnCacheValidSpec : ChangeSpec := { name := "fnCacheValid", fn := fun _ => fun
  | [d] => { results := [.lit (.bool true)], args := [d] }
  | _ => none }
def fnCacheValidRow : OpenClaim := { program := "ytejnieoneknbbaa", sum := "813c931d4f599324dd737ef51a7377039448e53921800f6e29f340fc92230a84", func := "loop.example/blockstack/laws.FnCacheValid", spec := "fnCacheValid", unfollowed := true, recurses := true, apart := false }
def FnCacheValidSaid : Prop := fnCacheValidRow.holds Try.pinned (OpenSpec.ofChange fnCacheValidSpec)

/-- ITS FALSE NEIGHBOUR: 'it returns false'. Refute it at one input. -/
def fnCacheValidWrong : ChangeSpec := { name := "fnCacheValid", fn := fun _ => fun
  | [d] => { results := [.lit (.bool false)], args := [d] }
  | _ => none }
def FnCacheValidWrongFalsely : Prop := fnCacheValidRow.holds Try.pinned (OpenSpec.ofChange fnCacheValidWrong)

/-- 'laws.FnCacheView': WHATEVER THE INPUT: true; the input reads as it did. -/
def fnCacheViewSpec : ChangeSpec := { name := "fnCacheView", fn := fun _ => fun
  | [d] => { results := [.lit (.bool true)], args := [d] }
  | _ => none }
def fnCacheViewRow : OpenClaim := { program := "ytejnieoneknbbaa", sum := "813c931d4f599324dd737ef51a7377039448e53921800f6e29f340fc92230a84", func := "loop.example/blockstack/laws.FnCacheView", spec := "fnCacheView", unfollowed := true, recurses := true, apart := false }
def FnCacheViewSaid : Prop := fnCacheViewRow.holds Try.pinned (OpenSpec.ofChange fnCacheViewSpec)

/-- ITS FALSE NEIGHBOUR: 'it returns false'. Refute it at one input. -/
def fnCacheViewWrong : ChangeSpec := { name := "fnCacheView", fn := fun _ => fun
  | [d] => { results := [.lit (.bool false)], args := [d] }
  | _ => none }
def FnCacheViewWrongFalsely : Prop := fnCacheViewRow.holds Try.pinned (OpenSpec.ofChange fnCacheViewWrong)

/-- 'laws.FnExactCacheView': WHATEVER THE INPUT: true; the input reads as it did. -/
def fnExactCacheViewSpec : ChangeSpec := { name := "fnExactCacheView", fn := fun _ => fun
  | [d1, d2] => { results := [.lit (.bool true)], args := [d1, d2] }
  | _ => none }
def fnExactCacheViewRow : OpenClaim := { program := "ytejnieoneknbbaa", sum := "813c931d4f599324dd737ef51a7377039448e53921800f6e29f340fc92230a84", func := "loop.example/blockstack/laws.FnExactCacheView", spec := "fnExactCacheView", unfollowed := true, recurses := true, apart := false }
def FnExactCacheViewSaid : Prop := fnExactCacheViewRow.holds Try.pinned (OpenSpec.ofChange fnExactCacheViewSpec)

/-- ITS FALSE NEIGHBOUR: 'it returns false'. Refute it at one input. -/
def fnExactCacheViewWrong : ChangeSpec := { name := "fnExactCacheView", fn := fun _ => fun
  | [d1, d2] => { results := [.lit (.bool false)], args := [d1, d2] }
  | _ => none }
def FnExactCacheViewWrongFalsely : Prop := fnExactCacheViewRow.holds Try.pinned (OpenSpec.ofChange fnExactCacheViewWrong)

/-- 'laws.FnCacheScan': WHATEVER THE INPUT: true; the input reads as it did. -/
def fnCacheScanSpec : ChangeSpec := { name := "fnCacheScan", fn := fun _ => fun
  | [d] => { results := [.lit (.bool true)], args := [d] }
  | _ => none }
def fnCacheScanRow : OpenClaim := { program := "ytejnieoneknbbaa", sum := "813c931d4f599324dd737ef51a7377039448e53921800f6e29f340fc92230a84", func := "loop.example/blockstack/laws.FnCacheScan", spec := "fnCacheScan", unfollowed := true, recurses := true, apart := false }
def FnCacheScanSaid : Prop := fnCacheScanRow.holds Try.pinned (OpenSpec.ofChange fnCacheScanSpec)

/-- ITS FALSE NEIGHBOUR: 'it returns false'. Refute it at one input. -/
def fnCacheScanWrong : ChangeSpec := { name := "fnCacheScan", fn := fun _ => fun
  | [d] => { results := [.lit (.bool false)], args := [d] }
  | _ => none }
def FnCacheScanWrongFalsely : Prop := fnCacheScanRow.holds Try.pinned (OpenSpec.ofChange fnCacheScanWrong)

/-- 'laws.FnCacheFlush': WHATEVER THE INPUT: true; the input reads as it did. -/
def fnCacheFlushSpec : ChangeSpec := { name := "fnCacheFlush", fn := fun _ => fun
  | [d] => { results := [.lit (.bool true)], args := [d] }
  | _ => none }
def fnCacheFlushRow : OpenClaim := { program := "ytejnieoneknbbaa", sum := "813c931d4f599324dd737ef51a7377039448e53921800f6e29f340fc92230a84", func := "loop.example/blockstack/laws.FnCacheFlush", spec := "fnCacheFlush", unfollowed := true, recurses := true, apart := false }
def FnCacheFlushSaid : Prop := fnCacheFlushRow.holds Try.pinned (OpenSpec.ofChange fnCacheFlushSpec)

/-- ITS FALSE NEIGHBOUR: 'it returns false'. Refute it at one input. -/
def fnCacheFlushWrong : ChangeSpec := { name := "fnCacheFlush", fn := fun _ => fun
  | [d] => { results := [.lit (.bool false)], args := [d] }
  | _ => none }
def FnCacheFlushWrongFalsely : Prop := fnCacheFlushRow.holds Try.pinned (OpenSpec.ofChange fnCacheFlushWrong)

/-- 'laws.FnCacheSmall': WHATEVER THE INPUT: true; the input reads as it did. -/
def fnCacheSmallSpec : ChangeSpec := { name := "fnCacheSmall", fn := fun _ => fun
  | [d] => { results := [.lit (.bool true)], args := [d] }
  | _ => none }
def fnCacheSmallRow : OpenClaim := { program := "ytejnieoneknbbaa", sum := "813c931d4f599324dd737ef51a7377039448e53921800f6e29f340fc92230a84", func := "loop.example/blockstack/laws.FnCacheSmall", spec := "fnCacheSmall", unfollowed := true, recurses := true, apart := false }
def FnCacheSmallSaid : Prop := fnCacheSmallRow.holds Try.pinned (OpenSpec.ofChange fnCacheSmallSpec)

/-- ITS FALSE NEIGHBOUR: 'it returns false'. Refute it at one input. -/
def fnCacheSmallWrong : ChangeSpec := { name := "fnCacheSmall", fn := fun _ => fun
  | [d] => { results := [.lit (.bool false)], args := [d] }
  | _ => none }
def FnCacheSmallWrongFalsely : Prop := fnCacheSmallRow.holds Try.pinned (OpenSpec.ofChange fnCacheSmallWrong)

/-- 'laws.FnExactCacheFlush': WHATEVER THE INPUT: true; the input reads as it did. -/
def fnExactCacheFlushSpec : ChangeSpec := { name := "fnExactCacheFlush", fn := fun _ => fun
  | [d1, d2] => { results := [.lit (.bool true)], args := [d1, d2] }
  | _ => none }
def fnExactCacheFlushRow : OpenClaim := { program := "ytejnieoneknbbaa", sum := "813c931d4f599324dd737ef51a7377039448e53921800f6e29f340fc92230a84", func := "loop.example/blockstack/laws.FnExactCacheFlush", spec := "fnExactCacheFlush", unfollowed := true, recurses := true, apart := false }
def FnExactCacheFlushSaid : Prop := fnExactCacheFlushRow.holds Try.pinned (OpenSpec.ofChange fnExactCacheFlushSpec)

/-- ITS FALSE NEIGHBOUR: 'it returns false'. Refute it at one input. -/
def fnExactCacheFlushWrong : ChangeSpec := { name := "fnExactCacheFlush", fn := fun _ => fun
  | [d1, d2] => { results := [.lit (.bool false)], args := [d1, d2] }
  | _ => none }
def FnExactCacheFlushWrongFalsely : Prop := fnExactCacheFlushRow.holds Try.pinned (OpenSpec.ofChange fnExactCacheFlushWrong)

/-- 'laws.FnCacheRead': WHATEVER THE INPUT: true; the input reads as it did. -/
def fnCacheReadSpec : ChangeSpec := { name := "fnCacheRead", fn := fun _ => fun
  | [d] => { results := [.lit (.bool true)], args := [d] }
  | _ => none }
def fnCacheReadRow : OpenClaim := { program := "ytejnieoneknbbaa", sum := "813c931d4f599324dd737ef51a7377039448e53921800f6e29f340fc92230a84", func := "loop.example/blockstack/laws.FnCacheRead", spec := "fnCacheRead", unfollowed := true, recurses := true, apart := false }
def FnCacheReadSaid : Prop := fnCacheReadRow.holds Try.pinned (OpenSpec.ofChange fnCacheReadSpec)

/-- ITS FALSE NEIGHBOUR: 'it returns false'. Refute it at one input. -/
def fnCacheReadWrong : ChangeSpec := { name := "fnCacheRead", fn := fun _ => fun
  | [d] => { results := [.lit (.bool false)], args := [d] }
  | _ => none }
def FnCacheReadWrongFalsely : Prop := fnCacheReadRow.holds Try.pinned (OpenSpec.ofChange fnCacheReadWrong)

/-- 'laws.FnExactCacheWrite': WHATEVER THE INPUT: true; the input reads as it did. -/
def fnExactCacheWriteSpec : ChangeSpec := { name := "fnExactCacheWrite", fn := fun _ => fun
  | [d1, d2, d3, d4] => { results := [.lit (.bool true)], args := [d1, d2, d3, d4] }
  | _ => none }
def fnExactCacheWriteRow : OpenClaim := { program := "ytejnieoneknbbaa", sum := "813c931d4f599324dd737ef51a7377039448e53921800f6e29f340fc92230a84", func := "loop.example/blockstack/laws.FnExactCacheWrite", spec := "fnExactCacheWrite", unfollowed := true, recurses := true, apart := false }
def FnExactCacheWriteSaid : Prop := fnExactCacheWriteRow.holds Try.pinned (OpenSpec.ofChange fnExactCacheWriteSpec)

/-- ITS FALSE NEIGHBOUR: 'it returns false'. Refute it at one input. -/
def fnExactCacheWriteWrong : ChangeSpec := { name := "fnExactCacheWrite", fn := fun _ => fun
  | [d1, d2, d3, d4] => { results := [.lit (.bool false)], args := [d1, d2, d3, d4] }
  | _ => none }
def FnExactCacheWriteWrongFalsely : Prop := fnExactCacheWriteRow.holds Try.pinned (OpenSpec.ofChange fnExactCacheWriteWrong)

/-- 'laws.FnCacheWrite': WHATEVER THE INPUT: true; the input reads as it did. -/
def fnCacheWriteSpec : ChangeSpec := { name := "fnCacheWrite", fn := fun _ => fun
  | [d] => { results := [.lit (.bool true)], args := [d] }
  | _ => none }
def fnCacheWriteRow : OpenClaim := { program := "ytejnieoneknbbaa", sum := "813c931d4f599324dd737ef51a7377039448e53921800f6e29f340fc92230a84", func := "loop.example/blockstack/laws.FnCacheWrite", spec := "fnCacheWrite", unfollowed := true, recurses := true, apart := false }
def FnCacheWriteSaid : Prop := fnCacheWriteRow.holds Try.pinned (OpenSpec.ofChange fnCacheWriteSpec)

/-- ITS FALSE NEIGHBOUR: 'it returns false'. Refute it at one input. -/
def fnCacheWriteWrong : ChangeSpec := { name := "fnCacheWrite", fn := fun _ => fun
  | [d] => { results := [.lit (.bool false)], args := [d] }
  | _ => none }
def FnCacheWriteWrongFalsely : Prop := fnCacheWriteRow.holds Try.pinned (OpenSpec.ofChange fnCacheWriteWrong)

/-- 'laws.FnExactCacheRead': WHATEVER THE INPUT: true; the input reads as it did. -/
def fnExactCacheReadSpec : ChangeSpec := { name := "fnExactCacheRead", fn := fun _ => fun
  | [d1, d2, d3] => { results := [.lit (.bool true)], args := [d1, d2, d3] }
  | _ => none }
def fnExactCacheReadRow : OpenClaim := { program := "ytejnieoneknbbaa", sum := "813c931d4f599324dd737ef51a7377039448e53921800f6e29f340fc92230a84", func := "loop.example/blockstack/laws.FnExactCacheRead", spec := "fnExactCacheRead", unfollowed := true, recurses := true, apart := false }
def FnExactCacheReadSaid : Prop := fnExactCacheReadRow.holds Try.pinned (OpenSpec.ofChange fnExactCacheReadSpec)

/-- ITS FALSE NEIGHBOUR: 'it returns false'. Refute it at one input. -/
def fnExactCacheReadWrong : ChangeSpec := { name := "fnExactCacheRead", fn := fun _ => fun
  | [d1, d2, d3] => { results := [.lit (.bool false)], args := [d1, d2, d3] }
  | _ => none }
def FnExactCacheReadWrongFalsely : Prop := fnExactCacheReadRow.holds Try.pinned (OpenSpec.ofChange fnExactCacheReadWrong)

/- THE SECOND FORM. 'bulk': how many values and letters a reading holds, each counted each time it is reached (what is shared counts as often as it is met; a slice's spare places count too). A statement '..UptoSaid' is the law's where the arguments, and the package variables that the reading takes, are together of bulk at most 1048576: NARROWER than '..Said'. Prove '..Said' where nothing that the law and all that it calls make is longer than what came in: it says more and counts as full. Else prove '..UptoSaid'. A law counts once. -/
mutual
def uptoBulk {H : Type} : DataW H → Nat
  | .lit (.string bytes) => bytes.length + 1
  | .lit _ => 1
  | .nil => 1
  | .ptr d => uptoBulk d + 1
  | .slice elems spare => uptoBulkAll elems + uptoBulkAll spare + 1
  | .agg parts => uptoBulkAll parts + 1
  | .iface _ d => uptoBulk d + 1
  | .map entries => uptoBulkEntries entries + 1
  | .held _ => 1
def uptoBulkAll {H : Type} : List (DataW H) → Nat
  | [] => 0
  | d :: r => uptoBulk d + uptoBulkAll r
def uptoBulkEntries {H : Type} : List (Lit × DataW H) → Nat
  | [] => 0
  | x :: r => uptoBulkEntry x + uptoBulkEntries r
def uptoBulkEntry {H : Type} : Lit × DataW H → Nat
  | (.string bytes, d) => bytes.length + uptoBulk d + 1
  | (_, d) => uptoBulk d + 1
 end
def uptoSmall : (H : Type) → List (DataW H) → Bool := fun _ ds => decide (uptoBulkAll ds ≤ 1048576)
def OpenSpec.upto (s : _root_.Go.ChangeSpec) : _root_.Go.OpenSpec := { _root_.Go.OpenSpec.ofChange s with cond := some uptoSmall }

/-- 'laws.FnExactCacheValid', WHERE WHAT IT READS IS OF BULK AT MOST 1048576: true; the input reads as it did. -/
def fnExactCacheValidUptoRow : OpenClaim := { program := "ytejnieoneknbbaa", sum := "813c931d4f599324dd737ef51a7377039448e53921800f6e29f340fc92230a84", func := "loop.example/blockstack/laws.FnExactCacheValid", spec := "fnExactCacheValid", unfollowed := true, recurses := true, apart := false, narrowed := true }
def FnExactCacheValidUptoSaid : Prop := fnExactCacheValidUptoRow.holds Try.pinned (OpenSpec.upto fnExactCacheValidSpec)

/-- 'laws.FnCacheValid', WHERE WHAT IT READS IS OF BULK AT MOST 1048576: true; the input reads as it did. -/
def fnCacheValidUptoRow : OpenClaim := { program := "ytejnieoneknbbaa", sum := "813c931d4f599324dd737ef51a7377039448e53921800f6e29f340fc92230a84", func := "loop.example/blockstack/laws.FnCacheValid", spec := "fnCacheValid", unfollowed := true, recurses := true, apart := false, narrowed := true }
def FnCacheValidUptoSaid : Prop := fnCacheValidUptoRow.holds Try.pinned (OpenSpec.upto fnCacheValidSpec)

/-- 'laws.FnCacheView', WHERE WHAT IT READS IS OF BULK AT MOST 1048576: true; the input reads as it did. -/
def fnCacheViewUptoRow : OpenClaim := { program := "ytejnieoneknbbaa", sum := "813c931d4f599324dd737ef51a7377039448e53921800f6e29f340fc92230a84", func := "loop.example/blockstack/laws.FnCacheView", spec := "fnCacheView", unfollowed := true, recurses := true, apart := false, narrowed := true }
def FnCacheViewUptoSaid : Prop := fnCacheViewUptoRow.holds Try.pinned (OpenSpec.upto fnCacheViewSpec)

/-- 'laws.FnExactCacheView', WHERE WHAT IT READS IS OF BULK AT MOST 1048576: true; the input reads as it did. -/
def fnExactCacheViewUptoRow : OpenClaim := { program := "ytejnieoneknbbaa", sum := "813c931d4f599324dd737ef51a7377039448e53921800f6e29f340fc92230a84", func := "loop.example/blockstack/laws.FnExactCacheView", spec := "fnExactCacheView", unfollowed := true, recurses := true, apart := false, narrowed := true }
def FnExactCacheViewUptoSaid : Prop := fnExactCacheViewUptoRow.holds Try.pinned (OpenSpec.upto fnExactCacheViewSpec)

/-- 'laws.FnCacheScan', WHERE WHAT IT READS IS OF BULK AT MOST 1048576: true; the input reads as it did. -/
def fnCacheScanUptoRow : OpenClaim := { program := "ytejnieoneknbbaa", sum := "813c931d4f599324dd737ef51a7377039448e53921800f6e29f340fc92230a84", func := "loop.example/blockstack/laws.FnCacheScan", spec := "fnCacheScan", unfollowed := true, recurses := true, apart := false, narrowed := true }
def FnCacheScanUptoSaid : Prop := fnCacheScanUptoRow.holds Try.pinned (OpenSpec.upto fnCacheScanSpec)

/-- 'laws.FnCacheFlush', WHERE WHAT IT READS IS OF BULK AT MOST 1048576: true; the input reads as it did. -/
def fnCacheFlushUptoRow : OpenClaim := { program := "ytejnieoneknbbaa", sum := "813c931d4f599324dd737ef51a7377039448e53921800f6e29f340fc92230a84", func := "loop.example/blockstack/laws.FnCacheFlush", spec := "fnCacheFlush", unfollowed := true, recurses := true, apart := false, narrowed := true }
def FnCacheFlushUptoSaid : Prop := fnCacheFlushUptoRow.holds Try.pinned (OpenSpec.upto fnCacheFlushSpec)

/-- 'laws.FnCacheSmall', WHERE WHAT IT READS IS OF BULK AT MOST 1048576: true; the input reads as it did. -/
def fnCacheSmallUptoRow : OpenClaim := { program := "ytejnieoneknbbaa", sum := "813c931d4f599324dd737ef51a7377039448e53921800f6e29f340fc92230a84", func := "loop.example/blockstack/laws.FnCacheSmall", spec := "fnCacheSmall", unfollowed := true, recurses := true, apart := false, narrowed := true }
def FnCacheSmallUptoSaid : Prop := fnCacheSmallUptoRow.holds Try.pinned (OpenSpec.upto fnCacheSmallSpec)

/-- 'laws.FnExactCacheFlush', WHERE WHAT IT READS IS OF BULK AT MOST 1048576: true; the input reads as it did. -/
def fnExactCacheFlushUptoRow : OpenClaim := { program := "ytejnieoneknbbaa", sum := "813c931d4f599324dd737ef51a7377039448e53921800f6e29f340fc92230a84", func := "loop.example/blockstack/laws.FnExactCacheFlush", spec := "fnExactCacheFlush", unfollowed := true, recurses := true, apart := false, narrowed := true }
def FnExactCacheFlushUptoSaid : Prop := fnExactCacheFlushUptoRow.holds Try.pinned (OpenSpec.upto fnExactCacheFlushSpec)

/-- 'laws.FnCacheRead', WHERE WHAT IT READS IS OF BULK AT MOST 1048576: true; the input reads as it did. -/
def fnCacheReadUptoRow : OpenClaim := { program := "ytejnieoneknbbaa", sum := "813c931d4f599324dd737ef51a7377039448e53921800f6e29f340fc92230a84", func := "loop.example/blockstack/laws.FnCacheRead", spec := "fnCacheRead", unfollowed := true, recurses := true, apart := false, narrowed := true }
def FnCacheReadUptoSaid : Prop := fnCacheReadUptoRow.holds Try.pinned (OpenSpec.upto fnCacheReadSpec)

/-- 'laws.FnExactCacheWrite', WHERE WHAT IT READS IS OF BULK AT MOST 1048576: true; the input reads as it did. -/
def fnExactCacheWriteUptoRow : OpenClaim := { program := "ytejnieoneknbbaa", sum := "813c931d4f599324dd737ef51a7377039448e53921800f6e29f340fc92230a84", func := "loop.example/blockstack/laws.FnExactCacheWrite", spec := "fnExactCacheWrite", unfollowed := true, recurses := true, apart := false, narrowed := true }
def FnExactCacheWriteUptoSaid : Prop := fnExactCacheWriteUptoRow.holds Try.pinned (OpenSpec.upto fnExactCacheWriteSpec)

/-- 'laws.FnCacheWrite', WHERE WHAT IT READS IS OF BULK AT MOST 1048576: true; the input reads as it did. -/
def fnCacheWriteUptoRow : OpenClaim := { program := "ytejnieoneknbbaa", sum := "813c931d4f599324dd737ef51a7377039448e53921800f6e29f340fc92230a84", func := "loop.example/blockstack/laws.FnCacheWrite", spec := "fnCacheWrite", unfollowed := true, recurses := true, apart := false, narrowed := true }
def FnCacheWriteUptoSaid : Prop := fnCacheWriteUptoRow.holds Try.pinned (OpenSpec.upto fnCacheWriteSpec)

/-- 'laws.FnExactCacheRead', WHERE WHAT IT READS IS OF BULK AT MOST 1048576: true; the input reads as it did. -/
def fnExactCacheReadUptoRow : OpenClaim := { program := "ytejnieoneknbbaa", sum := "813c931d4f599324dd737ef51a7377039448e53921800f6e29f340fc92230a84", func := "loop.example/blockstack/laws.FnExactCacheRead", spec := "fnExactCacheRead", unfollowed := true, recurses := true, apart := false, narrowed := true }
def FnExactCacheReadUptoSaid : Prop := fnExactCacheReadUptoRow.holds Try.pinned (OpenSpec.upto fnExactCacheReadSpec)

end Rows
end Go.Proofs.Ytejnieoneknbbaa
