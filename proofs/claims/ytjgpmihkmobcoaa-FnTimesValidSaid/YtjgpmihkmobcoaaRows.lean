/-
  No cell of these rows narrows 'for every input' (looked for: loops, veiled, ifaces, maps, wideKeys, modest, calm, conditions, laid).
  DERIVED. THE GIVEN ROWS OF THIS SEAT. 7 by the template 'for every input the law returns true; each argument reads behind the call as it read before'; 0 by the template 'total and deterministic' (their statements: YtjgpmihkmobcoaaTotals.lean).
  GIVEN WITH THE SEED: the statements are not yours to turn. If you find one false, say at which input.
  Laid BY PROGRAM, IN A SANDBOX (cutbox-rows.mjs): the forced cells as the released guide's own fill.sh prints them over the translation dba0174bf03d8e42… (all of the seat's roots in one cut). By AI agents, Wed Nov 11 2026. No macro, syntax, notation, axiom, sorry.
-/
import Derived.Test.YtjgpmihkmobcoaaChecked
import GoSem.Claim
import GoSem.ClaimJoined
import GoSem.ClaimMapViews
import Derived.JoinedTies
import Derived.KernelRfl
namespace Go.Proofs.Ytjgpmihkmobcoaa
/- THE CELL 'sum', in the pinned program and in every row, IS THE sha256 OF THE DUMP (.gsa) THAT YtjgpmihkmobcoaaProg.lean LOADS. Nothing in Lean hashes anything: it is a label: what it is worth is what the hold of that sum in a sandbox is worth. -/
noncomputable def Try.pinned : Pinned := { name := "ytjgpmihkmobcoaa", sum := "dba0174bf03d8e42390473ff6bc9d8dcf8e0de5ca9b32f6cd7954b0cc61651e2", checked := Try.checked }
namespace Rows
def none {H : Type} : Left H := { results := [], args := [] }

/-- 'laws.FnExactTimesValid': WHATEVER THE INPUT: true; the input reads as it did. -/
def fnExactTimesValidSpec : ChangeSpec := { name := "fnExactTimesValid", fn := fun _ => fun
  | [d] => { results := [.lit (.bool true)], args := [d] }
  | _ => none }
def fnExactTimesValidRow : OpenClaim := { program := "ytjgpmihkmobcoaa", sum := "dba0174bf03d8e42390473ff6bc9d8dcf8e0de5ca9b32f6cd7954b0cc61651e2", func := "loop.example/blockstack/laws.FnExactTimesValid", spec := "fnExactTimesValid", apart := false }
def FnExactTimesValidSaid : Prop := fnExactTimesValidRow.holds Try.pinned (OpenSpec.ofChange fnExactTimesValidSpec)

/-- ITS FALSE NEIGHBOUR: 'it returns false'. Refute it at one input. -/
def fnExactTimesValidWrong : ChangeSpec := { name := "fnExactTimesValid", fn := fun _ => fun
  | [d] => { results := [.lit (.bool false)], args := [d] }
  | _ => none }
def FnExactTimesValidWrongFalsely : Prop := fnExactTimesValidRow.holds Try.pinned (OpenSpec.ofChange fnExactTimesValidWrong)

/-- 'laws.FnTimesValid': WHATEVER THE INPUT: true; the input reads as it did. -/
def fnTimesValidSpec : ChangeSpec := { name := "fnTimesValid", fn := fun _ => fun
  | [d] => { results := [.lit (.bool true)], args := [d] }
  | _ => none }
def fnTimesValidRow : OpenClaim := { program := "ytjgpmihkmobcoaa", sum := "dba0174bf03d8e42390473ff6bc9d8dcf8e0de5ca9b32f6cd7954b0cc61651e2", func := "loop.example/blockstack/laws.FnTimesValid", spec := "fnTimesValid", apart := false }
def FnTimesValidSaid : Prop := fnTimesValidRow.holds Try.pinned (OpenSpec.ofChange fnTimesValidSpec)

/-- ITS FALSE NEIGHBOUR: 'it returns false'. Refute it at one input. -/
def fnTimesValidWrong : ChangeSpec := { name := "fnTimesValid", fn := fun _ => fun
  | [d] => { results := [.lit (.bool false)], args := [d] }
  | _ => none }
def FnTimesValidWrongFalsely : Prop := fnTimesValidRow.holds Try.pinned (OpenSpec.ofChange fnTimesValidWrong)

/-- 'laws.FnExactLongestWait': WHATEVER THE INPUT: true; the input reads as it did. -/
def fnExactLongestWaitSpec : ChangeSpec := { name := "fnExactLongestWait", fn := fun _ => fun
  | [d1, d2, d3] => { results := [.lit (.bool true)], args := [d1, d2, d3] }
  | _ => none }
def fnExactLongestWaitRow : OpenClaim := { program := "ytjgpmihkmobcoaa", sum := "dba0174bf03d8e42390473ff6bc9d8dcf8e0de5ca9b32f6cd7954b0cc61651e2", func := "loop.example/blockstack/laws.FnExactLongestWait", spec := "fnExactLongestWait", apart := false }
def FnExactLongestWaitSaid : Prop := fnExactLongestWaitRow.holds Try.pinned (OpenSpec.ofChange fnExactLongestWaitSpec)

/-- ITS FALSE NEIGHBOUR: 'it returns false'. Refute it at one input. -/
def fnExactLongestWaitWrong : ChangeSpec := { name := "fnExactLongestWait", fn := fun _ => fun
  | [d1, d2, d3] => { results := [.lit (.bool false)], args := [d1, d2, d3] }
  | _ => none }
def FnExactLongestWaitWrongFalsely : Prop := fnExactLongestWaitRow.holds Try.pinned (OpenSpec.ofChange fnExactLongestWaitWrong)

/-- 'laws.FnExactSignalTimes': WHATEVER THE INPUT: true; the input reads as it did. -/
def fnExactSignalTimesSpec : ChangeSpec := { name := "fnExactSignalTimes", fn := fun _ => fun
  | [d1, d2, d3] => { results := [.lit (.bool true)], args := [d1, d2, d3] }
  | _ => none }
def fnExactSignalTimesRow : OpenClaim := { program := "ytjgpmihkmobcoaa", sum := "dba0174bf03d8e42390473ff6bc9d8dcf8e0de5ca9b32f6cd7954b0cc61651e2", func := "loop.example/blockstack/laws.FnExactSignalTimes", spec := "fnExactSignalTimes", apart := false }
def FnExactSignalTimesSaid : Prop := fnExactSignalTimesRow.holds Try.pinned (OpenSpec.ofChange fnExactSignalTimesSpec)

/-- ITS FALSE NEIGHBOUR: 'it returns false'. Refute it at one input. -/
def fnExactSignalTimesWrong : ChangeSpec := { name := "fnExactSignalTimes", fn := fun _ => fun
  | [d1, d2, d3] => { results := [.lit (.bool false)], args := [d1, d2, d3] }
  | _ => none }
def FnExactSignalTimesWrongFalsely : Prop := fnExactSignalTimesRow.holds Try.pinned (OpenSpec.ofChange fnExactSignalTimesWrong)

/-- 'laws.FnLongestWait': WHATEVER THE INPUT: true; the input reads as it did. -/
def fnLongestWaitSpec : ChangeSpec := { name := "fnLongestWait", fn := fun _ => fun
  | [d] => { results := [.lit (.bool true)], args := [d] }
  | _ => none }
def fnLongestWaitRow : OpenClaim := { program := "ytjgpmihkmobcoaa", sum := "dba0174bf03d8e42390473ff6bc9d8dcf8e0de5ca9b32f6cd7954b0cc61651e2", func := "loop.example/blockstack/laws.FnLongestWait", spec := "fnLongestWait", apart := false }
def FnLongestWaitSaid : Prop := fnLongestWaitRow.holds Try.pinned (OpenSpec.ofChange fnLongestWaitSpec)

/-- ITS FALSE NEIGHBOUR: 'it returns false'. Refute it at one input. -/
def fnLongestWaitWrong : ChangeSpec := { name := "fnLongestWait", fn := fun _ => fun
  | [d] => { results := [.lit (.bool false)], args := [d] }
  | _ => none }
def FnLongestWaitWrongFalsely : Prop := fnLongestWaitRow.holds Try.pinned (OpenSpec.ofChange fnLongestWaitWrong)

/-- 'laws.FnSignalBurst': WHATEVER THE INPUT: true; the input reads as it did. -/
def fnSignalBurstSpec : ChangeSpec := { name := "fnSignalBurst", fn := fun _ => fun
  | [d] => { results := [.lit (.bool true)], args := [d] }
  | _ => none }
def fnSignalBurstRow : OpenClaim := { program := "ytjgpmihkmobcoaa", sum := "dba0174bf03d8e42390473ff6bc9d8dcf8e0de5ca9b32f6cd7954b0cc61651e2", func := "loop.example/blockstack/laws.FnSignalBurst", spec := "fnSignalBurst", apart := false }
def FnSignalBurstSaid : Prop := fnSignalBurstRow.holds Try.pinned (OpenSpec.ofChange fnSignalBurstSpec)

/-- ITS FALSE NEIGHBOUR: 'it returns false'. Refute it at one input. -/
def fnSignalBurstWrong : ChangeSpec := { name := "fnSignalBurst", fn := fun _ => fun
  | [d] => { results := [.lit (.bool false)], args := [d] }
  | _ => none }
def FnSignalBurstWrongFalsely : Prop := fnSignalBurstRow.holds Try.pinned (OpenSpec.ofChange fnSignalBurstWrong)

/-- 'laws.FnSignalTimes': WHATEVER THE INPUT: true; the input reads as it did. -/
def fnSignalTimesSpec : ChangeSpec := { name := "fnSignalTimes", fn := fun _ => fun
  | [d] => { results := [.lit (.bool true)], args := [d] }
  | _ => none }
def fnSignalTimesRow : OpenClaim := { program := "ytjgpmihkmobcoaa", sum := "dba0174bf03d8e42390473ff6bc9d8dcf8e0de5ca9b32f6cd7954b0cc61651e2", func := "loop.example/blockstack/laws.FnSignalTimes", spec := "fnSignalTimes", apart := false }
def FnSignalTimesSaid : Prop := fnSignalTimesRow.holds Try.pinned (OpenSpec.ofChange fnSignalTimesSpec)

/-- ITS FALSE NEIGHBOUR: 'it returns false'. Refute it at one input. -/
def fnSignalTimesWrong : ChangeSpec := { name := "fnSignalTimes", fn := fun _ => fun
  | [d] => { results := [.lit (.bool false)], args := [d] }
  | _ => none }
def FnSignalTimesWrongFalsely : Prop := fnSignalTimesRow.holds Try.pinned (OpenSpec.ofChange fnSignalTimesWrong)

/- THE SECOND FORM. 'bulk': how many values and letters a reading holds, each counted each time it is reached (what is shared counts as often as it is met; a slice's spare places count too). A statement '..UptoSaid' is the law's where the arguments, and the package variables that the reading takes, are together of bulk at most 1048576: NARROWER than '..Said'. Prove '..Said' where nothing that the law and all that it calls make is longer than what came in: it says more and counts as full. Else prove '..UptoSaid'. A law counts once. -/
mutual
def uptoBulk {H : Type} : DataW H → Nat
  | .lit (.string bytes) => bytes.length + 1
  | .lit _ => 1
  | .nil => 1
  | .ptr d => uptoBulk d + 1
  | .slice elems spare => uptoBulkAll elems + uptoBulkAll spare + 1
  | .agg parts => uptoBulkAll parts + 1
  | .iface _ d => uptoBulk d + 1
  | .map entries => uptoBulkEntries entries + 1
  | .held _ => 1
def uptoBulkAll {H : Type} : List (DataW H) → Nat
  | [] => 0
  | d :: r => uptoBulk d + uptoBulkAll r
def uptoBulkEntries {H : Type} : List (Lit × DataW H) → Nat
  | [] => 0
  | x :: r => uptoBulkEntry x + uptoBulkEntries r
def uptoBulkEntry {H : Type} : Lit × DataW H → Nat
  | (.string bytes, d) => bytes.length + uptoBulk d + 1
  | (_, d) => uptoBulk d + 1
 end
def uptoSmall : (H : Type) → List (DataW H) → Bool := fun _ ds => decide (uptoBulkAll ds ≤ 1048576)
def OpenSpec.upto (s : _root_.Go.ChangeSpec) : _root_.Go.OpenSpec := { _root_.Go.OpenSpec.ofChange s with cond := some uptoSmall }

/-- 'laws.FnExactTimesValid', WHERE WHAT IT READS IS OF BULK AT MOST 1048576: true; the input reads as it did. -/
def fnExactTimesValidUptoRow : OpenClaim := { program := "ytjgpmihkmobcoaa", sum := "dba0174bf03d8e42390473ff6bc9d8dcf8e0de5ca9b32f6cd7954b0cc61651e2", func := "loop.example/blockstack/laws.FnExactTimesValid", spec := "fnExactTimesValid", apart := false, narrowed := true }
def FnExactTimesValidUptoSaid : Prop := fnExactTimesValidUptoRow.holds Try.pinned (OpenSpec.upto fnExactTimesValidSpec)

/-- 'laws.FnTimesValid', WHERE WHAT IT READS IS OF BULK AT MOST 1048576: true; the input reads as it did. -/
def fnTimesValidUptoRow : OpenClaim := { program := "ytjgpmihkmobcoaa", sum := "dba0174bf03d8e42390473ff6bc9d8dcf8e0de5ca9b32f6cd7954b0cc61651e2", func := "loop.example/blockstack/laws.FnTimesValid", spec := "fnTimesValid", apart := false, narrowed := true }
def FnTimesValidUptoSaid : Prop := fnTimesValidUptoRow.holds Try.pinned (OpenSpec.upto fnTimesValidSpec)

/-- 'laws.FnExactLongestWait', WHERE WHAT IT READS IS OF BULK AT MOST 1048576: true; the input reads as it did. -/
def fnExactLongestWaitUptoRow : OpenClaim := { program := "ytjgpmihkmobcoaa", sum := "dba0174bf03d8e42390473ff6bc9d8dcf8e0de5ca9b32f6cd7954b0cc61651e2", func := "loop.example/blockstack/laws.FnExactLongestWait", spec := "fnExactLongestWait", apart := false, narrowed := true }
def FnExactLongestWaitUptoSaid : Prop := fnExactLongestWaitUptoRow.holds Try.pinned (OpenSpec.upto fnExactLongestWaitSpec)

/-- 'laws.FnExactSignalTimes', WHERE WHAT IT READS IS OF BULK AT MOST 1048576: true; the input reads as it did. -/
def fnExactSignalTimesUptoRow : OpenClaim := { program := "ytjgpmihkmobcoaa", sum := "dba0174bf03d8e42390473ff6bc9d8dcf8e0de5ca9b32f6cd7954b0cc61651e2", func := "loop.example/blockstack/laws.FnExactSignalTimes", spec := "fnExactSignalTimes", apart := false, narrowed := true }
def FnExactSignalTimesUptoSaid : Prop := fnExactSignalTimesUptoRow.holds Try.pinned (OpenSpec.upto fnExactSignalTimesSpec)

/-- 'laws.FnLongestWait', WHERE WHAT IT READS IS OF BULK AT MOST 1048576: true; the input reads as it did. -/
def fnLongestWaitUptoRow : OpenClaim := { program := "ytjgpmihkmobcoaa", sum := "dba0174bf03d8e42390473ff6bc9d8dcf8e0de5ca9b32f6cd7954b0cc61651e2", func := "loop.example/blockstack/laws.FnLongestWait", spec := "fnLongestWait", apart := false, narrowed := true }
def FnLongestWaitUptoSaid : Prop := fnLongestWaitUptoRow.holds Try.pinned (OpenSpec.upto fnLongestWaitSpec)

/-- 'laws.FnSignalBurst', WHERE WHAT IT READS IS OF BULK AT MOST 1048576: true; the input reads as it did. -/
def fnSignalBurstUptoRow : OpenClaim := { program := "ytjgpmihkmobcoaa", sum := "dba0174bf03d8e42390473ff6bc9d8dcf8e0de5ca9b32f6cd7954b0cc61651e2", func := "loop.example/blockstack/laws.FnSignalBurst", spec := "fnSignalBurst", apart := false, narrowed := true }
def FnSignalBurstUptoSaid : Prop := fnSignalBurstUptoRow.holds Try.pinned (OpenSpec.upto fnSignalBurstSpec)

/-- 'laws.FnSignalTimes', WHERE WHAT IT READS IS OF BULK AT MOST 1048576: true; the input reads as it did. -/
def fnSignalTimesUptoRow : OpenClaim := { program := "ytjgpmihkmobcoaa", sum := "dba0174bf03d8e42390473ff6bc9d8dcf8e0de5ca9b32f6cd7954b0cc61651e2", func := "loop.example/blockstack/laws.FnSignalTimes", spec := "fnSignalTimes", apart := false, narrowed := true }
def FnSignalTimesUptoSaid : Prop := fnSignalTimesUptoRow.holds Try.pinned (OpenSpec.upto fnSignalTimesSpec)

end Rows
end Go.Proofs.Ytjgpmihkmobcoaa
