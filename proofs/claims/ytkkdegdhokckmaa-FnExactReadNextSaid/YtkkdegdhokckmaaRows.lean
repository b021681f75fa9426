/-
  No cell of these rows narrows 'for every input' (looked for: loops, veiled, ifaces, maps, wideKeys, modest, calm, conditions, laid).
  DERIVED. THE GIVEN ROWS OF THIS SEAT. 3 by the template 'for every input the law returns true; each argument reads behind the call as it read before'; 0 by the template 'total and deterministic' (their statements: YtkkdegdhokckmaaTotals.lean).
  GIVEN WITH THE SEED: the statements are not yours to turn. If you find one false, say at which input.
  Laid BY PROGRAM, IN A SANDBOX (cutbox-rows.mjs): the forced cells as the released guide's own fill.sh prints them over the translation 44e9146ef7872f47… (all of the seat's roots in one cut). By AI agents, Wed Nov 11 2026. No macro, syntax, notation, axiom, sorry.
-/
import Derived.Test.YtkkdegdhokckmaaChecked
import GoSem.Claim
import GoSem.ClaimJoined
import GoSem.ClaimMapViews
import Derived.JoinedTies
import Derived.KernelRfl
namespace Go.Proofs.Ytkkdegdhokckmaa
/- THE CELL 'sum', in the pinned program and in every row, IS THE sha256 OF THE DUMP (.gsa) THAT YtkkdegdhokckmaaProg.lean LOADS. Nothing in Lean hashes anything: it is a label: what it is worth is what the hold of that sum in a sandbox is worth. -/
noncomputable def Try.pinned : Pinned := { name := "ytkkdegdhokckmaa", sum := "44e9146ef7872f4719fcae8a24d275cf03bf09168ceba294bbbb9816e76872e0", checked := Try.checked }
namespace Rows
def none {H : Type} : Left H := { results := [], args := [] }

/-- 'laws.FnExactAheadValid': WHATEVER THE INPUT: true; the input reads as it did. -/
def fnExactAheadValidSpec : ChangeSpec := { name := "fnExactAheadValid", fn := fun _ => fun
  | [d] => { results := [.lit (.bool true)], args := [d] }
  | _ => none }
def fnExactAheadValidRow : OpenClaim := { program := "ytkkdegdhokckmaa", sum := "44e9146ef7872f4719fcae8a24d275cf03bf09168ceba294bbbb9816e76872e0", func := "loop.example/blockstack/laws.FnExactAheadValid", spec := "fnExactAheadValid", apart := false }
def FnExactAheadValidSaid : Prop := fnExactAheadValidRow.holds Try.pinned (OpenSpec.ofChange fnExactAheadValidSpec)

/-- ITS FALSE NEIGHBOUR: 'it returns false'. Refute it at one input. -/
def fnExactAheadValidWrong : ChangeSpec := { name := "fnExactAheadValid", fn := fun _ => fun
  | [d] => { results := [.lit (.bool false)], args := [d] }
  | _ => none }
def FnExactAheadValidWrongFalsely : Prop := fnExactAheadValidRow.holds Try.pinned (OpenSpec.ofChange fnExactAheadValidWrong)

/-- 'laws.FnExactReadNext': WHATEVER THE INPUT: true; the input reads as it did. -/
def fnExactReadNextSpec : ChangeSpec := { name := "fnExactReadNext", fn := fun _ => fun
  | [d1, d2, d3] => { results := [.lit (.bool true)], args := [d1, d2, d3] }
  | _ => none }
def fnExactReadNextRow : OpenClaim := { program := "ytkkdegdhokckmaa", sum := "44e9146ef7872f4719fcae8a24d275cf03bf09168ceba294bbbb9816e76872e0", func := "loop.example/blockstack/laws.FnExactReadNext", spec := "fnExactReadNext", apart := false }
def FnExactReadNextSaid : Prop := fnExactReadNextRow.holds Try.pinned (OpenSpec.ofChange fnExactReadNextSpec)

/-- ITS FALSE NEIGHBOUR: 'it returns false'. Refute it at one input. -/
def fnExactReadNextWrong : ChangeSpec := { name := "fnExactReadNext", fn := fun _ => fun
  | [d1, d2, d3] => { results := [.lit (.bool false)], args := [d1, d2, d3] }
  | _ => none }
def FnExactReadNextWrongFalsely : Prop := fnExactReadNextRow.holds Try.pinned (OpenSpec.ofChange fnExactReadNextWrong)

/-- 'laws.FnAheadValid': WHATEVER THE INPUT: true; the input reads as it did. -/
def fnAheadValidSpec : ChangeSpec := { name := "fnAheadValid", fn := fun _ => fun
  | [d] => { results := [.lit (.bool true)], args := [d] }
  | _ => none }
def fnAheadValidRow : OpenClaim := { program := "ytkkdegdhokckmaa", sum := "44e9146ef7872f4719fcae8a24d275cf03bf09168ceba294bbbb9816e76872e0", func := "loop.example/blockstack/laws.FnAheadValid", spec := "fnAheadValid", apart := false }
def FnAheadValidSaid : Prop := fnAheadValidRow.holds Try.pinned (OpenSpec.ofChange fnAheadValidSpec)

/-- ITS FALSE NEIGHBOUR: 'it returns false'. Refute it at one input. -/
def fnAheadValidWrong : ChangeSpec := { name := "fnAheadValid", fn := fun _ => fun
  | [d] => { results := [.lit (.bool false)], args := [d] }
  | _ => none }
def FnAheadValidWrongFalsely : Prop := fnAheadValidRow.holds Try.pinned (OpenSpec.ofChange fnAheadValidWrong)

/- THE SECOND FORM. 'bulk': how many values and letters a reading holds, each counted each time it is reached (what is shared counts as often as it is met; a slice's spare places count too). A statement '..UptoSaid' is the law's where the arguments, and the package variables that the reading takes, are together of bulk at most 1048576: NARROWER than '..Said'. Prove '..Said' where nothing that the law and all that it calls make is longer than what came in: it says more and counts as full. Else prove '..UptoSaid'. A law counts once. -/
mutual
def uptoBulk {H : Type} : DataW H → Nat
  | .lit (.string bytes) => bytes.length + 1
  | .lit _ => 1
  | .nil => 1
  | .ptr d => uptoBulk d + 1
  | .slice elems spare => uptoBulkAll elems + uptoBulkAll spare + 1
  | .agg parts => uptoBulkAll parts + 1
  | .iface _ d => uptoBulk d + 1
  | .map entries => uptoBulkEntries entries + 1
  | .held _ => 1
def uptoBulkAll {H : Type} : List (DataW H) → Nat
  | [] => 0
  | d :: r => uptoBulk d + uptoBulkAll r
def uptoBulkEntries {H : Type} : List (Lit × DataW H) → Nat
  | [] => 0
  | x :: r => uptoBulkEntry x + uptoBulkEntries r
def uptoBulkEntry {H : Type} : Lit × DataW H → Nat
  | (.string bytes, d) => bytes.length + uptoBulk d + 1
  | (_, d) => uptoBulk d + 1
 end
def uptoSmall : (H : Type) → List (DataW H) → Bool := fun _ ds => decide (uptoBulkAll ds ≤ 1048576)
def OpenSpec.upto (s : _root_.Go.ChangeSpec) : _root_.Go.OpenSpec := { _root_.Go.OpenSpec.ofChange s with cond := some uptoSmall }

/-- 'laws.FnExactAheadValid', WHERE WHAT IT READS IS OF BULK AT MOST 1048576: true; the input reads as it did. -/
def fnExactAheadValidUptoRow : OpenClaim := { program := "ytkkdegdhokckmaa", sum := "44e9146ef7872f4719fcae8a24d275cf03bf09168ceba294bbbb9816e76872e0", func := "loop.example/blockstack/laws.FnExactAheadValid", spec := "fnExactAheadValid", apart := false, narrowed := true }
def FnExactAheadValidUptoSaid : Prop := fnExactAheadValidUptoRow.holds Try.pinned (OpenSpec.upto fnExactAheadValidSpec)

/-- 'laws.FnExactReadNext', WHERE WHAT IT READS IS OF BULK AT MOST 1048576: true; the input reads as it did. -/
def fnExactReadNextUptoRow : OpenClaim := { program := "ytkkdegdhokckmaa", sum := "44e9146ef7872f4719fcae8a24d275cf03bf09168ceba294bbbb9816e76872e0", func := "loop.example/blockstack/laws.FnExactReadNext", spec := "fnExactReadNext", apart := false, narrowed := true }
def FnExactReadNextUptoSaid : Prop := fnExactReadNextUptoRow.holds Try.pinned (OpenSpec.upto fnExactReadNextSpec)

/-- 'laws.FnAheadValid', WHERE WHAT IT READS IS OF BULK AT MOST 1048576: true; the input reads as it did. -/
def fnAheadValidUptoRow : OpenClaim := { program := "ytkkdegdhokckmaa", sum := "44e9146ef7872f4719fcae8a24d275cf03bf09168ceba294bbbb9816e76872e0", func := "loop.example/blockstack/laws.FnAheadValid", spec := "fnAheadValid", apart := false, narrowed := true }
def FnAheadValidUptoSaid : Prop := fnAheadValidUptoRow.holds Try.pinned (OpenSpec.upto fnAheadValidSpec)

end Rows
end Go.Proofs.Ytkkdegdhokckmaa
