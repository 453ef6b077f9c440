/-
  No cell of these rows narrows 'for every input' (looked for: loops, veiled, ifaces, maps, wideKeys, modest, calm, conditions, laid).
  DERIVED. THE GIVEN ROWS OF THIS SEAT. 6 by the template 'for every input the law returns true; each argument reads behind the call as it read before'; 0 by the template 'total and deterministic' (their statements: YtdbpjbmalinlbaaTotals.lean).
  GIVEN WITH THE SEED: the statements are not yours to turn. If you find one false, say at which input.
  Laid BY PROGRAM, IN A SANDBOX (cutbox-rows.mjs): the forced cells as the released guide's own fill.sh prints them over the translation b59e5610037edb59… (all of the seat's roots in one cut). By AI agents, Wed Nov 11 2026. No macro, syntax, notation, axiom, sorry.
-/
import Derived.Test.YtdbpjbmalinlbaaChecked
import GoSem.Claim
import GoSem.ClaimJoined
import GoSem.ClaimMapViews
import Derived.JoinedTies
import Derived.KernelRfl
namespace Go.Proofs.Ytdbpjbmalinlbaa
/- THE CELL 'sum', in the pinned program and in every row, IS THE sha256 OF THE DUMP (.gsa) THAT YtdbpjbmalinlbaaProg.lean LOADS. Nothing in Lean hashes anything: it is a label: what it is worth is what the hold of that sum in a sandbox is worth. -/
noncomputable def Try.pinned : Pinned := { name := "ytdbpjbmalinlbaa", sum := "b59e5610037edb59348e71121931457fbdf2f020df280bbea39e989d437693b7", checked := Try.checked }
namespace Rows
def none {H : Type} : Left H := { results := [], args := [] }

/-- 'manciplelaw21.RuleKeys': WHATEVER THE INPUT: true; the input reads as it did. -/
def ruleKeysSpec : ChangeSpec := { name := "ruleKeys", fn := fun _ => fun
  | [d1, d2, d3] => { results := [.lit (.bool true)], args := [d1, d2, d3] }
  | _ => none }
def ruleKeysRow : OpenClaim := { program := "ytdbpjbmalinlbaa", sum := "b59e5610037edb59348e71121931457fbdf2f020df280bbea39e989d437693b7", func := "manciple/manciplelaw21.RuleKeys", spec := "ruleKeys", unfollowed := true, recurses := true, plainKeys := false, apart := false }
def RuleKeysSaid : Prop := ruleKeysRow.holds Try.pinned (OpenSpec.ofChange ruleKeysSpec)

/-- ITS FALSE NEIGHBOUR: 'it returns false'. Refute it at one input. -/
def ruleKeysWrong : ChangeSpec := { name := "ruleKeys", fn := fun _ => fun
  | [d1, d2, d3] => { results := [.lit (.bool false)], args := [d1, d2, d3] }
  | _ => none }
def RuleKeysWrongFalsely : Prop := ruleKeysRow.holds Try.pinned (OpenSpec.ofChange ruleKeysWrong)

/-- 'manciplelaw21.RuleEnds': WHATEVER THE INPUT: true; the input reads as it did. -/
def ruleEndsSpec : ChangeSpec := { name := "ruleEnds", fn := fun _ => fun
  | [d1, d2, d3] => { results := [.lit (.bool true)], args := [d1, d2, d3] }
  | _ => none }
def ruleEndsRow : OpenClaim := { program := "ytdbpjbmalinlbaa", sum := "b59e5610037edb59348e71121931457fbdf2f020df280bbea39e989d437693b7", func := "manciple/manciplelaw21.RuleEnds", spec := "ruleEnds", unfollowed := true, recurses := true, plainKeys := false, apart := false }
def RuleEndsSaid : Prop := ruleEndsRow.holds Try.pinned (OpenSpec.ofChange ruleEndsSpec)

/-- ITS FALSE NEIGHBOUR: 'it returns false'. Refute it at one input. -/
def ruleEndsWrong : ChangeSpec := { name := "ruleEnds", fn := fun _ => fun
  | [d1, d2, d3] => { results := [.lit (.bool false)], args := [d1, d2, d3] }
  | _ => none }
def RuleEndsWrongFalsely : Prop := ruleEndsRow.holds Try.pinned (OpenSpec.ofChange ruleEndsWrong)

/-- 'manciplelaw21.RuleBounds': WHATEVER THE INPUT: true; the input reads as it did. -/
def ruleBoundsSpec : ChangeSpec := { name := "ruleBounds", fn := fun _ => fun
  | [d1, d2] => { results := [.lit (.bool true)], args := [d1, d2] }
  | _ => none }
def ruleBoundsRow : OpenClaim := { program := "ytdbpjbmalinlbaa", sum := "b59e5610037edb59348e71121931457fbdf2f020df280bbea39e989d437693b7", func := "manciple/manciplelaw21.RuleBounds", spec := "ruleBounds", unfollowed := true, recurses := true, plainKeys := false, apart := false }
def RuleBoundsSaid : Prop := ruleBoundsRow.holds Try.pinned (OpenSpec.ofChange ruleBoundsSpec)

/-- ITS FALSE NEIGHBOUR: 'it returns false'. Refute it at one input. -/
def ruleBoundsWrong : ChangeSpec := { name := "ruleBounds", fn := fun _ => fun
  | [d1, d2] => { results := [.lit (.bool false)], args := [d1, d2] }
  | _ => none }
def RuleBoundsWrongFalsely : Prop := ruleBoundsRow.holds Try.pinned (OpenSpec.ofChange ruleBoundsWrong)

/-- 'manciplelaw21.RuleErrs': WHATEVER THE INPUT: true; the input reads as it did. -/
def ruleErrsSpec : ChangeSpec := { name := "ruleErrs", fn := fun _ => fun
  | [d1, d2] => { results := [.lit (.bool true)], args := [d1, d2] }
  | _ => none }
def ruleErrsRow : OpenClaim := { program := "ytdbpjbmalinlbaa", sum := "b59e5610037edb59348e71121931457fbdf2f020df280bbea39e989d437693b7", func := "manciple/manciplelaw21.RuleErrs", spec := "ruleErrs", unfollowed := true, recurses := true, plainKeys := false, apart := false }
def RuleErrsSaid : Prop := ruleErrsRow.holds Try.pinned (OpenSpec.ofChange ruleErrsSpec)

/-- ITS FALSE NEIGHBOUR: 'it returns false'. Refute it at one input. -/
def ruleErrsWrong : ChangeSpec := { name := "ruleErrs", fn := fun _ => fun
  | [d1, d2] => { results := [.lit (.bool false)], args := [d1, d2] }
  | _ => none }
def RuleErrsWrongFalsely : Prop := ruleErrsRow.holds Try.pinned (OpenSpec.ofChange ruleErrsWrong)

/-- 'manciplelaw22.ModelOwn': WHATEVER THE INPUT: true; the input reads as it did. -/
def modelOwnSpec : ChangeSpec := { name := "modelOwn", fn := fun _ => fun
  | [d1, d2] => { results := [.lit (.bool true)], args := [d1, d2] }
  | _ => none }
def modelOwnRow : OpenClaim := { program := "ytdbpjbmalinlbaa", sum := "b59e5610037edb59348e71121931457fbdf2f020df280bbea39e989d437693b7", func := "manciple/manciplelaw22.ModelOwn", spec := "modelOwn", unfollowed := true, recurses := true, plainKeys := false, apart := false }
def ModelOwnSaid : Prop := modelOwnRow.holds Try.pinned (OpenSpec.ofChange modelOwnSpec)

/-- ITS FALSE NEIGHBOUR: 'it returns false'. Refute it at one input. -/
def modelOwnWrong : ChangeSpec := { name := "modelOwn", fn := fun _ => fun
  | [d1, d2] => { results := [.lit (.bool false)], args := [d1, d2] }
  | _ => none }
def ModelOwnWrongFalsely : Prop := modelOwnRow.holds Try.pinned (OpenSpec.ofChange modelOwnWrong)

/-- 'manciplelaw22.ModelTwice': WHATEVER THE INPUT: true; the input reads as it did. -/
def modelTwiceSpec : ChangeSpec := { name := "modelTwice", fn := fun _ => fun
  | [d1, d2] => { results := [.lit (.bool true)], args := [d1, d2] }
  | _ => none }
def modelTwiceRow : OpenClaim := { program := "ytdbpjbmalinlbaa", sum := "b59e5610037edb59348e71121931457fbdf2f020df280bbea39e989d437693b7", func := "manciple/manciplelaw22.ModelTwice", spec := "modelTwice", unfollowed := true, recurses := true, plainKeys := false, apart := false }
def ModelTwiceSaid : Prop := modelTwiceRow.holds Try.pinned (OpenSpec.ofChange modelTwiceSpec)

/-- ITS FALSE NEIGHBOUR: 'it returns false'. Refute it at one input. -/
def modelTwiceWrong : ChangeSpec := { name := "modelTwice", fn := fun _ => fun
  | [d1, d2] => { results := [.lit (.bool false)], args := [d1, d2] }
  | _ => none }
def ModelTwiceWrongFalsely : Prop := modelTwiceRow.holds Try.pinned (OpenSpec.ofChange modelTwiceWrong)

/- THE SECOND FORM. 'bulk': how many values and letters a reading holds, each counted each time it is reached (what is shared counts as often as it is met; a slice's spare places count too). A statement '..UptoSaid' is the law's where the arguments, and the package variables that the reading takes, are together of bulk at most 1048576: NARROWER than '..Said'. Prove '..Said' where nothing that the law and all that it calls make is longer than what came in: it says more and counts as full. Else prove '..UptoSaid'. A law counts once. -/
mutual
def uptoBulk {H : Type} : DataW H → Nat
  | .lit (.string bytes) => bytes.length + 1
  | .lit _ => 1
  | .nil => 1
  | .ptr d => uptoBulk d + 1
  | .slice elems spare => uptoBulkAll elems + uptoBulkAll spare + 1
  | .agg parts => uptoBulkAll parts + 1
  | .iface _ d => uptoBulk d + 1
  | .map entries => uptoBulkEntries entries + 1
  | .held _ => 1
def uptoBulkAll {H : Type} : List (DataW H) → Nat
  | [] => 0
  | d :: r => uptoBulk d + uptoBulkAll r
def uptoBulkEntries {H : Type} : List (Lit × DataW H) → Nat
  | [] => 0
  | x :: r => uptoBulkEntry x + uptoBulkEntries r
def uptoBulkEntry {H : Type} : Lit × DataW H → Nat
  | (.string bytes, d) => bytes.length + uptoBulk d + 1
  | (_, d) => uptoBulk d + 1
 end
def uptoSmall : (H : Type) → List (DataW H) → Bool := fun _ ds => decide (uptoBulkAll ds ≤ 1048576)
def OpenSpec.upto (s : _root_.Go.ChangeSpec) : _root_.Go.OpenSpec := { _root_.Go.OpenSpec.ofChange s with cond := some uptoSmall }

/-- 'manciplelaw21.RuleKeys', WHERE WHAT IT READS IS OF BULK AT MOST 1048576: true; the input reads as it did. -/
def ruleKeysUptoRow : OpenClaim := { program := "ytdbpjbmalinlbaa", sum := "b59e5610037edb59348e71121931457fbdf2f020df280bbea39e989d437693b7", func := "manciple/manciplelaw21.RuleKeys", spec := "ruleKeys", unfollowed := true, recurses := true, plainKeys := false, apart := false, narrowed := true }
def RuleKeysUptoSaid : Prop := ruleKeysUptoRow.holds Try.pinned (OpenSpec.upto ruleKeysSpec)

/-- 'manciplelaw21.RuleEnds', WHERE WHAT IT READS IS OF BULK AT MOST 1048576: true; the input reads as it did. -/
def ruleEndsUptoRow : OpenClaim := { program := "ytdbpjbmalinlbaa", sum := "b59e5610037edb59348e71121931457fbdf2f020df280bbea39e989d437693b7", func := "manciple/manciplelaw21.RuleEnds", spec := "ruleEnds", unfollowed := true, recurses := true, plainKeys := false, apart := false, narrowed := true }
def RuleEndsUptoSaid : Prop := ruleEndsUptoRow.holds Try.pinned (OpenSpec.upto ruleEndsSpec)

/-- 'manciplelaw21.RuleBounds', WHERE WHAT IT READS IS OF BULK AT MOST 1048576: true; the input reads as it did. -/
def ruleBoundsUptoRow : OpenClaim := { program := "ytdbpjbmalinlbaa", sum := "b59e5610037edb59348e71121931457fbdf2f020df280bbea39e989d437693b7", func := "manciple/manciplelaw21.RuleBounds", spec := "ruleBounds", unfollowed := true, recurses := true, plainKeys := false, apart := false, narrowed := true }
def RuleBoundsUptoSaid : Prop := ruleBoundsUptoRow.holds Try.pinned (OpenSpec.upto ruleBoundsSpec)

/-- 'manciplelaw21.RuleErrs', WHERE WHAT IT READS IS OF BULK AT MOST 1048576: true; the input reads as it did. -/
def ruleErrsUptoRow : OpenClaim := { program := "ytdbpjbmalinlbaa", sum := "b59e5610037edb59348e71121931457fbdf2f020df280bbea39e989d437693b7", func := "manciple/manciplelaw21.RuleErrs", spec := "ruleErrs", unfollowed := true, recurses := true, plainKeys := false, apart := false, narrowed := true }
def RuleErrsUptoSaid : Prop := ruleErrsUptoRow.holds Try.pinned (OpenSpec.upto ruleErrsSpec)

/-- 'manciplelaw22.ModelOwn', WHERE WHAT IT READS IS OF BULK AT MOST 1048576: true; the input reads as it did. -/
def modelOwnUptoRow : OpenClaim := { program := "ytdbpjbmalinlbaa", sum := "b59e5610037edb59348e71121931457fbdf2f020df280bbea39e989d437693b7", func := "manciple/manciplelaw22.ModelOwn", spec := "modelOwn", unfollowed := true, recurses := true, plainKeys := false, apart := false, narrowed := true }
def ModelOwnUptoSaid : Prop := modelOwnUptoRow.holds Try.pinned (OpenSpec.upto modelOwnSpec)

/-- 'manciplelaw22.ModelTwice', WHERE WHAT IT READS IS OF BULK AT MOST 1048576: true; the input reads as it did. -/
def modelTwiceUptoRow : OpenClaim := { program := "ytdbpjbmalinlbaa", sum := "b59e5610037edb59348e71121931457fbdf2f020df280bbea39e989d437693b7", func := "manciple/manciplelaw22.ModelTwice", spec := "modelTwice", unfollowed := true, recurses := true, plainKeys := false, apart := false, narrowed := true }
def ModelTwiceUptoSaid : Prop := modelTwiceUptoRow.holds Try.pinned (OpenSpec.upto modelTwiceSpec)

end Rows
end Go.Proofs.Ytdbpjbmalinlbaa
