/-
  No cell of these rows narrows 'for every input' (looked for: loops, veiled, ifaces, maps, wideKeys, modest, calm, conditions, laid).
  DERIVED. THE GIVEN ROWS OF THIS SEAT. 11 by the template 'for every input the law returns true; each argument reads behind the call as it read before'; 0 by the template 'total and deterministic' (their statements: YtilknhackmccpaaTotals.lean).
  GIVEN WITH THE SEED: the statements are not yours to turn. If you find one false, say at which input.
  Laid BY PROGRAM, IN A SANDBOX (cutbox-rows.mjs): the forced cells as the released guide's own fill.sh prints them over the translation 3fbdfbeeaa636e70… (all of the seat's roots in one cut). By AI agents, Wed Nov 11 2026. No macro, syntax, notation, axiom, sorry.
-/
import Derived.Test.YtilknhackmccpaaChecked
import GoSem.Claim
import GoSem.ClaimJoined
import GoSem.ClaimMapViews
import Derived.JoinedTies
import Derived.KernelRfl
namespace Go.Proofs.Ytilknhackmccpaa
/- THE CELL 'sum', in the pinned program and in every row, IS THE sha256 OF THE DUMP (.gsa) THAT YtilknhackmccpaaProg.lean LOADS. Nothing in Lean hashes anything: it is a label: what it is worth is what the hold of that sum in a sandbox is worth. -/
noncomputable def Try.pinned : Pinned := { name := "ytilknhackmccpaa", sum := "3fbdfbeeaa636e704a80c59e8b171c1501710ab9a51c53ca5cde81d62b073db6", checked := Try.checked }
namespace Rows
def none {H : Type} : Left H := { results := [], args := [] }

/-- 'manciplelaw14.KnotFinds': WHATEVER THE INPUT: true; the input reads as it did. -/
def knotFindsSpec : ChangeSpec := { name := "knotFinds", fn := fun _ => fun
  | [d1, d2, d3] => { results := [.lit (.bool true)], args := [d1, d2, d3] }
  | _ => none }
def knotFindsRow : OpenClaim := { program := "ytilknhackmccpaa", sum := "3fbdfbeeaa636e704a80c59e8b171c1501710ab9a51c53ca5cde81d62b073db6", func := "manciple/manciplelaw14.KnotFinds", spec := "knotFinds", unfollowed := true, recurses := true, plainKeys := false, apart := false }
def KnotFindsSaid : Prop := knotFindsRow.holds Try.pinned (OpenSpec.ofChange knotFindsSpec)

/-- ITS FALSE NEIGHBOUR: 'it returns false'. Refute it at one input. -/
def knotFindsWrong : ChangeSpec := { name := "knotFinds", fn := fun _ => fun
  | [d1, d2, d3] => { results := [.lit (.bool false)], args := [d1, d2, d3] }
  | _ => none }
def KnotFindsWrongFalsely : Prop := knotFindsRow.holds Try.pinned (OpenSpec.ofChange knotFindsWrong)

/-- 'manciplelaw14.KnotRings': WHATEVER THE INPUT: true; the input reads as it did. -/
def knotRingsSpec : ChangeSpec := { name := "knotRings", fn := fun _ => fun
  | [d1, d2] => { results := [.lit (.bool true)], args := [d1, d2] }
  | _ => none }
def knotRingsRow : OpenClaim := { program := "ytilknhackmccpaa", sum := "3fbdfbeeaa636e704a80c59e8b171c1501710ab9a51c53ca5cde81d62b073db6", func := "manciple/manciplelaw14.KnotRings", spec := "knotRings", unfollowed := true, recurses := true, plainKeys := false, apart := false }
def KnotRingsSaid : Prop := knotRingsRow.holds Try.pinned (OpenSpec.ofChange knotRingsSpec)

/-- ITS FALSE NEIGHBOUR: 'it returns false'. Refute it at one input. -/
def knotRingsWrong : ChangeSpec := { name := "knotRings", fn := fun _ => fun
  | [d1, d2] => { results := [.lit (.bool false)], args := [d1, d2] }
  | _ => none }
def KnotRingsWrongFalsely : Prop := knotRingsRow.holds Try.pinned (OpenSpec.ofChange knotRingsWrong)

/-- 'manciplelaw14.KnotNone': WHATEVER THE INPUT: true; the input reads as it did. -/
def knotNoneSpec : ChangeSpec := { name := "knotNone", fn := fun _ => fun
  | [d1, d2] => { results := [.lit (.bool true)], args := [d1, d2] }
  | _ => none }
def knotNoneRow : OpenClaim := { program := "ytilknhackmccpaa", sum := "3fbdfbeeaa636e704a80c59e8b171c1501710ab9a51c53ca5cde81d62b073db6", func := "manciple/manciplelaw14.KnotNone", spec := "knotNone", unfollowed := true, recurses := true, plainKeys := false, apart := false }
def KnotNoneSaid : Prop := knotNoneRow.holds Try.pinned (OpenSpec.ofChange knotNoneSpec)

/-- ITS FALSE NEIGHBOUR: 'it returns false'. Refute it at one input. -/
def knotNoneWrong : ChangeSpec := { name := "knotNone", fn := fun _ => fun
  | [d1, d2] => { results := [.lit (.bool false)], args := [d1, d2] }
  | _ => none }
def KnotNoneWrongFalsely : Prop := knotNoneRow.holds Try.pinned (OpenSpec.ofChange knotNoneWrong)

/-- 'manciplelaw14.KnotVictims': WHATEVER THE INPUT: true; the input reads as it did. -/
def knotVictimsSpec : ChangeSpec := { name := "knotVictims", fn := fun _ => fun
  | [d1, d2] => { results := [.lit (.bool true)], args := [d1, d2] }
  | _ => none }
def knotVictimsRow : OpenClaim := { program := "ytilknhackmccpaa", sum := "3fbdfbeeaa636e704a80c59e8b171c1501710ab9a51c53ca5cde81d62b073db6", func := "manciple/manciplelaw14.KnotVictims", spec := "knotVictims", unfollowed := true, recurses := true, plainKeys := false, apart := false }
def KnotVictimsSaid : Prop := knotVictimsRow.holds Try.pinned (OpenSpec.ofChange knotVictimsSpec)

/-- ITS FALSE NEIGHBOUR: 'it returns false'. Refute it at one input. -/
def knotVictimsWrong : ChangeSpec := { name := "knotVictims", fn := fun _ => fun
  | [d1, d2] => { results := [.lit (.bool false)], args := [d1, d2] }
  | _ => none }
def KnotVictimsWrongFalsely : Prop := knotVictimsRow.holds Try.pinned (OpenSpec.ofChange knotVictimsWrong)

/-- 'manciplelaw14.KnotMore': WHATEVER THE INPUT: true; the input reads as it did. -/
def knotMoreSpec : ChangeSpec := { name := "knotMore", fn := fun _ => fun
  | [d1, d2, d3] => { results := [.lit (.bool true)], args := [d1, d2, d3] }
  | _ => none }
def knotMoreRow : OpenClaim := { program := "ytilknhackmccpaa", sum := "3fbdfbeeaa636e704a80c59e8b171c1501710ab9a51c53ca5cde81d62b073db6", func := "manciple/manciplelaw14.KnotMore", spec := "knotMore", unfollowed := true, recurses := true, plainKeys := false, apart := false }
def KnotMoreSaid : Prop := knotMoreRow.holds Try.pinned (OpenSpec.ofChange knotMoreSpec)

/-- ITS FALSE NEIGHBOUR: 'it returns false'. Refute it at one input. -/
def knotMoreWrong : ChangeSpec := { name := "knotMore", fn := fun _ => fun
  | [d1, d2, d3] => { results := [.lit (.bool false)], args := [d1, d2, d3] }
  | _ => none }
def KnotMoreWrongFalsely : Prop := knotMoreRow.holds Try.pinned (OpenSpec.ofChange knotMoreWrong)

/-- 'manciplelaw13.LockFirst': WHATEVER THE INPUT: true; the input reads as it did. -/
def lockFirstSpec : ChangeSpec := { name := "lockFirst", fn := fun _ => fun
  | [d1, d2] => { results := [.lit (.bool true)], args := [d1, d2] }
  | _ => none }
def lockFirstRow : OpenClaim := { program := "ytilknhackmccpaa", sum := "3fbdfbeeaa636e704a80c59e8b171c1501710ab9a51c53ca5cde81d62b073db6", func := "manciple/manciplelaw13.LockFirst", spec := "lockFirst", inPlace := ["slices.overlaps[manciple/lock.want]"], unfollowed := true, recurses := true, plainKeys := false, apart := false }
def LockFirstSaid : Prop := lockFirstRow.holds Try.pinned (OpenSpec.ofChange lockFirstSpec)

/-- ITS FALSE NEIGHBOUR: 'it returns false'. Refute it at one input. -/
def lockFirstWrong : ChangeSpec := { name := "lockFirst", fn := fun _ => fun
  | [d1, d2] => { results := [.lit (.bool false)], args := [d1, d2] }
  | _ => none }
def LockFirstWrongFalsely : Prop := lockFirstRow.holds Try.pinned (OpenSpec.ofChange lockFirstWrong)

/-- 'manciplelaw13.LockModes': WHATEVER THE INPUT: true; the input reads as it did. -/
def lockModesSpec : ChangeSpec := { name := "lockModes", fn := fun _ => fun
  | [d1, d2] => { results := [.lit (.bool true)], args := [d1, d2] }
  | _ => none }
def lockModesRow : OpenClaim := { program := "ytilknhackmccpaa", sum := "3fbdfbeeaa636e704a80c59e8b171c1501710ab9a51c53ca5cde81d62b073db6", func := "manciple/manciplelaw13.LockModes", spec := "lockModes", inPlace := ["slices.overlaps[manciple/lock.want]"], unfollowed := true, recurses := true, plainKeys := false, apart := false }
def LockModesSaid : Prop := lockModesRow.holds Try.pinned (OpenSpec.ofChange lockModesSpec)

/-- ITS FALSE NEIGHBOUR: 'it returns false'. Refute it at one input. -/
def lockModesWrong : ChangeSpec := { name := "lockModes", fn := fun _ => fun
  | [d1, d2] => { results := [.lit (.bool false)], args := [d1, d2] }
  | _ => none }
def LockModesWrongFalsely : Prop := lockModesRow.holds Try.pinned (OpenSpec.ofChange lockModesWrong)

/-- 'manciplelaw13.LockWakes': WHATEVER THE INPUT: true; the input reads as it did. -/
def lockWakesSpec : ChangeSpec := { name := "lockWakes", fn := fun _ => fun
  | [d1, d2] => { results := [.lit (.bool true)], args := [d1, d2] }
  | _ => none }
def lockWakesRow : OpenClaim := { program := "ytilknhackmccpaa", sum := "3fbdfbeeaa636e704a80c59e8b171c1501710ab9a51c53ca5cde81d62b073db6", func := "manciple/manciplelaw13.LockWakes", spec := "lockWakes", inPlace := ["slices.overlaps[manciple/lock.want]"], unfollowed := true, recurses := true, plainKeys := false, apart := false }
def LockWakesSaid : Prop := lockWakesRow.holds Try.pinned (OpenSpec.ofChange lockWakesSpec)

/-- ITS FALSE NEIGHBOUR: 'it returns false'. Refute it at one input. -/
def lockWakesWrong : ChangeSpec := { name := "lockWakes", fn := fun _ => fun
  | [d1, d2] => { results := [.lit (.bool false)], args := [d1, d2] }
  | _ => none }
def LockWakesWrongFalsely : Prop := lockWakesRow.holds Try.pinned (OpenSpec.ofChange lockWakesWrong)

/-- 'manciplelaw13.LockShares': WHATEVER THE INPUT: true; the input reads as it did. -/
def lockSharesSpec : ChangeSpec := { name := "lockShares", fn := fun _ => fun
  | [d] => { results := [.lit (.bool true)], args := [d] }
  | _ => none }
def lockSharesRow : OpenClaim := { program := "ytilknhackmccpaa", sum := "3fbdfbeeaa636e704a80c59e8b171c1501710ab9a51c53ca5cde81d62b073db6", func := "manciple/manciplelaw13.LockShares", spec := "lockShares", inPlace := ["slices.overlaps[manciple/lock.want]"], unfollowed := true, recurses := true, plainKeys := false, apart := false }
def LockSharesSaid : Prop := lockSharesRow.holds Try.pinned (OpenSpec.ofChange lockSharesSpec)

/-- ITS FALSE NEIGHBOUR: 'it returns false'. Refute it at one input. -/
def lockSharesWrong : ChangeSpec := { name := "lockShares", fn := fun _ => fun
  | [d] => { results := [.lit (.bool false)], args := [d] }
  | _ => none }
def LockSharesWrongFalsely : Prop := lockSharesRow.holds Try.pinned (OpenSpec.ofChange lockSharesWrong)

/-- 'manciplelaw13.LockLine': WHATEVER THE INPUT: true; the input reads as it did. -/
def lockLineSpec : ChangeSpec := { name := "lockLine", fn := fun _ => fun
  | [d] => { results := [.lit (.bool true)], args := [d] }
  | _ => none }
def lockLineRow : OpenClaim := { program := "ytilknhackmccpaa", sum := "3fbdfbeeaa636e704a80c59e8b171c1501710ab9a51c53ca5cde81d62b073db6", func := "manciple/manciplelaw13.LockLine", spec := "lockLine", inPlace := ["slices.overlaps[manciple/lock.want]"], unfollowed := true, recurses := true, plainKeys := false, apart := false }
def LockLineSaid : Prop := lockLineRow.holds Try.pinned (OpenSpec.ofChange lockLineSpec)

/-- ITS FALSE NEIGHBOUR: 'it returns false'. Refute it at one input. -/
def lockLineWrong : ChangeSpec := { name := "lockLine", fn := fun _ => fun
  | [d] => { results := [.lit (.bool false)], args := [d] }
  | _ => none }
def LockLineWrongFalsely : Prop := lockLineRow.holds Try.pinned (OpenSpec.ofChange lockLineWrong)

/-- 'manciplelaw13.LockDoes': WHATEVER THE INPUT: true; the input reads as it did. -/
def lockDoesSpec : ChangeSpec := { name := "lockDoes", fn := fun _ => fun
  | [d] => { results := [.lit (.bool true)], args := [d] }
  | _ => none }
def lockDoesRow : OpenClaim := { program := "ytilknhackmccpaa", sum := "3fbdfbeeaa636e704a80c59e8b171c1501710ab9a51c53ca5cde81d62b073db6", func := "manciple/manciplelaw13.LockDoes", spec := "lockDoes", inPlace := ["slices.overlaps[manciple/lock.want]"], unfollowed := true, recurses := true, plainKeys := false, apart := false }
def LockDoesSaid : Prop := lockDoesRow.holds Try.pinned (OpenSpec.ofChange lockDoesSpec)

/-- ITS FALSE NEIGHBOUR: 'it returns false'. Refute it at one input. -/
def lockDoesWrong : ChangeSpec := { name := "lockDoes", fn := fun _ => fun
  | [d] => { results := [.lit (.bool false)], args := [d] }
  | _ => none }
def LockDoesWrongFalsely : Prop := lockDoesRow.holds Try.pinned (OpenSpec.ofChange lockDoesWrong)

/- THE SECOND FORM. 'bulk': how many values and letters a reading holds, each counted each time it is reached (what is shared counts as often as it is met; a slice's spare places count too). A statement '..UptoSaid' is the law's where the arguments, and the package variables that the reading takes, are together of bulk at most 1048576: NARROWER than '..Said'. Prove '..Said' where nothing that the law and all that it calls make is longer than what came in: it says more and counts as full. Else prove '..UptoSaid'. A law counts once. -/
mutual
def uptoBulk {H : Type} : DataW H → Nat
  | .lit (.string bytes) => bytes.length + 1
  | .lit _ => 1
  | .nil => 1
  | .ptr d => uptoBulk d + 1
  | .slice elems spare => uptoBulkAll elems + uptoBulkAll spare + 1
  | .agg parts => uptoBulkAll parts + 1
  | .iface _ d => uptoBulk d + 1
  | .map entries => uptoBulkEntries entries + 1
  | .held _ => 1
def uptoBulkAll {H : Type} : List (DataW H) → Nat
  | [] => 0
  | d :: r => uptoBulk d + uptoBulkAll r
def uptoBulkEntries {H : Type} : List (Lit × DataW H) → Nat
  | [] => 0
  | x :: r => uptoBulkEntry x + uptoBulkEntries r
def uptoBulkEntry {H : Type} : Lit × DataW H → Nat
  | (.string bytes, d) => bytes.length + uptoBulk d + 1
  | (_, d) => uptoBulk d + 1
 end
def uptoSmall : (H : Type) → List (DataW H) → Bool := fun _ ds => decide (uptoBulkAll ds ≤ 1048576)
def OpenSpec.upto (s : _root_.Go.ChangeSpec) : _root_.Go.OpenSpec := { _root_.Go.OpenSpec.ofChange s with cond := some uptoSmall }

/-- 'manciplelaw14.KnotFinds', WHERE WHAT IT READS IS OF BULK AT MOST 1048576: true; the input reads as it did. -/
def knotFindsUptoRow : OpenClaim := { program := "ytilknhackmccpaa", sum := "3fbdfbeeaa636e704a80c59e8b171c1501710ab9a51c53ca5cde81d62b073db6", func := "manciple/manciplelaw14.KnotFinds", spec := "knotFinds", unfollowed := true, recurses := true, plainKeys := false, apart := false, narrowed := true }
def KnotFindsUptoSaid : Prop := knotFindsUptoRow.holds Try.pinned (OpenSpec.upto knotFindsSpec)

/-- 'manciplelaw14.KnotRings', WHERE WHAT IT READS IS OF BULK AT MOST 1048576: true; the input reads as it did. -/
def knotRingsUptoRow : OpenClaim := { program := "ytilknhackmccpaa", sum := "3fbdfbeeaa636e704a80c59e8b171c1501710ab9a51c53ca5cde81d62b073db6", func := "manciple/manciplelaw14.KnotRings", spec := "knotRings", unfollowed := true, recurses := true, plainKeys := false, apart := false, narrowed := true }
def KnotRingsUptoSaid : Prop := knotRingsUptoRow.holds Try.pinned (OpenSpec.upto knotRingsSpec)

/-- 'manciplelaw14.KnotNone', WHERE WHAT IT READS IS OF BULK AT MOST 1048576: true; the input reads as it did. -/
def knotNoneUptoRow : OpenClaim := { program := "ytilknhackmccpaa", sum := "3fbdfbeeaa636e704a80c59e8b171c1501710ab9a51c53ca5cde81d62b073db6", func := "manciple/manciplelaw14.KnotNone", spec := "knotNone", unfollowed := true, recurses := true, plainKeys := false, apart := false, narrowed := true }
def KnotNoneUptoSaid : Prop := knotNoneUptoRow.holds Try.pinned (OpenSpec.upto knotNoneSpec)

/-- 'manciplelaw14.KnotVictims', WHERE WHAT IT READS IS OF BULK AT MOST 1048576: true; the input reads as it did. -/
def knotVictimsUptoRow : OpenClaim := { program := "ytilknhackmccpaa", sum := "3fbdfbeeaa636e704a80c59e8b171c1501710ab9a51c53ca5cde81d62b073db6", func := "manciple/manciplelaw14.KnotVictims", spec := "knotVictims", unfollowed := true, recurses := true, plainKeys := false, apart := false, narrowed := true }
def KnotVictimsUptoSaid : Prop := knotVictimsUptoRow.holds Try.pinned (OpenSpec.upto knotVictimsSpec)

/-- 'manciplelaw14.KnotMore', WHERE WHAT IT READS IS OF BULK AT MOST 1048576: true; the input reads as it did. -/
def knotMoreUptoRow : OpenClaim := { program := "ytilknhackmccpaa", sum := "3fbdfbeeaa636e704a80c59e8b171c1501710ab9a51c53ca5cde81d62b073db6", func := "manciple/manciplelaw14.KnotMore", spec := "knotMore", unfollowed := true, recurses := true, plainKeys := false, apart := false, narrowed := true }
def KnotMoreUptoSaid : Prop := knotMoreUptoRow.holds Try.pinned (OpenSpec.upto knotMoreSpec)

/-- 'manciplelaw13.LockFirst', WHERE WHAT IT READS IS OF BULK AT MOST 1048576: true; the input reads as it did. -/
def lockFirstUptoRow : OpenClaim := { program := "ytilknhackmccpaa", sum := "3fbdfbeeaa636e704a80c59e8b171c1501710ab9a51c53ca5cde81d62b073db6", func := "manciple/manciplelaw13.LockFirst", spec := "lockFirst", inPlace := ["slices.overlaps[manciple/lock.want]"], unfollowed := true, recurses := true, plainKeys := false, apart := false, narrowed := true }
def LockFirstUptoSaid : Prop := lockFirstUptoRow.holds Try.pinned (OpenSpec.upto lockFirstSpec)

/-- 'manciplelaw13.LockModes', WHERE WHAT IT READS IS OF BULK AT MOST 1048576: true; the input reads as it did. -/
def lockModesUptoRow : OpenClaim := { program := "ytilknhackmccpaa", sum := "3fbdfbeeaa636e704a80c59e8b171c1501710ab9a51c53ca5cde81d62b073db6", func := "manciple/manciplelaw13.LockModes", spec := "lockModes", inPlace := ["slices.overlaps[manciple/lock.want]"], unfollowed := true, recurses := true, plainKeys := false, apart := false, narrowed := true }
def LockModesUptoSaid : Prop := lockModesUptoRow.holds Try.pinned (OpenSpec.upto lockModesSpec)

/-- 'manciplelaw13.LockWakes', WHERE WHAT IT READS IS OF BULK AT MOST 1048576: true; the input reads as it did. -/
def lockWakesUptoRow : OpenClaim := { program := "ytilknhackmccpaa", sum := "3fbdfbeeaa636e704a80c59e8b171c1501710ab9a51c53ca5cde81d62b073db6", func := "manciple/manciplelaw13.LockWakes", spec := "lockWakes", inPlace := ["slices.overlaps[manciple/lock.want]"], unfollowed := true, recurses := true, plainKeys := false, apart := false, narrowed := true }
def LockWakesUptoSaid : Prop := lockWakesUptoRow.holds Try.pinned (OpenSpec.upto lockWakesSpec)

/-- 'manciplelaw13.LockShares', WHERE WHAT IT READS IS OF BULK AT MOST 1048576: true; the input reads as it did. -/
def lockSharesUptoRow : OpenClaim := { program := "ytilknhackmccpaa", sum := "3fbdfbeeaa636e704a80c59e8b171c1501710ab9a51c53ca5cde81d62b073db6", func := "manciple/manciplelaw13.LockShares", spec := "lockShares", inPlace := ["slices.overlaps[manciple/lock.want]"], unfollowed := true, recurses := true, plainKeys := false, apart := false, narrowed := true }
def LockSharesUptoSaid : Prop := lockSharesUptoRow.holds Try.pinned (OpenSpec.upto lockSharesSpec)

/-- 'manciplelaw13.LockLine', WHERE WHAT IT READS IS OF BULK AT MOST 1048576: true; the input reads as it did. -/
def lockLineUptoRow : OpenClaim := { program := "ytilknhackmccpaa", sum := "3fbdfbeeaa636e704a80c59e8b171c1501710ab9a51c53ca5cde81d62b073db6", func := "manciple/manciplelaw13.LockLine", spec := "lockLine", inPlace := ["slices.overlaps[manciple/lock.want]"], unfollowed := true, recurses := true, plainKeys := false, apart := false, narrowed := true }
def LockLineUptoSaid : Prop := lockLineUptoRow.holds Try.pinned (OpenSpec.upto lockLineSpec)

/-- 'manciplelaw13.LockDoes', WHERE WHAT IT READS IS OF BULK AT MOST 1048576: true; the input reads as it did. -/
def lockDoesUptoRow : OpenClaim := { program := "ytilknhackmccpaa", sum := "3fbdfbeeaa636e704a80c59e8b171c1501710ab9a51c53ca5cde81d62b073db6", func := "manciple/manciplelaw13.LockDoes", spec := "lockDoes", inPlace := ["slices.overlaps[manciple/lock.want]"], unfollowed := true, recurses := true, plainKeys := false, apart := false, narrowed := true }
def LockDoesUptoSaid : Prop := lockDoesUptoRow.holds Try.pinned (OpenSpec.upto lockDoesSpec)

end Rows
end Go.Proofs.Ytilknhackmccpaa
