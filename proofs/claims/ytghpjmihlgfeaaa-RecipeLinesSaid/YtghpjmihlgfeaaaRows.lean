/-
  No cell of these rows narrows 'for every input' (looked for: loops, veiled, ifaces, maps, wideKeys, modest, calm, conditions, laid).
  DERIVED. THE GIVEN ROWS OF THIS SEAT. 11 by the template 'for every input the law returns true; each argument reads behind the call as it read before'; 0 by the template 'total and deterministic' (their statements: YtghpjmihlgfeaaaTotals.lean).
  GIVEN WITH THE SEED: the statements are not yours to turn. If you find one false, say at which input.
  Laid BY PROGRAM, IN A SANDBOX (cutbox-rows.mjs): the forced cells as the released guide's own fill.sh prints them over the translation 8e2b0cddaba1b38b… (all of the seat's roots in one cut). By AI agents, Wed Nov 11 2026. No macro, syntax, notation, axiom, sorry.
-/
import Derived.Test.YtghpjmihlgfeaaaChecked
import GoSem.Claim
import GoSem.ClaimJoined
import GoSem.ClaimMapViews
import Derived.JoinedTies
import Derived.KernelRfl
namespace Go.Proofs.Ytghpjmihlgfeaaa
/- THE CELL 'sum', in the pinned program and in every row, IS THE sha256 OF THE DUMP (.gsa) THAT YtghpjmihlgfeaaaProg.lean LOADS. Nothing in Lean hashes anything: it is a label: what it is worth is what the hold of that sum in a sandbox is worth. -/
noncomputable def Try.pinned : Pinned := { name := "ytghpjmihlgfeaaa", sum := "8e2b0cddaba1b38ba53d775c6b38cb13b95cd57e3263946278dd6842923502fa", checked := Try.checked }
namespace Rows
def none {H : Type} : Left H := { results := [], args := [] }

/-- 'manciplelaw04.RecipeAll': WHATEVER THE INPUT: true; the input reads as it did. -/
def recipeAllSpec : ChangeSpec := { name := "recipeAll", fn := fun _ => fun
  | [d1, d2, d3] => { results := [.lit (.bool true)], args := [d1, d2, d3] }
  | _ => none }
def recipeAllRow : OpenClaim := { program := "ytghpjmihlgfeaaa", sum := "8e2b0cddaba1b38ba53d775c6b38cb13b95cd57e3263946278dd6842923502fa", func := "manciple/manciplelaw04.RecipeAll", spec := "recipeAll", unfollowed := true, recurses := true, apart := false }
def RecipeAllSaid : Prop := recipeAllRow.holds Try.pinned (OpenSpec.ofChange recipeAllSpec)

/-- ITS FALSE NEIGHBOUR: 'it returns false'. Refute it at one input. -/
def recipeAllWrong : ChangeSpec := { name := "recipeAll", fn := fun _ => fun
  | [d1, d2, d3] => { results := [.lit (.bool false)], args := [d1, d2, d3] }
  | _ => none }
def RecipeAllWrongFalsely : Prop := recipeAllRow.holds Try.pinned (OpenSpec.ofChange recipeAllWrong)

/-- 'manciplelaw04.RecipeMany': WHATEVER THE INPUT: true; the input reads as it did. -/
def recipeManySpec : ChangeSpec := { name := "recipeMany", fn := fun _ => fun
  | [d1, d2, d3] => { results := [.lit (.bool true)], args := [d1, d2, d3] }
  | _ => none }
def recipeManyRow : OpenClaim := { program := "ytghpjmihlgfeaaa", sum := "8e2b0cddaba1b38ba53d775c6b38cb13b95cd57e3263946278dd6842923502fa", func := "manciple/manciplelaw04.RecipeMany", spec := "recipeMany", unfollowed := true, recurses := true, apart := false }
def RecipeManySaid : Prop := recipeManyRow.holds Try.pinned (OpenSpec.ofChange recipeManySpec)

/-- ITS FALSE NEIGHBOUR: 'it returns false'. Refute it at one input. -/
def recipeManyWrong : ChangeSpec := { name := "recipeMany", fn := fun _ => fun
  | [d1, d2, d3] => { results := [.lit (.bool false)], args := [d1, d2, d3] }
  | _ => none }
def RecipeManyWrongFalsely : Prop := recipeManyRow.holds Try.pinned (OpenSpec.ofChange recipeManyWrong)

/-- 'manciplelaw04.RecipeOwn': WHATEVER THE INPUT: true; the input reads as it did. -/
def recipeOwnSpec : ChangeSpec := { name := "recipeOwn", fn := fun _ => fun
  | [d] => { results := [.lit (.bool true)], args := [d] }
  | _ => none }
def recipeOwnRow : OpenClaim := { program := "ytghpjmihlgfeaaa", sum := "8e2b0cddaba1b38ba53d775c6b38cb13b95cd57e3263946278dd6842923502fa", func := "manciple/manciplelaw04.RecipeOwn", spec := "recipeOwn", unfollowed := true, recurses := true, apart := false }
def RecipeOwnSaid : Prop := recipeOwnRow.holds Try.pinned (OpenSpec.ofChange recipeOwnSpec)

/-- ITS FALSE NEIGHBOUR: 'it returns false'. Refute it at one input. -/
def recipeOwnWrong : ChangeSpec := { name := "recipeOwn", fn := fun _ => fun
  | [d] => { results := [.lit (.bool false)], args := [d] }
  | _ => none }
def RecipeOwnWrongFalsely : Prop := recipeOwnRow.holds Try.pinned (OpenSpec.ofChange recipeOwnWrong)

/-- 'manciplelaw04.RecipeLines': WHATEVER THE INPUT: true; the input reads as it did. -/
def recipeLinesSpec : ChangeSpec := { name := "recipeLines", fn := fun _ => fun
  | [d] => { results := [.lit (.bool true)], args := [d] }
  | _ => none }
def recipeLinesRow : OpenClaim := { program := "ytghpjmihlgfeaaa", sum := "8e2b0cddaba1b38ba53d775c6b38cb13b95cd57e3263946278dd6842923502fa", func := "manciple/manciplelaw04.RecipeLines", spec := "recipeLines", unfollowed := true, recurses := true, apart := false }
def RecipeLinesSaid : Prop := recipeLinesRow.holds Try.pinned (OpenSpec.ofChange recipeLinesSpec)

/-- ITS FALSE NEIGHBOUR: 'it returns false'. Refute it at one input. -/
def recipeLinesWrong : ChangeSpec := { name := "recipeLines", fn := fun _ => fun
  | [d] => { results := [.lit (.bool false)], args := [d] }
  | _ => none }
def RecipeLinesWrongFalsely : Prop := recipeLinesRow.holds Try.pinned (OpenSpec.ofChange recipeLinesWrong)

/-- 'manciplelaw03.MoneyTimes': WHATEVER THE INPUT: true; the input reads as it did. -/
def moneyTimesSpec : ChangeSpec := { name := "moneyTimes", fn := fun _ => fun
  | [d1, d2, d3] => { results := [.lit (.bool true)], args := [d1, d2, d3] }
  | _ => none }
def moneyTimesRow : OpenClaim := { program := "ytghpjmihlgfeaaa", sum := "8e2b0cddaba1b38ba53d775c6b38cb13b95cd57e3263946278dd6842923502fa", func := "manciple/manciplelaw03.MoneyTimes", spec := "moneyTimes", named := ["math/bits.divideError", "math/bits.overflowError"], apart := false }
def MoneyTimesSaid : Prop := moneyTimesRow.holds Try.pinned (OpenSpec.ofChange moneyTimesSpec)

/-- ITS FALSE NEIGHBOUR: 'it returns false'. Refute it at one input. -/
def moneyTimesWrong : ChangeSpec := { name := "moneyTimes", fn := fun _ => fun
  | [d1, d2, d3] => { results := [.lit (.bool false)], args := [d1, d2, d3] }
  | _ => none }
def MoneyTimesWrongFalsely : Prop := moneyTimesRow.holds Try.pinned (OpenSpec.ofChange moneyTimesWrong)

/-- 'manciplelaw03.MoneyShares': WHATEVER THE INPUT: true; the input reads as it did. -/
def moneySharesSpec : ChangeSpec := { name := "moneyShares", fn := fun _ => fun
  | [d1, d2, d3] => { results := [.lit (.bool true)], args := [d1, d2, d3] }
  | _ => none }
def moneySharesRow : OpenClaim := { program := "ytghpjmihlgfeaaa", sum := "8e2b0cddaba1b38ba53d775c6b38cb13b95cd57e3263946278dd6842923502fa", func := "manciple/manciplelaw03.MoneyShares", spec := "moneyShares", named := ["math/bits.divideError", "math/bits.overflowError"], apart := false }
def MoneySharesSaid : Prop := moneySharesRow.holds Try.pinned (OpenSpec.ofChange moneySharesSpec)

/-- ITS FALSE NEIGHBOUR: 'it returns false'. Refute it at one input. -/
def moneySharesWrong : ChangeSpec := { name := "moneyShares", fn := fun _ => fun
  | [d1, d2, d3] => { results := [.lit (.bool false)], args := [d1, d2, d3] }
  | _ => none }
def MoneySharesWrongFalsely : Prop := moneySharesRow.holds Try.pinned (OpenSpec.ofChange moneySharesWrong)

/-- 'manciplelaw03.MoneyAdds': WHATEVER THE INPUT: true; the input reads as it did. -/
def moneyAddsSpec : ChangeSpec := { name := "moneyAdds", fn := fun _ => fun
  | [d1, d2] => { results := [.lit (.bool true)], args := [d1, d2] }
  | _ => none }
def moneyAddsRow : OpenClaim := { program := "ytghpjmihlgfeaaa", sum := "8e2b0cddaba1b38ba53d775c6b38cb13b95cd57e3263946278dd6842923502fa", func := "manciple/manciplelaw03.MoneyAdds", spec := "moneyAdds", named := ["math/bits.divideError", "math/bits.overflowError"], apart := false }
def MoneyAddsSaid : Prop := moneyAddsRow.holds Try.pinned (OpenSpec.ofChange moneyAddsSpec)

/-- ITS FALSE NEIGHBOUR: 'it returns false'. Refute it at one input. -/
def moneyAddsWrong : ChangeSpec := { name := "moneyAdds", fn := fun _ => fun
  | [d1, d2] => { results := [.lit (.bool false)], args := [d1, d2] }
  | _ => none }
def MoneyAddsWrongFalsely : Prop := moneyAddsRow.holds Try.pinned (OpenSpec.ofChange moneyAddsWrong)

/-- 'manciplelaw03.MoneyBack': WHATEVER THE INPUT: true; the input reads as it did. -/
def moneyBackSpec : ChangeSpec := { name := "moneyBack", fn := fun _ => fun
  | [d1, d2] => { results := [.lit (.bool true)], args := [d1, d2] }
  | _ => none }
def moneyBackRow : OpenClaim := { program := "ytghpjmihlgfeaaa", sum := "8e2b0cddaba1b38ba53d775c6b38cb13b95cd57e3263946278dd6842923502fa", func := "manciple/manciplelaw03.MoneyBack", spec := "moneyBack", named := ["math/bits.divideError", "math/bits.overflowError"], apart := false }
def MoneyBackSaid : Prop := moneyBackRow.holds Try.pinned (OpenSpec.ofChange moneyBackSpec)

/-- ITS FALSE NEIGHBOUR: 'it returns false'. Refute it at one input. -/
def moneyBackWrong : ChangeSpec := { name := "moneyBack", fn := fun _ => fun
  | [d1, d2] => { results := [.lit (.bool false)], args := [d1, d2] }
  | _ => none }
def MoneyBackWrongFalsely : Prop := moneyBackRow.holds Try.pinned (OpenSpec.ofChange moneyBackWrong)

/-- 'manciplelaw03.MoneyAll': WHATEVER THE INPUT: true; the input reads as it did. -/
def moneyAllSpec : ChangeSpec := { name := "moneyAll", fn := fun _ => fun
  | [d] => { results := [.lit (.bool true)], args := [d] }
  | _ => none }
def moneyAllRow : OpenClaim := { program := "ytghpjmihlgfeaaa", sum := "8e2b0cddaba1b38ba53d775c6b38cb13b95cd57e3263946278dd6842923502fa", func := "manciple/manciplelaw03.MoneyAll", spec := "moneyAll", named := ["math/bits.divideError", "math/bits.overflowError"], apart := false }
def MoneyAllSaid : Prop := moneyAllRow.holds Try.pinned (OpenSpec.ofChange moneyAllSpec)

/-- ITS FALSE NEIGHBOUR: 'it returns false'. Refute it at one input. -/
def moneyAllWrong : ChangeSpec := { name := "moneyAll", fn := fun _ => fun
  | [d] => { results := [.lit (.bool false)], args := [d] }
  | _ => none }
def MoneyAllWrongFalsely : Prop := moneyAllRow.holds Try.pinned (OpenSpec.ofChange moneyAllWrong)

/-- 'manciplelaw03.MoneySums': WHATEVER THE INPUT: true; the input reads as it did. -/
def moneySumsSpec : ChangeSpec := { name := "moneySums", fn := fun _ => fun
  | [d1, d2] => { results := [.lit (.bool true)], args := [d1, d2] }
  | _ => none }
def moneySumsRow : OpenClaim := { program := "ytghpjmihlgfeaaa", sum := "8e2b0cddaba1b38ba53d775c6b38cb13b95cd57e3263946278dd6842923502fa", func := "manciple/manciplelaw03.MoneySums", spec := "moneySums", named := ["math/bits.divideError", "math/bits.overflowError"], apart := false }
def MoneySumsSaid : Prop := moneySumsRow.holds Try.pinned (OpenSpec.ofChange moneySumsSpec)

/-- ITS FALSE NEIGHBOUR: 'it returns false'. Refute it at one input. -/
def moneySumsWrong : ChangeSpec := { name := "moneySums", fn := fun _ => fun
  | [d1, d2] => { results := [.lit (.bool false)], args := [d1, d2] }
  | _ => none }
def MoneySumsWrongFalsely : Prop := moneySumsRow.holds Try.pinned (OpenSpec.ofChange moneySumsWrong)

/-- 'manciplelaw03.MoneyErrs': WHATEVER THE INPUT: true; the input reads as it did. -/
def moneyErrsSpec : ChangeSpec := { name := "moneyErrs", fn := fun _ => fun
  | [d1, d2, d3] => { results := [.lit (.bool true)], args := [d1, d2, d3] }
  | _ => none }
def moneyErrsRow : OpenClaim := { program := "ytghpjmihlgfeaaa", sum := "8e2b0cddaba1b38ba53d775c6b38cb13b95cd57e3263946278dd6842923502fa", func := "manciple/manciplelaw03.MoneyErrs", spec := "moneyErrs", named := ["math/bits.divideError", "math/bits.overflowError"], apart := false }
def MoneyErrsSaid : Prop := moneyErrsRow.holds Try.pinned (OpenSpec.ofChange moneyErrsSpec)

/-- ITS FALSE NEIGHBOUR: 'it returns false'. Refute it at one input. -/
def moneyErrsWrong : ChangeSpec := { name := "moneyErrs", fn := fun _ => fun
  | [d1, d2, d3] => { results := [.lit (.bool false)], args := [d1, d2, d3] }
  | _ => none }
def MoneyErrsWrongFalsely : Prop := moneyErrsRow.holds Try.pinned (OpenSpec.ofChange moneyErrsWrong)

/- THE SECOND FORM. 'bulk': how many values and letters a reading holds, each counted each time it is reached (what is shared counts as often as it is met; a slice's spare places count too). A statement '..UptoSaid' is the law's where the arguments, and the package variables that the reading takes, are together of bulk at most 1048576: NARROWER than '..Said'. Prove '..Said' where nothing that the law and all that it calls make is longer than what came in: it says more and counts as full. Else prove '..UptoSaid'. A law counts once. -/
mutual
def uptoBulk {H : Type} : DataW H → Nat
  | .lit (.string bytes) => bytes.length + 1
  | .lit _ => 1
  | .nil => 1
  | .ptr d => uptoBulk d + 1
  | .slice elems spare => uptoBulkAll elems + uptoBulkAll spare + 1
  | .agg parts => uptoBulkAll parts + 1
  | .iface _ d => uptoBulk d + 1
  | .map entries => uptoBulkEntries entries + 1
  | .held _ => 1
def uptoBulkAll {H : Type} : List (DataW H) → Nat
  | [] => 0
  | d :: r => uptoBulk d + uptoBulkAll r
def uptoBulkEntries {H : Type} : List (Lit × DataW H) → Nat
  | [] => 0
  | x :: r => uptoBulkEntry x + uptoBulkEntries r
def uptoBulkEntry {H : Type} : Lit × DataW H → Nat
  | (.string bytes, d) => bytes.length + uptoBulk d + 1
  | (_, d) => uptoBulk d + 1
 end
def uptoSmall : (H : Type) → List (DataW H) → Bool := fun _ ds => decide (uptoBulkAll ds ≤ 1048576)
def OpenSpec.upto (s : _root_.Go.ChangeSpec) : _root_.Go.OpenSpec := { _root_.Go.OpenSpec.ofChange s with cond := some uptoSmall }

/-- 'manciplelaw04.RecipeAll', WHERE WHAT IT READS IS OF BULK AT MOST 1048576: true; the input reads as it did. -/
def recipeAllUptoRow : OpenClaim := { program := "ytghpjmihlgfeaaa", sum := "8e2b0cddaba1b38ba53d775c6b38cb13b95cd57e3263946278dd6842923502fa", func := "manciple/manciplelaw04.RecipeAll", spec := "recipeAll", unfollowed := true, recurses := true, apart := false, narrowed := true }
def RecipeAllUptoSaid : Prop := recipeAllUptoRow.holds Try.pinned (OpenSpec.upto recipeAllSpec)

/-- 'manciplelaw04.RecipeMany', WHERE WHAT IT READS IS OF BULK AT MOST 1048576: true; the input reads as it did. -/
def recipeManyUptoRow : OpenClaim := { program := "ytghpjmihlgfeaaa", sum := "8e2b0cddaba1b38ba53d775c6b38cb13b95cd57e3263946278dd6842923502fa", func := "manciple/manciplelaw04.RecipeMany", spec := "recipeMany", unfollowed := true, recurses := true, apart := false, narrowed := true }
def RecipeManyUptoSaid : Prop := recipeManyUptoRow.holds Try.pinned (OpenSpec.upto recipeManySpec)

/-- 'manciplelaw04.RecipeOwn', WHERE WHAT IT READS IS OF BULK AT MOST 1048576: true; the input reads as it did. -/
def recipeOwnUptoRow : OpenClaim := { program := "ytghpjmihlgfeaaa", sum := "8e2b0cddaba1b38ba53d775c6b38cb13b95cd57e3263946278dd6842923502fa", func := "manciple/manciplelaw04.RecipeOwn", spec := "recipeOwn", unfollowed := true, recurses := true, apart := false, narrowed := true }
def RecipeOwnUptoSaid : Prop := recipeOwnUptoRow.holds Try.pinned (OpenSpec.upto recipeOwnSpec)

/-- 'manciplelaw04.RecipeLines', WHERE WHAT IT READS IS OF BULK AT MOST 1048576: true; the input reads as it did. -/
def recipeLinesUptoRow : OpenClaim := { program := "ytghpjmihlgfeaaa", sum := "8e2b0cddaba1b38ba53d775c6b38cb13b95cd57e3263946278dd6842923502fa", func := "manciple/manciplelaw04.RecipeLines", spec := "recipeLines", unfollowed := true, recurses := true, apart := false, narrowed := true }
def RecipeLinesUptoSaid : Prop := recipeLinesUptoRow.holds Try.pinned (OpenSpec.upto recipeLinesSpec)

/-- 'manciplelaw03.MoneyTimes', WHERE WHAT IT READS IS OF BULK AT MOST 1048576: true; the input reads as it did. -/
def moneyTimesUptoRow : OpenClaim := { program := "ytghpjmihlgfeaaa", sum := "8e2b0cddaba1b38ba53d775c6b38cb13b95cd57e3263946278dd6842923502fa", func := "manciple/manciplelaw03.MoneyTimes", spec := "moneyTimes", named := ["math/bits.divideError", "math/bits.overflowError"], apart := false, narrowed := true }
def MoneyTimesUptoSaid : Prop := moneyTimesUptoRow.holds Try.pinned (OpenSpec.upto moneyTimesSpec)

/-- 'manciplelaw03.MoneyShares', WHERE WHAT IT READS IS OF BULK AT MOST 1048576: true; the input reads as it did. -/
def moneySharesUptoRow : OpenClaim := { program := "ytghpjmihlgfeaaa", sum := "8e2b0cddaba1b38ba53d775c6b38cb13b95cd57e3263946278dd6842923502fa", func := "manciple/manciplelaw03.MoneyShares", spec := "moneyShares", named := ["math/bits.divideError", "math/bits.overflowError"], apart := false, narrowed := true }
def MoneySharesUptoSaid : Prop := moneySharesUptoRow.holds Try.pinned (OpenSpec.upto moneySharesSpec)

/-- 'manciplelaw03.MoneyAdds', WHERE WHAT IT READS IS OF BULK AT MOST 1048576: true; the input reads as it did. -/
def moneyAddsUptoRow : OpenClaim := { program := "ytghpjmihlgfeaaa", sum := "8e2b0cddaba1b38ba53d775c6b38cb13b95cd57e3263946278dd6842923502fa", func := "manciple/manciplelaw03.MoneyAdds", spec := "moneyAdds", named := ["math/bits.divideError", "math/bits.overflowError"], apart := false, narrowed := true }
def MoneyAddsUptoSaid : Prop := moneyAddsUptoRow.holds Try.pinned (OpenSpec.upto moneyAddsSpec)

/-- 'manciplelaw03.MoneyBack', WHERE WHAT IT READS IS OF BULK AT MOST 1048576: true; the input reads as it did. -/
def moneyBackUptoRow : OpenClaim := { program := "ytghpjmihlgfeaaa", sum := "8e2b0cddaba1b38ba53d775c6b38cb13b95cd57e3263946278dd6842923502fa", func := "manciple/manciplelaw03.MoneyBack", spec := "moneyBack", named := ["math/bits.divideError", "math/bits.overflowError"], apart := false, narrowed := true }
def MoneyBackUptoSaid : Prop := moneyBackUptoRow.holds Try.pinned (OpenSpec.upto moneyBackSpec)

/-- 'manciplelaw03.MoneyAll', WHERE WHAT IT READS IS OF BULK AT MOST 1048576: true; the input reads as it did. -/
def moneyAllUptoRow : OpenClaim := { program := "ytghpjmihlgfeaaa", sum := "8e2b0cddaba1b38ba53d775c6b38cb13b95cd57e3263946278dd6842923502fa", func := "manciple/manciplelaw03.MoneyAll", spec := "moneyAll", named := ["math/bits.divideError", "math/bits.overflowError"], apart := false, narrowed := true }
def MoneyAllUptoSaid : Prop := moneyAllUptoRow.holds Try.pinned (OpenSpec.upto moneyAllSpec)

/-- 'manciplelaw03.MoneySums', WHERE WHAT IT READS IS OF BULK AT MOST 1048576: true; the input reads as it did. -/
def moneySumsUptoRow : OpenClaim := { program := "ytghpjmihlgfeaaa", sum := "8e2b0cddaba1b38ba53d775c6b38cb13b95cd57e3263946278dd6842923502fa", func := "manciple/manciplelaw03.MoneySums", spec := "moneySums", named := ["math/bits.divideError", "math/bits.overflowError"], apart := false, narrowed := true }
def MoneySumsUptoSaid : Prop := moneySumsUptoRow.holds Try.pinned (OpenSpec.upto moneySumsSpec)

/-- 'manciplelaw03.MoneyErrs', WHERE WHAT IT READS IS OF BULK AT MOST 1048576: true; the input reads as it did. -/
def moneyErrsUptoRow : OpenClaim := { program := "ytghpjmihlgfeaaa", sum := "8e2b0cddaba1b38ba53d775c6b38cb13b95cd57e3263946278dd6842923502fa", func := "manciple/manciplelaw03.MoneyErrs", spec := "moneyErrs", named := ["math/bits.divideError", "math/bits.overflowError"], apart := false, narrowed := true }
def MoneyErrsUptoSaid : Prop := moneyErrsUptoRow.holds Try.pinned (OpenSpec.upto moneyErrsSpec)

end Rows
end Go.Proofs.Ytghpjmihlgfeaaa
