/-
  NARROWER THAN 'FOR EVERY INPUT', by the rows' own cells (each row's printed sentence says how): CountReaches: laid · CountExpects: laid · CountLeaves: laid · CountConditions: laid · CountMeasures: laid · CountSums: laid · CountIndependent: laid · CountImages: laid.
  DERIVED. THE GIVEN ROWS OF THIS SEAT. 8 by the template 'for every input the law returns true; each argument reads behind the call as it read before'; 0 by the template 'total and deterministic' (their statements: YteipiejlljnclaaGreatDoorTotals.lean).
  GIVEN WITH THE SEED: the statements are not yours to turn. If you find one false, say at which input.
  Laid BY PROGRAM, IN A SANDBOX (cutbox-rows.mjs): the forced cells as the released guide's own fill.sh prints them over the translation 8428bed033755956… (all of the seat's roots in one cut). By AI agents, Wed Nov 11 2026. No macro, syntax, notation, axiom, sorry.
-/
import Derived.Test.YteipiejlljnclaaGreatDoorChecked
import GoSem.Claim
import GoSem.ClaimJoined
import GoSem.ClaimMapViews
import Derived.JoinedTies
import Derived.KernelRfl
namespace Go.Proofs.YteipiejlljnclaaGreatDoor
/- THE CELL 'sum', in the pinned program and in every row, IS THE sha256 OF THE DUMP (.gsa) THAT YteipiejlljnclaaGreatDoorProg.lean LOADS. Nothing in Lean hashes anything: it is a label: what it is worth is what the hold of that sum in a sandbox is worth. -/
noncomputable def Tryz.pinned : Pinned := { name := "yteipiejlljnclaagreatdoor", sum := "8428bed033755956bf5578198c78f1f9a0c59383216167ac42c57b0d5d2f9425", checked := Tryz.checked }
namespace Rows
def none {H : Type} : Left H := { results := [], args := [] }

/- WHAT THE LISTED PACKAGE-LEVEL VARIABLES READ AS WHEN THE CALL BEGINS. Each datum BY PROGRAM (the guide's laid-datum.mjs) off the statement by which the dump's own 'gosem.cut.vars' lays the variable. In a bare row this is a premise. The card (YteipiejlljnclaaGreatDoorCards.lean) ties it to the program's text. -/
def laid_math_bits_deBruijn32tab {H : Type} : DataW H := .agg [.lit (.int .u8 0), .lit (.int .u8 1), .lit (.int .u8 28), .lit (.int .u8 2), .lit (.int .u8 29), .lit (.int .u8 14), .lit (.int .u8 24), .lit (.int .u8 3), .lit (.int .u8 30), .lit (.int .u8 22), .lit (.int .u8 20), .lit (.int .u8 15), .lit (.int .u8 25), .lit (.int .u8 17), .lit (.int .u8 4), .lit (.int .u8 8), .lit (.int .u8 31), .lit (.int .u8 27), .lit (.int .u8 13), .lit (.int .u8 23), .lit (.int .u8 21), .lit (.int .u8 19), .lit (.int .u8 16), .lit (.int .u8 7), .lit (.int .u8 26), .lit (.int .u8 12), .lit (.int .u8 18), .lit (.int .u8 6), .lit (.int .u8 11), .lit (.int .u8 5), .lit (.int .u8 10), .lit (.int .u8 9)]
def laid_math_bits_deBruijn64tab {H : Type} : DataW H := .agg [.lit (.int .u8 0), .lit (.int .u8 1), .lit (.int .u8 56), .lit (.int .u8 2), .lit (.int .u8 57), .lit (.int .u8 49), .lit (.int .u8 28), .lit (.int .u8 3), .lit (.int .u8 61), .lit (.int .u8 58), .lit (.int .u8 42), .lit (.int .u8 50), .lit (.int .u8 38), .lit (.int .u8 29), .lit (.int .u8 17), .lit (.int .u8 4), .lit (.int .u8 62), .lit (.int .u8 47), .lit (.int .u8 59), .lit (.int .u8 36), .lit (.int .u8 45), .lit (.int .u8 43), .lit (.int .u8 51), .lit (.int .u8 22), .lit (.int .u8 53), .lit (.int .u8 39), .lit (.int .u8 33), .lit (.int .u8 30), .lit (.int .u8 24), .lit (.int .u8 18), .lit (.int .u8 12), .lit (.int .u8 5), .lit (.int .u8 63), .lit (.int .u8 55), .lit (.int .u8 48), .lit (.int .u8 27), .lit (.int .u8 60), .lit (.int .u8 41), .lit (.int .u8 37), .lit (.int .u8 16), .lit (.int .u8 46), .lit (.int .u8 35), .lit (.int .u8 44), .lit (.int .u8 21), .lit (.int .u8 52), .lit (.int .u8 32), .lit (.int .u8 23), .lit (.int .u8 11), .lit (.int .u8 54), .lit (.int .u8 26), .lit (.int .u8 40), .lit (.int .u8 15), .lit (.int .u8 34), .lit (.int .u8 20), .lit (.int .u8 31), .lit (.int .u8 10), .lit (.int .u8 25), .lit (.int .u8 14), .lit (.int .u8 19), .lit (.int .u8 9), .lit (.int .u8 13), .lit (.int .u8 8), .lit (.int .u8 7), .lit (.int .u8 6)]
def laid_internal_strconv_uint64pow10 {H : Type} : DataW H := .agg [.lit (.int .u64 1), .lit (.int .u64 10), .lit (.int .u64 100), .lit (.int .u64 1000), .lit (.int .u64 10000), .lit (.int .u64 100000), .lit (.int .u64 1000000), .lit (.int .u64 10000000), .lit (.int .u64 100000000), .lit (.int .u64 1000000000), .lit (.int .u64 10000000000), .lit (.int .u64 100000000000), .lit (.int .u64 1000000000000), .lit (.int .u64 10000000000000), .lit (.int .u64 100000000000000), .lit (.int .u64 1000000000000000), .lit (.int .u64 10000000000000000), .lit (.int .u64 100000000000000000), .lit (.int .u64 1000000000000000000), .lit (.int .u64 10000000000000000000)]

/-- 'exactppllaw22.CountReaches': WHATEVER THE INPUT: true; the input reads as it did. -/
def countReachesSpec : ChangeSpec := { name := "countReaches", fn := fun _ => fun
  | [d] => { results := [.lit (.bool true)], args := [d] }
  | _ => none }
def countReachesRow : OpenClaim := { program := "yteipiejlljnclaagreatdoor", sum := "8428bed033755956bf5578198c78f1f9a0c59383216167ac42c57b0d5d2f9425", func := "exactppl/exactppllaw22.CountReaches", spec := "countReaches", unfollowed := true, recurses := true, named := ["internal/strconv.uint64pow10", "math/bits.deBruijn32tab", "math/bits.deBruijn64tab", "math/bits.overflowError"], plainKeys := false, apart := false, laid := [("math/bits.deBruijn32tab", laid_math_bits_deBruijn32tab), ("math/bits.deBruijn64tab", laid_math_bits_deBruijn64tab), ("internal/strconv.uint64pow10", laid_internal_strconv_uint64pow10)] }
def CountReachesSaid : Prop := countReachesRow.holds Tryz.pinned (OpenSpec.ofChange countReachesSpec)

/-- ITS FALSE NEIGHBOUR: 'it returns false'. Refute it at one input. -/
def countReachesWrong : ChangeSpec := { name := "countReaches", fn := fun _ => fun
  | [d] => { results := [.lit (.bool false)], args := [d] }
  | _ => none }
def CountReachesWrongFalsely : Prop := countReachesRow.holds Tryz.pinned (OpenSpec.ofChange countReachesWrong)

/-- 'exactppllaw22.CountExpects': WHATEVER THE INPUT: true; the input reads as it did. -/
def countExpectsSpec : ChangeSpec := { name := "countExpects", fn := fun _ => fun
  | [d] => { results := [.lit (.bool true)], args := [d] }
  | _ => none }
def countExpectsRow : OpenClaim := { program := "yteipiejlljnclaagreatdoor", sum := "8428bed033755956bf5578198c78f1f9a0c59383216167ac42c57b0d5d2f9425", func := "exactppl/exactppllaw22.CountExpects", spec := "countExpects", unfollowed := true, recurses := true, named := ["internal/strconv.uint64pow10", "math/bits.deBruijn32tab", "math/bits.deBruijn64tab", "math/bits.overflowError"], plainKeys := false, apart := false, laid := [("math/bits.deBruijn32tab", laid_math_bits_deBruijn32tab), ("math/bits.deBruijn64tab", laid_math_bits_deBruijn64tab), ("internal/strconv.uint64pow10", laid_internal_strconv_uint64pow10)] }
def CountExpectsSaid : Prop := countExpectsRow.holds Tryz.pinned (OpenSpec.ofChange countExpectsSpec)

/-- ITS FALSE NEIGHBOUR: 'it returns false'. Refute it at one input. -/
def countExpectsWrong : ChangeSpec := { name := "countExpects", fn := fun _ => fun
  | [d] => { results := [.lit (.bool false)], args := [d] }
  | _ => none }
def CountExpectsWrongFalsely : Prop := countExpectsRow.holds Tryz.pinned (OpenSpec.ofChange countExpectsWrong)

/-- 'exactppllaw22.CountLeaves': WHATEVER THE INPUT: true; the input reads as it did. -/
def countLeavesSpec : ChangeSpec := { name := "countLeaves", fn := fun _ => fun
  | [d] => { results := [.lit (.bool true)], args := [d] }
  | _ => none }
def countLeavesRow : OpenClaim := { program := "yteipiejlljnclaagreatdoor", sum := "8428bed033755956bf5578198c78f1f9a0c59383216167ac42c57b0d5d2f9425", func := "exactppl/exactppllaw22.CountLeaves", spec := "countLeaves", unfollowed := true, recurses := true, named := ["internal/strconv.uint64pow10", "math/bits.deBruijn32tab", "math/bits.deBruijn64tab", "math/bits.overflowError"], plainKeys := false, apart := false, laid := [("math/bits.deBruijn32tab", laid_math_bits_deBruijn32tab), ("math/bits.deBruijn64tab", laid_math_bits_deBruijn64tab), ("internal/strconv.uint64pow10", laid_internal_strconv_uint64pow10)] }
def CountLeavesSaid : Prop := countLeavesRow.holds Tryz.pinned (OpenSpec.ofChange countLeavesSpec)

/-- ITS FALSE NEIGHBOUR: 'it returns false'. Refute it at one input. -/
def countLeavesWrong : ChangeSpec := { name := "countLeaves", fn := fun _ => fun
  | [d] => { results := [.lit (.bool false)], args := [d] }
  | _ => none }
def CountLeavesWrongFalsely : Prop := countLeavesRow.holds Tryz.pinned (OpenSpec.ofChange countLeavesWrong)

/-- 'exactppllaw22.CountConditions': WHATEVER THE INPUT: true; the input reads as it did. -/
def countConditionsSpec : ChangeSpec := { name := "countConditions", fn := fun _ => fun
  | [d] => { results := [.lit (.bool true)], args := [d] }
  | _ => none }
def countConditionsRow : OpenClaim := { program := "yteipiejlljnclaagreatdoor", sum := "8428bed033755956bf5578198c78f1f9a0c59383216167ac42c57b0d5d2f9425", func := "exactppl/exactppllaw22.CountConditions", spec := "countConditions", unfollowed := true, recurses := true, named := ["internal/strconv.uint64pow10", "math/bits.deBruijn32tab", "math/bits.deBruijn64tab", "math/bits.overflowError"], plainKeys := false, apart := false, laid := [("math/bits.deBruijn32tab", laid_math_bits_deBruijn32tab), ("math/bits.deBruijn64tab", laid_math_bits_deBruijn64tab), ("internal/strconv.uint64pow10", laid_internal_strconv_uint64pow10)] }
def CountConditionsSaid : Prop := countConditionsRow.holds Tryz.pinned (OpenSpec.ofChange countConditionsSpec)

/-- ITS FALSE NEIGHBOUR: 'it returns false'. Refute it at one input. -/
def countConditionsWrong : ChangeSpec := { name := "countConditions", fn := fun _ => fun
  | [d] => { results := [.lit (.bool false)], args := [d] }
  | _ => none }
def CountConditionsWrongFalsely : Prop := countConditionsRow.holds Tryz.pinned (OpenSpec.ofChange countConditionsWrong)

/-- 'exactppllaw22.CountMeasures': WHATEVER THE INPUT: true; the input reads as it did. -/
def countMeasuresSpec : ChangeSpec := { name := "countMeasures", fn := fun _ => fun
  | [d] => { results := [.lit (.bool true)], args := [d] }
  | _ => none }
def countMeasuresRow : OpenClaim := { program := "yteipiejlljnclaagreatdoor", sum := "8428bed033755956bf5578198c78f1f9a0c59383216167ac42c57b0d5d2f9425", func := "exactppl/exactppllaw22.CountMeasures", spec := "countMeasures", unfollowed := true, recurses := true, named := ["internal/strconv.uint64pow10", "math/bits.deBruijn32tab", "math/bits.deBruijn64tab", "math/bits.overflowError"], plainKeys := false, apart := false, laid := [("math/bits.deBruijn32tab", laid_math_bits_deBruijn32tab), ("math/bits.deBruijn64tab", laid_math_bits_deBruijn64tab), ("internal/strconv.uint64pow10", laid_internal_strconv_uint64pow10)] }
def CountMeasuresSaid : Prop := countMeasuresRow.holds Tryz.pinned (OpenSpec.ofChange countMeasuresSpec)

/-- ITS FALSE NEIGHBOUR: 'it returns false'. Refute it at one input. -/
def countMeasuresWrong : ChangeSpec := { name := "countMeasures", fn := fun _ => fun
  | [d] => { results := [.lit (.bool false)], args := [d] }
  | _ => none }
def CountMeasuresWrongFalsely : Prop := countMeasuresRow.holds Tryz.pinned (OpenSpec.ofChange countMeasuresWrong)

/-- 'exactppllaw22.CountSums': WHATEVER THE INPUT: true; the input reads as it did. -/
def countSumsSpec : ChangeSpec := { name := "countSums", fn := fun _ => fun
  | [d] => { results := [.lit (.bool true)], args := [d] }
  | _ => none }
def countSumsRow : OpenClaim := { program := "yteipiejlljnclaagreatdoor", sum := "8428bed033755956bf5578198c78f1f9a0c59383216167ac42c57b0d5d2f9425", func := "exactppl/exactppllaw22.CountSums", spec := "countSums", unfollowed := true, recurses := true, named := ["internal/strconv.uint64pow10", "math/bits.deBruijn32tab", "math/bits.deBruijn64tab", "math/bits.overflowError"], plainKeys := false, apart := false, laid := [("math/bits.deBruijn32tab", laid_math_bits_deBruijn32tab), ("math/bits.deBruijn64tab", laid_math_bits_deBruijn64tab), ("internal/strconv.uint64pow10", laid_internal_strconv_uint64pow10)] }
def CountSumsSaid : Prop := countSumsRow.holds Tryz.pinned (OpenSpec.ofChange countSumsSpec)

/-- ITS FALSE NEIGHBOUR: 'it returns false'. Refute it at one input. -/
def countSumsWrong : ChangeSpec := { name := "countSums", fn := fun _ => fun
  | [d] => { results := [.lit (.bool false)], args := [d] }
  | _ => none }
def CountSumsWrongFalsely : Prop := countSumsRow.holds Tryz.pinned (OpenSpec.ofChange countSumsWrong)

/-- 'exactppllaw22.CountIndependent': WHATEVER THE INPUT: true; the input reads as it did. -/
def countIndependentSpec : ChangeSpec := { name := "countIndependent", fn := fun _ => fun
  | [d] => { results := [.lit (.bool true)], args := [d] }
  | _ => none }
def countIndependentRow : OpenClaim := { program := "yteipiejlljnclaagreatdoor", sum := "8428bed033755956bf5578198c78f1f9a0c59383216167ac42c57b0d5d2f9425", func := "exactppl/exactppllaw22.CountIndependent", spec := "countIndependent", unfollowed := true, recurses := true, named := ["internal/strconv.uint64pow10", "math/bits.deBruijn32tab", "math/bits.deBruijn64tab", "math/bits.overflowError"], plainKeys := false, apart := false, laid := [("math/bits.deBruijn32tab", laid_math_bits_deBruijn32tab), ("math/bits.deBruijn64tab", laid_math_bits_deBruijn64tab), ("internal/strconv.uint64pow10", laid_internal_strconv_uint64pow10)] }
def CountIndependentSaid : Prop := countIndependentRow.holds Tryz.pinned (OpenSpec.ofChange countIndependentSpec)

/-- ITS FALSE NEIGHBOUR: 'it returns false'. Refute it at one input. -/
def countIndependentWrong : ChangeSpec := { name := "countIndependent", fn := fun _ => fun
  | [d] => { results := [.lit (.bool false)], args := [d] }
  | _ => none }
def CountIndependentWrongFalsely : Prop := countIndependentRow.holds Tryz.pinned (OpenSpec.ofChange countIndependentWrong)

/-- 'exactppllaw22.CountImages': WHATEVER THE INPUT: true; the input reads as it did. -/
def countImagesSpec : ChangeSpec := { name := "countImages", fn := fun _ => fun
  | [d] => { results := [.lit (.bool true)], args := [d] }
  | _ => none }
def countImagesRow : OpenClaim := { program := "yteipiejlljnclaagreatdoor", sum := "8428bed033755956bf5578198c78f1f9a0c59383216167ac42c57b0d5d2f9425", func := "exactppl/exactppllaw22.CountImages", spec := "countImages", unfollowed := true, recurses := true, named := ["internal/strconv.uint64pow10", "math/bits.deBruijn32tab", "math/bits.deBruijn64tab", "math/bits.overflowError"], plainKeys := false, apart := false, laid := [("math/bits.deBruijn32tab", laid_math_bits_deBruijn32tab), ("math/bits.deBruijn64tab", laid_math_bits_deBruijn64tab), ("internal/strconv.uint64pow10", laid_internal_strconv_uint64pow10)] }
def CountImagesSaid : Prop := countImagesRow.holds Tryz.pinned (OpenSpec.ofChange countImagesSpec)

/-- ITS FALSE NEIGHBOUR: 'it returns false'. Refute it at one input. -/
def countImagesWrong : ChangeSpec := { name := "countImages", fn := fun _ => fun
  | [d] => { results := [.lit (.bool false)], args := [d] }
  | _ => none }
def CountImagesWrongFalsely : Prop := countImagesRow.holds Tryz.pinned (OpenSpec.ofChange countImagesWrong)

/- THE SECOND FORM. 'bulk': how many values and letters a reading holds, each counted each time it is reached (what is shared counts as often as it is met; a slice's spare places count too). A statement '..UptoSaid' is the law's where the arguments, and the package variables that the reading takes, are together of bulk at most 1048576: NARROWER than '..Said'. Prove '..Said' where nothing that the law and all that it calls make is longer than what came in: it says more and counts as full. Else prove '..UptoSaid'. A law counts once. -/
mutual
def uptoBulk {H : Type} : DataW H → Nat
  | .lit (.string bytes) => bytes.length + 1
  | .lit _ => 1
  | .nil => 1
  | .ptr d => uptoBulk d + 1
  | .slice elems spare => uptoBulkAll elems + uptoBulkAll spare + 1
  | .agg parts => uptoBulkAll parts + 1
  | .iface _ d => uptoBulk d + 1
  | .map entries => uptoBulkEntries entries + 1
  | .held _ => 1
def uptoBulkAll {H : Type} : List (DataW H) → Nat
  | [] => 0
  | d :: r => uptoBulk d + uptoBulkAll r
def uptoBulkEntries {H : Type} : List (Lit × DataW H) → Nat
  | [] => 0
  | x :: r => uptoBulkEntry x + uptoBulkEntries r
def uptoBulkEntry {H : Type} : Lit × DataW H → Nat
  | (.string bytes, d) => bytes.length + uptoBulk d + 1
  | (_, d) => uptoBulk d + 1
 end
def uptoSmall : (H : Type) → List (DataW H) → Bool := fun _ ds => decide (uptoBulkAll ds ≤ 1048576)
def OpenSpec.upto (s : _root_.Go.ChangeSpec) : _root_.Go.OpenSpec := { _root_.Go.OpenSpec.ofChange s with cond := some uptoSmall }

/-- 'exactppllaw22.CountReaches', WHERE WHAT IT READS IS OF BULK AT MOST 1048576: true; the input reads as it did. -/
def countReachesUptoRow : OpenClaim := { program := "yteipiejlljnclaagreatdoor", sum := "8428bed033755956bf5578198c78f1f9a0c59383216167ac42c57b0d5d2f9425", func := "exactppl/exactppllaw22.CountReaches", spec := "countReaches", unfollowed := true, recurses := true, named := ["internal/strconv.uint64pow10", "math/bits.deBruijn32tab", "math/bits.deBruijn64tab", "math/bits.overflowError"], plainKeys := false, apart := false, laid := [("math/bits.deBruijn32tab", laid_math_bits_deBruijn32tab), ("math/bits.deBruijn64tab", laid_math_bits_deBruijn64tab), ("internal/strconv.uint64pow10", laid_internal_strconv_uint64pow10)], narrowed := true }
def CountReachesUptoSaid : Prop := countReachesUptoRow.holds Tryz.pinned (OpenSpec.upto countReachesSpec)

/-- 'exactppllaw22.CountExpects', WHERE WHAT IT READS IS OF BULK AT MOST 1048576: true; the input reads as it did. -/
def countExpectsUptoRow : OpenClaim := { program := "yteipiejlljnclaagreatdoor", sum := "8428bed033755956bf5578198c78f1f9a0c59383216167ac42c57b0d5d2f9425", func := "exactppl/exactppllaw22.CountExpects", spec := "countExpects", unfollowed := true, recurses := true, named := ["internal/strconv.uint64pow10", "math/bits.deBruijn32tab", "math/bits.deBruijn64tab", "math/bits.overflowError"], plainKeys := false, apart := false, laid := [("math/bits.deBruijn32tab", laid_math_bits_deBruijn32tab), ("math/bits.deBruijn64tab", laid_math_bits_deBruijn64tab), ("internal/strconv.uint64pow10", laid_internal_strconv_uint64pow10)], narrowed := true }
def CountExpectsUptoSaid : Prop := countExpectsUptoRow.holds Tryz.pinned (OpenSpec.upto countExpectsSpec)

/-- 'exactppllaw22.CountLeaves', WHERE WHAT IT READS IS OF BULK AT MOST 1048576: true; the input reads as it did. -/
def countLeavesUptoRow : OpenClaim := { program := "yteipiejlljnclaagreatdoor", sum := "8428bed033755956bf5578198c78f1f9a0c59383216167ac42c57b0d5d2f9425", func := "exactppl/exactppllaw22.CountLeaves", spec := "countLeaves", unfollowed := true, recurses := true, named := ["internal/strconv.uint64pow10", "math/bits.deBruijn32tab", "math/bits.deBruijn64tab", "math/bits.overflowError"], plainKeys := false, apart := false, laid := [("math/bits.deBruijn32tab", laid_math_bits_deBruijn32tab), ("math/bits.deBruijn64tab", laid_math_bits_deBruijn64tab), ("internal/strconv.uint64pow10", laid_internal_strconv_uint64pow10)], narrowed := true }
def CountLeavesUptoSaid : Prop := countLeavesUptoRow.holds Tryz.pinned (OpenSpec.upto countLeavesSpec)

/-- 'exactppllaw22.CountConditions', WHERE WHAT IT READS IS OF BULK AT MOST 1048576: true; the input reads as it did. -/
def countConditionsUptoRow : OpenClaim := { program := "yteipiejlljnclaagreatdoor", sum := "8428bed033755956bf5578198c78f1f9a0c59383216167ac42c57b0d5d2f9425", func := "exactppl/exactppllaw22.CountConditions", spec := "countConditions", unfollowed := true, recurses := true, named := ["internal/strconv.uint64pow10", "math/bits.deBruijn32tab", "math/bits.deBruijn64tab", "math/bits.overflowError"], plainKeys := false, apart := false, laid := [("math/bits.deBruijn32tab", laid_math_bits_deBruijn32tab), ("math/bits.deBruijn64tab", laid_math_bits_deBruijn64tab), ("internal/strconv.uint64pow10", laid_internal_strconv_uint64pow10)], narrowed := true }
def CountConditionsUptoSaid : Prop := countConditionsUptoRow.holds Tryz.pinned (OpenSpec.upto countConditionsSpec)

/-- 'exactppllaw22.CountMeasures', WHERE WHAT IT READS IS OF BULK AT MOST 1048576: true; the input reads as it did. -/
def countMeasuresUptoRow : OpenClaim := { program := "yteipiejlljnclaagreatdoor", sum := "8428bed033755956bf5578198c78f1f9a0c59383216167ac42c57b0d5d2f9425", func := "exactppl/exactppllaw22.CountMeasures", spec := "countMeasures", unfollowed := true, recurses := true, named := ["internal/strconv.uint64pow10", "math/bits.deBruijn32tab", "math/bits.deBruijn64tab", "math/bits.overflowError"], plainKeys := false, apart := false, laid := [("math/bits.deBruijn32tab", laid_math_bits_deBruijn32tab), ("math/bits.deBruijn64tab", laid_math_bits_deBruijn64tab), ("internal/strconv.uint64pow10", laid_internal_strconv_uint64pow10)], narrowed := true }
def CountMeasuresUptoSaid : Prop := countMeasuresUptoRow.holds Tryz.pinned (OpenSpec.upto countMeasuresSpec)

/-- 'exactppllaw22.CountSums', WHERE WHAT IT READS IS OF BULK AT MOST 1048576: true; the input reads as it did. -/
def countSumsUptoRow : OpenClaim := { program := "yteipiejlljnclaagreatdoor", sum := "8428bed033755956bf5578198c78f1f9a0c59383216167ac42c57b0d5d2f9425", func := "exactppl/exactppllaw22.CountSums", spec := "countSums", unfollowed := true, recurses := true, named := ["internal/strconv.uint64pow10", "math/bits.deBruijn32tab", "math/bits.deBruijn64tab", "math/bits.overflowError"], plainKeys := false, apart := false, laid := [("math/bits.deBruijn32tab", laid_math_bits_deBruijn32tab), ("math/bits.deBruijn64tab", laid_math_bits_deBruijn64tab), ("internal/strconv.uint64pow10", laid_internal_strconv_uint64pow10)], narrowed := true }
def CountSumsUptoSaid : Prop := countSumsUptoRow.holds Tryz.pinned (OpenSpec.upto countSumsSpec)

/-- 'exactppllaw22.CountIndependent', WHERE WHAT IT READS IS OF BULK AT MOST 1048576: true; the input reads as it did. -/
def countIndependentUptoRow : OpenClaim := { program := "yteipiejlljnclaagreatdoor", sum := "8428bed033755956bf5578198c78f1f9a0c59383216167ac42c57b0d5d2f9425", func := "exactppl/exactppllaw22.CountIndependent", spec := "countIndependent", unfollowed := true, recurses := true, named := ["internal/strconv.uint64pow10", "math/bits.deBruijn32tab", "math/bits.deBruijn64tab", "math/bits.overflowError"], plainKeys := false, apart := false, laid := [("math/bits.deBruijn32tab", laid_math_bits_deBruijn32tab), ("math/bits.deBruijn64tab", laid_math_bits_deBruijn64tab), ("internal/strconv.uint64pow10", laid_internal_strconv_uint64pow10)], narrowed := true }
def CountIndependentUptoSaid : Prop := countIndependentUptoRow.holds Tryz.pinned (OpenSpec.upto countIndependentSpec)

/-- 'exactppllaw22.CountImages', WHERE WHAT IT READS IS OF BULK AT MOST 1048576: true; the input reads as it did. -/
def countImagesUptoRow : OpenClaim := { program := "yteipiejlljnclaagreatdoor", sum := "8428bed033755956bf5578198c78f1f9a0c59383216167ac42c57b0d5d2f9425", func := "exactppl/exactppllaw22.CountImages", spec := "countImages", unfollowed := true, recurses := true, named := ["internal/strconv.uint64pow10", "math/bits.deBruijn32tab", "math/bits.deBruijn64tab", "math/bits.overflowError"], plainKeys := false, apart := false, laid := [("math/bits.deBruijn32tab", laid_math_bits_deBruijn32tab), ("math/bits.deBruijn64tab", laid_math_bits_deBruijn64tab), ("internal/strconv.uint64pow10", laid_internal_strconv_uint64pow10)], narrowed := true }
def CountImagesUptoSaid : Prop := countImagesUptoRow.holds Tryz.pinned (OpenSpec.upto countImagesSpec)

end Rows
end Go.Proofs.YteipiejlljnclaaGreatDoor
