/-
  NARROWER THAN 'FOR EVERY INPUT', by the rows' own cells (each row's printed sentence says how): PolarChecks: laid · PolarClosed: laid · RefineNormal: laid · RefineSame: laid · RefineNames: laid · RefineTwice: laid.
  DERIVED. THE GIVEN ROWS OF THIS SEAT. 6 by the template 'for every input the law returns true; each argument reads behind the call as it read before'; 0 by the template 'total and deterministic' (their statements: YtmknnanbmkmnjaaGreatDoorTotals.lean).
  GIVEN WITH THE SEED: the statements are not yours to turn. If you find one false, say at which input.
  Laid BY PROGRAM, IN A SANDBOX (cutbox-rows.mjs): the forced cells as the released guide's own fill.sh prints them over the translation ed22d92d8a6e4dac… (all of the seat's roots in one cut). By AI agents, Wed Nov 11 2026. No macro, syntax, notation, axiom, sorry.
-/
import Derived.Test.YtmknnanbmkmnjaaGreatDoorChecked
import GoSem.Claim
import GoSem.ClaimJoined
import GoSem.ClaimMapViews
import Derived.JoinedTies
import Derived.KernelRfl
namespace Go.Proofs.YtmknnanbmkmnjaaGreatDoor
/- THE CELL 'sum', in the pinned program and in every row, IS THE sha256 OF THE DUMP (.gsa) THAT YtmknnanbmkmnjaaGreatDoorProg.lean LOADS. Nothing in Lean hashes anything: it is a label: what it is worth is what the hold of that sum in a sandbox is worth. -/
noncomputable def Tryz.pinned : Pinned := { name := "ytmknnanbmkmnjaagreatdoor", sum := "ed22d92d8a6e4dac9d960832a5923369974717d7f7a28238894348ff429b5c9e", checked := Tryz.checked }
namespace Rows
def none {H : Type} : Left H := { results := [], args := [] }

/- WHAT THE LISTED PACKAGE-LEVEL VARIABLES READ AS WHEN THE CALL BEGINS. Each datum BY PROGRAM (the guide's laid-datum.mjs) off the statement by which the dump's own 'gosem.cut.vars' lays the variable. In a bare row this is a premise. The card (YtmknnanbmkmnjaaGreatDoorCards.lean) ties it to the program's text. -/
def laid_math_bits_deBruijn32tab {H : Type} : DataW H := .agg [.lit (.int .u8 0), .lit (.int .u8 1), .lit (.int .u8 28), .lit (.int .u8 2), .lit (.int .u8 29), .lit (.int .u8 14), .lit (.int .u8 24), .lit (.int .u8 3), .lit (.int .u8 30), .lit (.int .u8 22), .lit (.int .u8 20), .lit (.int .u8 15), .lit (.int .u8 25), .lit (.int .u8 17), .lit (.int .u8 4), .lit (.int .u8 8), .lit (.int .u8 31), .lit (.int .u8 27), .lit (.int .u8 13), .lit (.int .u8 23), .lit (.int .u8 21), .lit (.int .u8 19), .lit (.int .u8 16), .lit (.int .u8 7), .lit (.int .u8 26), .lit (.int .u8 12), .lit (.int .u8 18), .lit (.int .u8 6), .lit (.int .u8 11), .lit (.int .u8 5), .lit (.int .u8 10), .lit (.int .u8 9)]
def laid_math_bits_deBruijn64tab {H : Type} : DataW H := .agg [.lit (.int .u8 0), .lit (.int .u8 1), .lit (.int .u8 56), .lit (.int .u8 2), .lit (.int .u8 57), .lit (.int .u8 49), .lit (.int .u8 28), .lit (.int .u8 3), .lit (.int .u8 61), .lit (.int .u8 58), .lit (.int .u8 42), .lit (.int .u8 50), .lit (.int .u8 38), .lit (.int .u8 29), .lit (.int .u8 17), .lit (.int .u8 4), .lit (.int .u8 62), .lit (.int .u8 47), .lit (.int .u8 59), .lit (.int .u8 36), .lit (.int .u8 45), .lit (.int .u8 43), .lit (.int .u8 51), .lit (.int .u8 22), .lit (.int .u8 53), .lit (.int .u8 39), .lit (.int .u8 33), .lit (.int .u8 30), .lit (.int .u8 24), .lit (.int .u8 18), .lit (.int .u8 12), .lit (.int .u8 5), .lit (.int .u8 63), .lit (.int .u8 55), .lit (.int .u8 48), .lit (.int .u8 27), .lit (.int .u8 60), .lit (.int .u8 41), .lit (.int .u8 37), .lit (.int .u8 16), .lit (.int .u8 46), .lit (.int .u8 35), .lit (.int .u8 44), .lit (.int .u8 21), .lit (.int .u8 52), .lit (.int .u8 32), .lit (.int .u8 23), .lit (.int .u8 11), .lit (.int .u8 54), .lit (.int .u8 26), .lit (.int .u8 40), .lit (.int .u8 15), .lit (.int .u8 34), .lit (.int .u8 20), .lit (.int .u8 31), .lit (.int .u8 10), .lit (.int .u8 25), .lit (.int .u8 14), .lit (.int .u8 19), .lit (.int .u8 9), .lit (.int .u8 13), .lit (.int .u8 8), .lit (.int .u8 7), .lit (.int .u8 6)]
def laid_internal_strconv_uint64pow10 {H : Type} : DataW H := .agg [.lit (.int .u64 1), .lit (.int .u64 10), .lit (.int .u64 100), .lit (.int .u64 1000), .lit (.int .u64 10000), .lit (.int .u64 100000), .lit (.int .u64 1000000), .lit (.int .u64 10000000), .lit (.int .u64 100000000), .lit (.int .u64 1000000000), .lit (.int .u64 10000000000), .lit (.int .u64 100000000000), .lit (.int .u64 1000000000000), .lit (.int .u64 10000000000000), .lit (.int .u64 100000000000000), .lit (.int .u64 1000000000000000), .lit (.int .u64 10000000000000000), .lit (.int .u64 100000000000000000), .lit (.int .u64 1000000000000000000), .lit (.int .u64 10000000000000000000)]

/-- 'azimuthlaw15.PolarChecks': WHATEVER THE INPUT: true; the input reads as it did. -/
def polarChecksSpec : ChangeSpec := { name := "polarChecks", fn := fun _ => fun
  | [d] => { results := [.lit (.bool true)], args := [d] }
  | _ => none }
def polarChecksRow : OpenClaim := { program := "ytmknnanbmkmnjaagreatdoor", sum := "ed22d92d8a6e4dac9d960832a5923369974717d7f7a28238894348ff429b5c9e", func := "azimuth/azimuthlaw15.PolarChecks", spec := "polarChecks", inPlace := ["math.Float64frombits", "internal/bytealg.IndexByteString"], unfollowed := true, recurses := true, named := ["internal/strconv.uint64pow10", "math/bits.deBruijn32tab", "math/bits.deBruijn64tab"], plainKeys := false, apart := false, laid := [("math/bits.deBruijn32tab", laid_math_bits_deBruijn32tab), ("math/bits.deBruijn64tab", laid_math_bits_deBruijn64tab), ("internal/strconv.uint64pow10", laid_internal_strconv_uint64pow10)] }
def PolarChecksSaid : Prop := polarChecksRow.holds Tryz.pinned (OpenSpec.ofChange polarChecksSpec)

/-- ITS FALSE NEIGHBOUR: 'it returns false'. Refute it at one input. -/
def polarChecksWrong : ChangeSpec := { name := "polarChecks", fn := fun _ => fun
  | [d] => { results := [.lit (.bool false)], args := [d] }
  | _ => none }
def PolarChecksWrongFalsely : Prop := polarChecksRow.holds Tryz.pinned (OpenSpec.ofChange polarChecksWrong)

/-- 'azimuthlaw15.PolarClosed': WHATEVER THE INPUT: true; the input reads as it did. -/
def polarClosedSpec : ChangeSpec := { name := "polarClosed", fn := fun _ => fun
  | [d] => { results := [.lit (.bool true)], args := [d] }
  | _ => none }
def polarClosedRow : OpenClaim := { program := "ytmknnanbmkmnjaagreatdoor", sum := "ed22d92d8a6e4dac9d960832a5923369974717d7f7a28238894348ff429b5c9e", func := "azimuth/azimuthlaw15.PolarClosed", spec := "polarClosed", inPlace := ["math.Float64frombits", "internal/bytealg.IndexByteString"], unfollowed := true, recurses := true, named := ["internal/strconv.uint64pow10", "math/bits.deBruijn32tab", "math/bits.deBruijn64tab"], plainKeys := false, apart := false, laid := [("math/bits.deBruijn32tab", laid_math_bits_deBruijn32tab), ("math/bits.deBruijn64tab", laid_math_bits_deBruijn64tab), ("internal/strconv.uint64pow10", laid_internal_strconv_uint64pow10)] }
def PolarClosedSaid : Prop := polarClosedRow.holds Tryz.pinned (OpenSpec.ofChange polarClosedSpec)

/-- ITS FALSE NEIGHBOUR: 'it returns false'. Refute it at one input. -/
def polarClosedWrong : ChangeSpec := { name := "polarClosed", fn := fun _ => fun
  | [d] => { results := [.lit (.bool false)], args := [d] }
  | _ => none }
def PolarClosedWrongFalsely : Prop := polarClosedRow.holds Tryz.pinned (OpenSpec.ofChange polarClosedWrong)

/-- 'azimuthlaw16.RefineNormal': WHATEVER THE INPUT: true; the input reads as it did. -/
def refineNormalSpec : ChangeSpec := { name := "refineNormal", fn := fun _ => fun
  | [d] => { results := [.lit (.bool true)], args := [d] }
  | _ => none }
def refineNormalRow : OpenClaim := { program := "ytmknnanbmkmnjaagreatdoor", sum := "ed22d92d8a6e4dac9d960832a5923369974717d7f7a28238894348ff429b5c9e", func := "azimuth/azimuthlaw16.RefineNormal", spec := "refineNormal", inPlace := ["math.Float64frombits", "internal/bytealg.IndexByteString"], unfollowed := true, recurses := true, named := ["internal/strconv.uint64pow10", "math/bits.deBruijn32tab", "math/bits.deBruijn64tab"], plainKeys := false, apart := false, laid := [("math/bits.deBruijn32tab", laid_math_bits_deBruijn32tab), ("math/bits.deBruijn64tab", laid_math_bits_deBruijn64tab), ("internal/strconv.uint64pow10", laid_internal_strconv_uint64pow10)] }
def RefineNormalSaid : Prop := refineNormalRow.holds Tryz.pinned (OpenSpec.ofChange refineNormalSpec)

/-- ITS FALSE NEIGHBOUR: 'it returns false'. Refute it at one input. -/
def refineNormalWrong : ChangeSpec := { name := "refineNormal", fn := fun _ => fun
  | [d] => { results := [.lit (.bool false)], args := [d] }
  | _ => none }
def RefineNormalWrongFalsely : Prop := refineNormalRow.holds Tryz.pinned (OpenSpec.ofChange refineNormalWrong)

/-- 'azimuthlaw16.RefineSame': WHATEVER THE INPUT: true; the input reads as it did. -/
def refineSameSpec : ChangeSpec := { name := "refineSame", fn := fun _ => fun
  | [d1, d2, d3] => { results := [.lit (.bool true)], args := [d1, d2, d3] }
  | _ => none }
def refineSameRow : OpenClaim := { program := "ytmknnanbmkmnjaagreatdoor", sum := "ed22d92d8a6e4dac9d960832a5923369974717d7f7a28238894348ff429b5c9e", func := "azimuth/azimuthlaw16.RefineSame", spec := "refineSame", inPlace := ["math.Float64frombits", "internal/bytealg.IndexByteString"], unfollowed := true, recurses := true, named := ["internal/strconv.uint64pow10", "math/bits.deBruijn32tab", "math/bits.deBruijn64tab"], plainKeys := false, apart := false, laid := [("math/bits.deBruijn32tab", laid_math_bits_deBruijn32tab), ("math/bits.deBruijn64tab", laid_math_bits_deBruijn64tab), ("internal/strconv.uint64pow10", laid_internal_strconv_uint64pow10)] }
def RefineSameSaid : Prop := refineSameRow.holds Tryz.pinned (OpenSpec.ofChange refineSameSpec)

/-- ITS FALSE NEIGHBOUR: 'it returns false'. Refute it at one input. -/
def refineSameWrong : ChangeSpec := { name := "refineSame", fn := fun _ => fun
  | [d1, d2, d3] => { results := [.lit (.bool false)], args := [d1, d2, d3] }
  | _ => none }
def RefineSameWrongFalsely : Prop := refineSameRow.holds Tryz.pinned (OpenSpec.ofChange refineSameWrong)

/-- 'azimuthlaw16.RefineNames': WHATEVER THE INPUT: true; the input reads as it did. -/
def refineNamesSpec : ChangeSpec := { name := "refineNames", fn := fun _ => fun
  | [d1, d2, d3] => { results := [.lit (.bool true)], args := [d1, d2, d3] }
  | _ => none }
def refineNamesRow : OpenClaim := { program := "ytmknnanbmkmnjaagreatdoor", sum := "ed22d92d8a6e4dac9d960832a5923369974717d7f7a28238894348ff429b5c9e", func := "azimuth/azimuthlaw16.RefineNames", spec := "refineNames", inPlace := ["math.Float64frombits", "internal/bytealg.IndexByteString"], unfollowed := true, recurses := true, named := ["internal/strconv.uint64pow10", "math/bits.deBruijn32tab", "math/bits.deBruijn64tab"], plainKeys := false, apart := false, laid := [("math/bits.deBruijn32tab", laid_math_bits_deBruijn32tab), ("math/bits.deBruijn64tab", laid_math_bits_deBruijn64tab), ("internal/strconv.uint64pow10", laid_internal_strconv_uint64pow10)] }
def RefineNamesSaid : Prop := refineNamesRow.holds Tryz.pinned (OpenSpec.ofChange refineNamesSpec)

/-- ITS FALSE NEIGHBOUR: 'it returns false'. Refute it at one input. -/
def refineNamesWrong : ChangeSpec := { name := "refineNames", fn := fun _ => fun
  | [d1, d2, d3] => { results := [.lit (.bool false)], args := [d1, d2, d3] }
  | _ => none }
def RefineNamesWrongFalsely : Prop := refineNamesRow.holds Tryz.pinned (OpenSpec.ofChange refineNamesWrong)

/-- 'azimuthlaw16.RefineTwice': WHATEVER THE INPUT: true; the input reads as it did. -/
def refineTwiceSpec : ChangeSpec := { name := "refineTwice", fn := fun _ => fun
  | [d] => { results := [.lit (.bool true)], args := [d] }
  | _ => none }
def refineTwiceRow : OpenClaim := { program := "ytmknnanbmkmnjaagreatdoor", sum := "ed22d92d8a6e4dac9d960832a5923369974717d7f7a28238894348ff429b5c9e", func := "azimuth/azimuthlaw16.RefineTwice", spec := "refineTwice", inPlace := ["math.Float64frombits", "internal/bytealg.IndexByteString"], unfollowed := true, recurses := true, named := ["internal/strconv.uint64pow10", "math/bits.deBruijn32tab", "math/bits.deBruijn64tab"], plainKeys := false, apart := false, laid := [("math/bits.deBruijn32tab", laid_math_bits_deBruijn32tab), ("math/bits.deBruijn64tab", laid_math_bits_deBruijn64tab), ("internal/strconv.uint64pow10", laid_internal_strconv_uint64pow10)] }
def RefineTwiceSaid : Prop := refineTwiceRow.holds Tryz.pinned (OpenSpec.ofChange refineTwiceSpec)

/-- ITS FALSE NEIGHBOUR: 'it returns false'. Refute it at one input. -/
def refineTwiceWrong : ChangeSpec := { name := "refineTwice", fn := fun _ => fun
  | [d] => { results := [.lit (.bool false)], args := [d] }
  | _ => none }
def RefineTwiceWrongFalsely : Prop := refineTwiceRow.holds Tryz.pinned (OpenSpec.ofChange refineTwiceWrong)

/- THE SECOND FORM. 'bulk': how many values and letters a reading holds, each counted each time it is reached (what is shared counts as often as it is met; a slice's spare places count too). A statement '..UptoSaid' is the law's where the arguments, and the package variables that the reading takes, are together of bulk at most 1048576: NARROWER than '..Said'. Prove '..Said' where nothing that the law and all that it calls make is longer than what came in: it says more and counts as full. Else prove '..UptoSaid'. A law counts once. -/
mutual
def uptoBulk {H : Type} : DataW H → Nat
  | .lit (.string bytes) => bytes.length + 1
  | .lit _ => 1
  | .nil => 1
  | .ptr d => uptoBulk d + 1
  | .slice elems spare => uptoBulkAll elems + uptoBulkAll spare + 1
  | .agg parts => uptoBulkAll parts + 1
  | .iface _ d => uptoBulk d + 1
  | .map entries => uptoBulkEntries entries + 1
  | .held _ => 1
def uptoBulkAll {H : Type} : List (DataW H) → Nat
  | [] => 0
  | d :: r => uptoBulk d + uptoBulkAll r
def uptoBulkEntries {H : Type} : List (Lit × DataW H) → Nat
  | [] => 0
  | x :: r => uptoBulkEntry x + uptoBulkEntries r
def uptoBulkEntry {H : Type} : Lit × DataW H → Nat
  | (.string bytes, d) => bytes.length + uptoBulk d + 1
  | (_, d) => uptoBulk d + 1
 end
def uptoSmall : (H : Type) → List (DataW H) → Bool := fun _ ds => decide (uptoBulkAll ds ≤ 1048576)
def OpenSpec.upto (s : _root_.Go.ChangeSpec) : _root_.Go.OpenSpec := { _root_.Go.OpenSpec.ofChange s with cond := some uptoSmall }

/-- 'azimuthlaw15.PolarChecks', WHERE WHAT IT READS IS OF BULK AT MOST 1048576: true; the input reads as it did. -/
def polarChecksUptoRow : OpenClaim := { program := "ytmknnanbmkmnjaagreatdoor", sum := "ed22d92d8a6e4dac9d960832a5923369974717d7f7a28238894348ff429b5c9e", func := "azimuth/azimuthlaw15.PolarChecks", spec := "polarChecks", inPlace := ["math.Float64frombits", "internal/bytealg.IndexByteString"], unfollowed := true, recurses := true, named := ["internal/strconv.uint64pow10", "math/bits.deBruijn32tab", "math/bits.deBruijn64tab"], plainKeys := false, apart := false, laid := [("math/bits.deBruijn32tab", laid_math_bits_deBruijn32tab), ("math/bits.deBruijn64tab", laid_math_bits_deBruijn64tab), ("internal/strconv.uint64pow10", laid_internal_strconv_uint64pow10)], narrowed := true }
def PolarChecksUptoSaid : Prop := polarChecksUptoRow.holds Tryz.pinned (OpenSpec.upto polarChecksSpec)

/-- 'azimuthlaw15.PolarClosed', WHERE WHAT IT READS IS OF BULK AT MOST 1048576: true; the input reads as it did. -/
def polarClosedUptoRow : OpenClaim := { program := "ytmknnanbmkmnjaagreatdoor", sum := "ed22d92d8a6e4dac9d960832a5923369974717d7f7a28238894348ff429b5c9e", func := "azimuth/azimuthlaw15.PolarClosed", spec := "polarClosed", inPlace := ["math.Float64frombits", "internal/bytealg.IndexByteString"], unfollowed := true, recurses := true, named := ["internal/strconv.uint64pow10", "math/bits.deBruijn32tab", "math/bits.deBruijn64tab"], plainKeys := false, apart := false, laid := [("math/bits.deBruijn32tab", laid_math_bits_deBruijn32tab), ("math/bits.deBruijn64tab", laid_math_bits_deBruijn64tab), ("internal/strconv.uint64pow10", laid_internal_strconv_uint64pow10)], narrowed := true }
def PolarClosedUptoSaid : Prop := polarClosedUptoRow.holds Tryz.pinned (OpenSpec.upto polarClosedSpec)

/-- 'azimuthlaw16.RefineNormal', WHERE WHAT IT READS IS OF BULK AT MOST 1048576: true; the input reads as it did. -/
def refineNormalUptoRow : OpenClaim := { program := "ytmknnanbmkmnjaagreatdoor", sum := "ed22d92d8a6e4dac9d960832a5923369974717d7f7a28238894348ff429b5c9e", func := "azimuth/azimuthlaw16.RefineNormal", spec := "refineNormal", inPlace := ["math.Float64frombits", "internal/bytealg.IndexByteString"], unfollowed := true, recurses := true, named := ["internal/strconv.uint64pow10", "math/bits.deBruijn32tab", "math/bits.deBruijn64tab"], plainKeys := false, apart := false, laid := [("math/bits.deBruijn32tab", laid_math_bits_deBruijn32tab), ("math/bits.deBruijn64tab", laid_math_bits_deBruijn64tab), ("internal/strconv.uint64pow10", laid_internal_strconv_uint64pow10)], narrowed := true }
def RefineNormalUptoSaid : Prop := refineNormalUptoRow.holds Tryz.pinned (OpenSpec.upto refineNormalSpec)

/-- 'azimuthlaw16.RefineSame', WHERE WHAT IT READS IS OF BULK AT MOST 1048576: true; the input reads as it did. -/
def refineSameUptoRow : OpenClaim := { program := "ytmknnanbmkmnjaagreatdoor", sum := "ed22d92d8a6e4dac9d960832a5923369974717d7f7a28238894348ff429b5c9e", func := "azimuth/azimuthlaw16.RefineSame", spec := "refineSame", inPlace := ["math.Float64frombits", "internal/bytealg.IndexByteString"], unfollowed := true, recurses := true, named := ["internal/strconv.uint64pow10", "math/bits.deBruijn32tab", "math/bits.deBruijn64tab"], plainKeys := false, apart := false, laid := [("math/bits.deBruijn32tab", laid_math_bits_deBruijn32tab), ("math/bits.deBruijn64tab", laid_math_bits_deBruijn64tab), ("internal/strconv.uint64pow10", laid_internal_strconv_uint64pow10)], narrowed := true }
def RefineSameUptoSaid : Prop := refineSameUptoRow.holds Tryz.pinned (OpenSpec.upto refineSameSpec)

/-- 'azimuthlaw16.RefineNames', WHERE WHAT IT READS IS OF BULK AT MOST 1048576: true; the input reads as it did. -/
def refineNamesUptoRow : OpenClaim := { program := "ytmknnanbmkmnjaagreatdoor", sum := "ed22d92d8a6e4dac9d960832a5923369974717d7f7a28238894348ff429b5c9e", func := "azimuth/azimuthlaw16.RefineNames", spec := "refineNames", inPlace := ["math.Float64frombits", "internal/bytealg.IndexByteString"], unfollowed := true, recurses := true, named := ["internal/strconv.uint64pow10", "math/bits.deBruijn32tab", "math/bits.deBruijn64tab"], plainKeys := false, apart := false, laid := [("math/bits.deBruijn32tab", laid_math_bits_deBruijn32tab), ("math/bits.deBruijn64tab", laid_math_bits_deBruijn64tab), ("internal/strconv.uint64pow10", laid_internal_strconv_uint64pow10)], narrowed := true }
def RefineNamesUptoSaid : Prop := refineNamesUptoRow.holds Tryz.pinned (OpenSpec.upto refineNamesSpec)

/-- 'azimuthlaw16.RefineTwice', WHERE WHAT IT READS IS OF BULK AT MOST 1048576: true; the input reads as it did. -/
def refineTwiceUptoRow : OpenClaim := { program := "ytmknnanbmkmnjaagreatdoor", sum := "ed22d92d8a6e4dac9d960832a5923369974717d7f7a28238894348ff429b5c9e", func := "azimuth/azimuthlaw16.RefineTwice", spec := "refineTwice", inPlace := ["math.Float64frombits", "internal/bytealg.IndexByteString"], unfollowed := true, recurses := true, named := ["internal/strconv.uint64pow10", "math/bits.deBruijn32tab", "math/bits.deBruijn64tab"], plainKeys := false, apart := false, laid := [("math/bits.deBruijn32tab", laid_math_bits_deBruijn32tab), ("math/bits.deBruijn64tab", laid_math_bits_deBruijn64tab), ("internal/strconv.uint64pow10", laid_internal_strconv_uint64pow10)], narrowed := true }
def RefineTwiceUptoSaid : Prop := refineTwiceUptoRow.holds Tryz.pinned (OpenSpec.upto refineTwiceSpec)

end Rows
end Go.Proofs.YtmknnanbmkmnjaaGreatDoor
