/-
  NARROWER THAN 'FOR EVERY INPUT', by the rows' own cells (each row's printed sentence says how): RangesAt: laid · RangesStops: laid · RangesHolds: laid · RangesOf: laid · RangesNear: laid · RangesKept: laid · RangesTwo: laid · RangesLaws: laid.
  DERIVED. THE GIVEN ROWS OF THIS SEAT. 8 by the template 'for every input the law returns true; each argument reads behind the call as it read before'; 0 by the template 'total and deterministic' (their statements: YtcahamgecejmnaaDoorTotals.lean).
  GIVEN WITH THE SEED: the statements are not yours to turn. If you find one false, say at which input.
  Laid BY PROGRAM, IN A SANDBOX (cutbox-rows.mjs): the forced cells as the released guide's own fill.sh prints them over the translation c575edd9f6c34062… (all of the seat's roots in one cut). By AI agents, Wed Nov 11 2026. No macro, syntax, notation, axiom, sorry.
-/
import Derived.Test.YtcahamgecejmnaaDoorChecked
import GoSem.Claim
import GoSem.ClaimJoined
import GoSem.ClaimMapViews
import Derived.JoinedTies
import Derived.KernelRfl
namespace Go.Proofs.YtcahamgecejmnaaDoor
/- THE CELL 'sum', in the pinned program and in every row, IS THE sha256 OF THE DUMP (.gsa) THAT YtcahamgecejmnaaDoorProg.lean LOADS. Nothing in Lean hashes anything: it is a label: what it is worth is what the hold of that sum in a sandbox is worth. -/
noncomputable def Tryd.pinned : Pinned := { name := "ytcahamgecejmnaadoor", sum := "c575edd9f6c34062da5f31465969bd0f83cbabfc1ff0fac7b9112abb75db98c5", checked := Tryd.checked }
namespace Rows
def none {H : Type} : Left H := { results := [], args := [] }

/- WHAT THE LISTED PACKAGE-LEVEL VARIABLES READ AS WHEN THE CALL BEGINS. Each datum BY PROGRAM (the guide's laid-datum.mjs) off the statement by which the dump's own 'gosem.cut.vars' lays the variable. In a bare row this is a premise. The card (YtcahamgecejmnaaDoorCards.lean) ties it to the program's text. -/
def laid_math_bits_deBruijn32tab {H : Type} : DataW H := .agg [.lit (.int .u8 0), .lit (.int .u8 1), .lit (.int .u8 28), .lit (.int .u8 2), .lit (.int .u8 29), .lit (.int .u8 14), .lit (.int .u8 24), .lit (.int .u8 3), .lit (.int .u8 30), .lit (.int .u8 22), .lit (.int .u8 20), .lit (.int .u8 15), .lit (.int .u8 25), .lit (.int .u8 17), .lit (.int .u8 4), .lit (.int .u8 8), .lit (.int .u8 31), .lit (.int .u8 27), .lit (.int .u8 13), .lit (.int .u8 23), .lit (.int .u8 21), .lit (.int .u8 19), .lit (.int .u8 16), .lit (.int .u8 7), .lit (.int .u8 26), .lit (.int .u8 12), .lit (.int .u8 18), .lit (.int .u8 6), .lit (.int .u8 11), .lit (.int .u8 5), .lit (.int .u8 10), .lit (.int .u8 9)]
def laid_math_bits_deBruijn64tab {H : Type} : DataW H := .agg [.lit (.int .u8 0), .lit (.int .u8 1), .lit (.int .u8 56), .lit (.int .u8 2), .lit (.int .u8 57), .lit (.int .u8 49), .lit (.int .u8 28), .lit (.int .u8 3), .lit (.int .u8 61), .lit (.int .u8 58), .lit (.int .u8 42), .lit (.int .u8 50), .lit (.int .u8 38), .lit (.int .u8 29), .lit (.int .u8 17), .lit (.int .u8 4), .lit (.int .u8 62), .lit (.int .u8 47), .lit (.int .u8 59), .lit (.int .u8 36), .lit (.int .u8 45), .lit (.int .u8 43), .lit (.int .u8 51), .lit (.int .u8 22), .lit (.int .u8 53), .lit (.int .u8 39), .lit (.int .u8 33), .lit (.int .u8 30), .lit (.int .u8 24), .lit (.int .u8 18), .lit (.int .u8 12), .lit (.int .u8 5), .lit (.int .u8 63), .lit (.int .u8 55), .lit (.int .u8 48), .lit (.int .u8 27), .lit (.int .u8 60), .lit (.int .u8 41), .lit (.int .u8 37), .lit (.int .u8 16), .lit (.int .u8 46), .lit (.int .u8 35), .lit (.int .u8 44), .lit (.int .u8 21), .lit (.int .u8 52), .lit (.int .u8 32), .lit (.int .u8 23), .lit (.int .u8 11), .lit (.int .u8 54), .lit (.int .u8 26), .lit (.int .u8 40), .lit (.int .u8 15), .lit (.int .u8 34), .lit (.int .u8 20), .lit (.int .u8 31), .lit (.int .u8 10), .lit (.int .u8 25), .lit (.int .u8 14), .lit (.int .u8 19), .lit (.int .u8 9), .lit (.int .u8 13), .lit (.int .u8 8), .lit (.int .u8 7), .lit (.int .u8 6)]
def laid_internal_strconv_uint64pow10 {H : Type} : DataW H := .agg [.lit (.int .u64 1), .lit (.int .u64 10), .lit (.int .u64 100), .lit (.int .u64 1000), .lit (.int .u64 10000), .lit (.int .u64 100000), .lit (.int .u64 1000000), .lit (.int .u64 10000000), .lit (.int .u64 100000000), .lit (.int .u64 1000000000), .lit (.int .u64 10000000000), .lit (.int .u64 100000000000), .lit (.int .u64 1000000000000), .lit (.int .u64 10000000000000), .lit (.int .u64 100000000000000), .lit (.int .u64 1000000000000000), .lit (.int .u64 10000000000000000), .lit (.int .u64 100000000000000000), .lit (.int .u64 1000000000000000000), .lit (.int .u64 10000000000000000000)]

/-- 'mandolinelaw02.RangesAt': WHATEVER THE INPUT: true; the input reads as it did. -/
def rangesAtSpec : ChangeSpec := { name := "rangesAt", fn := fun _ => fun
  | [d1, d2] => { results := [.lit (.bool true)], args := [d1, d2] }
  | _ => none }
def rangesAtRow : OpenClaim := { program := "ytcahamgecejmnaadoor", sum := "c575edd9f6c34062da5f31465969bd0f83cbabfc1ff0fac7b9112abb75db98c5", func := "mandoline/mandolinelaw02.RangesAt", spec := "rangesAt", inPlace := ["internal/abi.NoEscape", "internal/bytealg.MakeNoZero"], unfollowed := true, recurses := true, named := ["internal/strconv.uint64pow10", "math/bits.deBruijn32tab", "math/bits.deBruijn64tab"], apart := false, laid := [("math/bits.deBruijn32tab", laid_math_bits_deBruijn32tab), ("math/bits.deBruijn64tab", laid_math_bits_deBruijn64tab), ("internal/strconv.uint64pow10", laid_internal_strconv_uint64pow10)] }
def RangesAtSaid : Prop := rangesAtRow.holds Tryd.pinned (OpenSpec.ofChange rangesAtSpec)

/-- ITS FALSE NEIGHBOUR: 'it returns false'. Refute it at one input. -/
def rangesAtWrong : ChangeSpec := { name := "rangesAt", fn := fun _ => fun
  | [d1, d2] => { results := [.lit (.bool false)], args := [d1, d2] }
  | _ => none }
def RangesAtWrongFalsely : Prop := rangesAtRow.holds Tryd.pinned (OpenSpec.ofChange rangesAtWrong)

/-- 'mandolinelaw02.RangesStops': WHATEVER THE INPUT: true; the input reads as it did. -/
def rangesStopsSpec : ChangeSpec := { name := "rangesStops", fn := fun _ => fun
  | [d1, d2] => { results := [.lit (.bool true)], args := [d1, d2] }
  | _ => none }
def rangesStopsRow : OpenClaim := { program := "ytcahamgecejmnaadoor", sum := "c575edd9f6c34062da5f31465969bd0f83cbabfc1ff0fac7b9112abb75db98c5", func := "mandoline/mandolinelaw02.RangesStops", spec := "rangesStops", inPlace := ["internal/abi.NoEscape", "internal/bytealg.MakeNoZero"], unfollowed := true, recurses := true, named := ["internal/strconv.uint64pow10", "math/bits.deBruijn32tab", "math/bits.deBruijn64tab"], apart := false, laid := [("math/bits.deBruijn32tab", laid_math_bits_deBruijn32tab), ("math/bits.deBruijn64tab", laid_math_bits_deBruijn64tab), ("internal/strconv.uint64pow10", laid_internal_strconv_uint64pow10)] }
def RangesStopsSaid : Prop := rangesStopsRow.holds Tryd.pinned (OpenSpec.ofChange rangesStopsSpec)

/-- ITS FALSE NEIGHBOUR: 'it returns false'. Refute it at one input. -/
def rangesStopsWrong : ChangeSpec := { name := "rangesStops", fn := fun _ => fun
  | [d1, d2] => { results := [.lit (.bool false)], args := [d1, d2] }
  | _ => none }
def RangesStopsWrongFalsely : Prop := rangesStopsRow.holds Tryd.pinned (OpenSpec.ofChange rangesStopsWrong)

/-- 'mandolinelaw02.RangesHolds': WHATEVER THE INPUT: true; the input reads as it did. -/
def rangesHoldsSpec : ChangeSpec := { name := "rangesHolds", fn := fun _ => fun
  | [d1, d2] => { results := [.lit (.bool true)], args := [d1, d2] }
  | _ => none }
def rangesHoldsRow : OpenClaim := { program := "ytcahamgecejmnaadoor", sum := "c575edd9f6c34062da5f31465969bd0f83cbabfc1ff0fac7b9112abb75db98c5", func := "mandoline/mandolinelaw02.RangesHolds", spec := "rangesHolds", inPlace := ["internal/abi.NoEscape", "internal/bytealg.MakeNoZero"], unfollowed := true, recurses := true, named := ["internal/strconv.uint64pow10", "math/bits.deBruijn32tab", "math/bits.deBruijn64tab"], apart := false, laid := [("math/bits.deBruijn32tab", laid_math_bits_deBruijn32tab), ("math/bits.deBruijn64tab", laid_math_bits_deBruijn64tab), ("internal/strconv.uint64pow10", laid_internal_strconv_uint64pow10)] }
def RangesHoldsSaid : Prop := rangesHoldsRow.holds Tryd.pinned (OpenSpec.ofChange rangesHoldsSpec)

/-- ITS FALSE NEIGHBOUR: 'it returns false'. Refute it at one input. -/
def rangesHoldsWrong : ChangeSpec := { name := "rangesHolds", fn := fun _ => fun
  | [d1, d2] => { results := [.lit (.bool false)], args := [d1, d2] }
  | _ => none }
def RangesHoldsWrongFalsely : Prop := rangesHoldsRow.holds Tryd.pinned (OpenSpec.ofChange rangesHoldsWrong)

/-- 'mandolinelaw02.RangesOf': WHATEVER THE INPUT: true; the input reads as it did. -/
def rangesOfSpec : ChangeSpec := { name := "rangesOf", fn := fun _ => fun
  | [d] => { results := [.lit (.bool true)], args := [d] }
  | _ => none }
def rangesOfRow : OpenClaim := { program := "ytcahamgecejmnaadoor", sum := "c575edd9f6c34062da5f31465969bd0f83cbabfc1ff0fac7b9112abb75db98c5", func := "mandoline/mandolinelaw02.RangesOf", spec := "rangesOf", inPlace := ["internal/abi.NoEscape", "internal/bytealg.MakeNoZero"], unfollowed := true, recurses := true, named := ["internal/strconv.uint64pow10", "math/bits.deBruijn32tab", "math/bits.deBruijn64tab"], apart := false, laid := [("math/bits.deBruijn32tab", laid_math_bits_deBruijn32tab), ("math/bits.deBruijn64tab", laid_math_bits_deBruijn64tab), ("internal/strconv.uint64pow10", laid_internal_strconv_uint64pow10)] }
def RangesOfSaid : Prop := rangesOfRow.holds Tryd.pinned (OpenSpec.ofChange rangesOfSpec)

/-- ITS FALSE NEIGHBOUR: 'it returns false'. Refute it at one input. -/
def rangesOfWrong : ChangeSpec := { name := "rangesOf", fn := fun _ => fun
  | [d] => { results := [.lit (.bool false)], args := [d] }
  | _ => none }
def RangesOfWrongFalsely : Prop := rangesOfRow.holds Tryd.pinned (OpenSpec.ofChange rangesOfWrong)

/-- 'mandolinelaw02.RangesNear': WHATEVER THE INPUT: true; the input reads as it did. -/
def rangesNearSpec : ChangeSpec := { name := "rangesNear", fn := fun _ => fun
  | [d1, d2] => { results := [.lit (.bool true)], args := [d1, d2] }
  | _ => none }
def rangesNearRow : OpenClaim := { program := "ytcahamgecejmnaadoor", sum := "c575edd9f6c34062da5f31465969bd0f83cbabfc1ff0fac7b9112abb75db98c5", func := "mandoline/mandolinelaw02.RangesNear", spec := "rangesNear", inPlace := ["internal/abi.NoEscape", "internal/bytealg.MakeNoZero"], unfollowed := true, recurses := true, named := ["internal/strconv.uint64pow10", "math/bits.deBruijn32tab", "math/bits.deBruijn64tab"], apart := false, laid := [("math/bits.deBruijn32tab", laid_math_bits_deBruijn32tab), ("math/bits.deBruijn64tab", laid_math_bits_deBruijn64tab), ("internal/strconv.uint64pow10", laid_internal_strconv_uint64pow10)] }
def RangesNearSaid : Prop := rangesNearRow.holds Tryd.pinned (OpenSpec.ofChange rangesNearSpec)

/-- ITS FALSE NEIGHBOUR: 'it returns false'. Refute it at one input. -/
def rangesNearWrong : ChangeSpec := { name := "rangesNear", fn := fun _ => fun
  | [d1, d2] => { results := [.lit (.bool false)], args := [d1, d2] }
  | _ => none }
def RangesNearWrongFalsely : Prop := rangesNearRow.holds Tryd.pinned (OpenSpec.ofChange rangesNearWrong)

/-- 'mandolinelaw02.RangesKept': WHATEVER THE INPUT: true; the input reads as it did. -/
def rangesKeptSpec : ChangeSpec := { name := "rangesKept", fn := fun _ => fun
  | [d1, d2] => { results := [.lit (.bool true)], args := [d1, d2] }
  | _ => none }
def rangesKeptRow : OpenClaim := { program := "ytcahamgecejmnaadoor", sum := "c575edd9f6c34062da5f31465969bd0f83cbabfc1ff0fac7b9112abb75db98c5", func := "mandoline/mandolinelaw02.RangesKept", spec := "rangesKept", inPlace := ["internal/abi.NoEscape", "internal/bytealg.MakeNoZero"], unfollowed := true, recurses := true, named := ["internal/strconv.uint64pow10", "math/bits.deBruijn32tab", "math/bits.deBruijn64tab"], apart := false, laid := [("math/bits.deBruijn32tab", laid_math_bits_deBruijn32tab), ("math/bits.deBruijn64tab", laid_math_bits_deBruijn64tab), ("internal/strconv.uint64pow10", laid_internal_strconv_uint64pow10)] }
def RangesKeptSaid : Prop := rangesKeptRow.holds Tryd.pinned (OpenSpec.ofChange rangesKeptSpec)

/-- ITS FALSE NEIGHBOUR: 'it returns false'. Refute it at one input. -/
def rangesKeptWrong : ChangeSpec := { name := "rangesKept", fn := fun _ => fun
  | [d1, d2] => { results := [.lit (.bool false)], args := [d1, d2] }
  | _ => none }
def RangesKeptWrongFalsely : Prop := rangesKeptRow.holds Tryd.pinned (OpenSpec.ofChange rangesKeptWrong)

/-- 'mandolinelaw02.RangesTwo': WHATEVER THE INPUT: true; the input reads as it did. -/
def rangesTwoSpec : ChangeSpec := { name := "rangesTwo", fn := fun _ => fun
  | [d1, d2] => { results := [.lit (.bool true)], args := [d1, d2] }
  | _ => none }
def rangesTwoRow : OpenClaim := { program := "ytcahamgecejmnaadoor", sum := "c575edd9f6c34062da5f31465969bd0f83cbabfc1ff0fac7b9112abb75db98c5", func := "mandoline/mandolinelaw02.RangesTwo", spec := "rangesTwo", inPlace := ["internal/abi.NoEscape", "internal/bytealg.MakeNoZero"], unfollowed := true, recurses := true, named := ["internal/strconv.uint64pow10", "math/bits.deBruijn32tab", "math/bits.deBruijn64tab"], apart := false, laid := [("math/bits.deBruijn32tab", laid_math_bits_deBruijn32tab), ("math/bits.deBruijn64tab", laid_math_bits_deBruijn64tab), ("internal/strconv.uint64pow10", laid_internal_strconv_uint64pow10)] }
def RangesTwoSaid : Prop := rangesTwoRow.holds Tryd.pinned (OpenSpec.ofChange rangesTwoSpec)

/-- ITS FALSE NEIGHBOUR: 'it returns false'. Refute it at one input. -/
def rangesTwoWrong : ChangeSpec := { name := "rangesTwo", fn := fun _ => fun
  | [d1, d2] => { results := [.lit (.bool false)], args := [d1, d2] }
  | _ => none }
def RangesTwoWrongFalsely : Prop := rangesTwoRow.holds Tryd.pinned (OpenSpec.ofChange rangesTwoWrong)

/-- 'mandolinelaw02.RangesLaws': WHATEVER THE INPUT: true; the input reads as it did. -/
def rangesLawsSpec : ChangeSpec := { name := "rangesLaws", fn := fun _ => fun
  | [d1, d2, d3] => { results := [.lit (.bool true)], args := [d1, d2, d3] }
  | _ => none }
def rangesLawsRow : OpenClaim := { program := "ytcahamgecejmnaadoor", sum := "c575edd9f6c34062da5f31465969bd0f83cbabfc1ff0fac7b9112abb75db98c5", func := "mandoline/mandolinelaw02.RangesLaws", spec := "rangesLaws", inPlace := ["internal/abi.NoEscape", "internal/bytealg.MakeNoZero"], unfollowed := true, recurses := true, named := ["internal/strconv.uint64pow10", "math/bits.deBruijn32tab", "math/bits.deBruijn64tab"], apart := false, laid := [("math/bits.deBruijn32tab", laid_math_bits_deBruijn32tab), ("math/bits.deBruijn64tab", laid_math_bits_deBruijn64tab), ("internal/strconv.uint64pow10", laid_internal_strconv_uint64pow10)] }
def RangesLawsSaid : Prop := rangesLawsRow.holds Tryd.pinned (OpenSpec.ofChange rangesLawsSpec)

/-- ITS FALSE NEIGHBOUR: 'it returns false'. Refute it at one input. -/
def rangesLawsWrong : ChangeSpec := { name := "rangesLaws", fn := fun _ => fun
  | [d1, d2, d3] => { results := [.lit (.bool false)], args := [d1, d2, d3] }
  | _ => none }
def RangesLawsWrongFalsely : Prop := rangesLawsRow.holds Tryd.pinned (OpenSpec.ofChange rangesLawsWrong)

/- THE SECOND FORM. 'bulk': how many values and letters a reading holds, each counted each time it is reached (what is shared counts as often as it is met; a slice's spare places count too). A statement '..UptoSaid' is the law's where the arguments, and the package variables that the reading takes, are together of bulk at most 1048576: NARROWER than '..Said'. Prove '..Said' where nothing that the law and all that it calls make is longer than what came in: it says more and counts as full. Else prove '..UptoSaid'. A law counts once. -/
mutual
def uptoBulk {H : Type} : DataW H → Nat
  | .lit (.string bytes) => bytes.length + 1
  | .lit _ => 1
  | .nil => 1
  | .ptr d => uptoBulk d + 1
  | .slice elems spare => uptoBulkAll elems + uptoBulkAll spare + 1
  | .agg parts => uptoBulkAll parts + 1
  | .iface _ d => uptoBulk d + 1
  | .map entries => uptoBulkEntries entries + 1
  | .held _ => 1
def uptoBulkAll {H : Type} : List (DataW H) → Nat
  | [] => 0
  | d :: r => uptoBulk d + uptoBulkAll r
def uptoBulkEntries {H : Type} : List (Lit × DataW H) → Nat
  | [] => 0
  | x :: r => uptoBulkEntry x + uptoBulkEntries r
def uptoBulkEntry {H : Type} : Lit × DataW H → Nat
  | (.string bytes, d) => bytes.length + uptoBulk d + 1
  | (_, d) => uptoBulk d + 1
 end
def uptoSmall : (H : Type) → List (DataW H) → Bool := fun _ ds => decide (uptoBulkAll ds ≤ 1048576)
def OpenSpec.upto (s : _root_.Go.ChangeSpec) : _root_.Go.OpenSpec := { _root_.Go.OpenSpec.ofChange s with cond := some uptoSmall }

/-- 'mandolinelaw02.RangesAt', WHERE WHAT IT READS IS OF BULK AT MOST 1048576: true; the input reads as it did. -/
def rangesAtUptoRow : OpenClaim := { program := "ytcahamgecejmnaadoor", sum := "c575edd9f6c34062da5f31465969bd0f83cbabfc1ff0fac7b9112abb75db98c5", func := "mandoline/mandolinelaw02.RangesAt", spec := "rangesAt", inPlace := ["internal/abi.NoEscape", "internal/bytealg.MakeNoZero"], unfollowed := true, recurses := true, named := ["internal/strconv.uint64pow10", "math/bits.deBruijn32tab", "math/bits.deBruijn64tab"], apart := false, laid := [("math/bits.deBruijn32tab", laid_math_bits_deBruijn32tab), ("math/bits.deBruijn64tab", laid_math_bits_deBruijn64tab), ("internal/strconv.uint64pow10", laid_internal_strconv_uint64pow10)], narrowed := true }
def RangesAtUptoSaid : Prop := rangesAtUptoRow.holds Tryd.pinned (OpenSpec.upto rangesAtSpec)

/-- 'mandolinelaw02.RangesStops', WHERE WHAT IT READS IS OF BULK AT MOST 1048576: true; the input reads as it did. -/
def rangesStopsUptoRow : OpenClaim := { program := "ytcahamgecejmnaadoor", sum := "c575edd9f6c34062da5f31465969bd0f83cbabfc1ff0fac7b9112abb75db98c5", func := "mandoline/mandolinelaw02.RangesStops", spec := "rangesStops", inPlace := ["internal/abi.NoEscape", "internal/bytealg.MakeNoZero"], unfollowed := true, recurses := true, named := ["internal/strconv.uint64pow10", "math/bits.deBruijn32tab", "math/bits.deBruijn64tab"], apart := false, laid := [("math/bits.deBruijn32tab", laid_math_bits_deBruijn32tab), ("math/bits.deBruijn64tab", laid_math_bits_deBruijn64tab), ("internal/strconv.uint64pow10", laid_internal_strconv_uint64pow10)], narrowed := true }
def RangesStopsUptoSaid : Prop := rangesStopsUptoRow.holds Tryd.pinned (OpenSpec.upto rangesStopsSpec)

/-- 'mandolinelaw02.RangesHolds', WHERE WHAT IT READS IS OF BULK AT MOST 1048576: true; the input reads as it did. -/
def rangesHoldsUptoRow : OpenClaim := { program := "ytcahamgecejmnaadoor", sum := "c575edd9f6c34062da5f31465969bd0f83cbabfc1ff0fac7b9112abb75db98c5", func := "mandoline/mandolinelaw02.RangesHolds", spec := "rangesHolds", inPlace := ["internal/abi.NoEscape", "internal/bytealg.MakeNoZero"], unfollowed := true, recurses := true, named := ["internal/strconv.uint64pow10", "math/bits.deBruijn32tab", "math/bits.deBruijn64tab"], apart := false, laid := [("math/bits.deBruijn32tab", laid_math_bits_deBruijn32tab), ("math/bits.deBruijn64tab", laid_math_bits_deBruijn64tab), ("internal/strconv.uint64pow10", laid_internal_strconv_uint64pow10)], narrowed := true }
def RangesHoldsUptoSaid : Prop := rangesHoldsUptoRow.holds Tryd.pinned (OpenSpec.upto rangesHoldsSpec)

/-- 'mandolinelaw02.RangesOf', WHERE WHAT IT READS IS OF BULK AT MOST 1048576: true; the input reads as it did. -/
def rangesOfUptoRow : OpenClaim := { program := "ytcahamgecejmnaadoor", sum := "c575edd9f6c34062da5f31465969bd0f83cbabfc1ff0fac7b9112abb75db98c5", func := "mandoline/mandolinelaw02.RangesOf", spec := "rangesOf", inPlace := ["internal/abi.NoEscape", "internal/bytealg.MakeNoZero"], unfollowed := true, recurses := true, named := ["internal/strconv.uint64pow10", "math/bits.deBruijn32tab", "math/bits.deBruijn64tab"], apart := false, laid := [("math/bits.deBruijn32tab", laid_math_bits_deBruijn32tab), ("math/bits.deBruijn64tab", laid_math_bits_deBruijn64tab), ("internal/strconv.uint64pow10", laid_internal_strconv_uint64pow10)], narrowed := true }
def RangesOfUptoSaid : Prop := rangesOfUptoRow.holds Tryd.pinned (OpenSpec.upto rangesOfSpec)

/-- 'mandolinelaw02.RangesNear', WHERE WHAT IT READS IS OF BULK AT MOST 1048576: true; the input reads as it did. -/
def rangesNearUptoRow : OpenClaim := { program := "ytcahamgecejmnaadoor", sum := "c575edd9f6c34062da5f31465969bd0f83cbabfc1ff0fac7b9112abb75db98c5", func := "mandoline/mandolinelaw02.RangesNear", spec := "rangesNear", inPlace := ["internal/abi.NoEscape", "internal/bytealg.MakeNoZero"], unfollowed := true, recurses := true, named := ["internal/strconv.uint64pow10", "math/bits.deBruijn32tab", "math/bits.deBruijn64tab"], apart := false, laid := [("math/bits.deBruijn32tab", laid_math_bits_deBruijn32tab), ("math/bits.deBruijn64tab", laid_math_bits_deBruijn64tab), ("internal/strconv.uint64pow10", laid_internal_strconv_uint64pow10)], narrowed := true }
def RangesNearUptoSaid : Prop := rangesNearUptoRow.holds Tryd.pinned (OpenSpec.upto rangesNearSpec)

/-- 'mandolinelaw02.RangesKept', WHERE WHAT IT READS IS OF BULK AT MOST 1048576: true; the input reads as it did. -/
def rangesKeptUptoRow : OpenClaim := { program := "ytcahamgecejmnaadoor", sum := "c575edd9f6c34062da5f31465969bd0f83cbabfc1ff0fac7b9112abb75db98c5", func := "mandoline/mandolinelaw02.RangesKept", spec := "rangesKept", inPlace := ["internal/abi.NoEscape", "internal/bytealg.MakeNoZero"], unfollowed := true, recurses := true, named := ["internal/strconv.uint64pow10", "math/bits.deBruijn32tab", "math/bits.deBruijn64tab"], apart := false, laid := [("math/bits.deBruijn32tab", laid_math_bits_deBruijn32tab), ("math/bits.deBruijn64tab", laid_math_bits_deBruijn64tab), ("internal/strconv.uint64pow10", laid_internal_strconv_uint64pow10)], narrowed := true }
def RangesKeptUptoSaid : Prop := rangesKeptUptoRow.holds Tryd.pinned (OpenSpec.upto rangesKeptSpec)

/-- 'mandolinelaw02.RangesTwo', WHERE WHAT IT READS IS OF BULK AT MOST 1048576: true; the input reads as it did. -/
def rangesTwoUptoRow : OpenClaim := { program := "ytcahamgecejmnaadoor", sum := "c575edd9f6c34062da5f31465969bd0f83cbabfc1ff0fac7b9112abb75db98c5", func := "mandoline/mandolinelaw02.RangesTwo", spec := "rangesTwo", inPlace := ["internal/abi.NoEscape", "internal/bytealg.MakeNoZero"], unfollowed := true, recurses := true, named := ["internal/strconv.uint64pow10", "math/bits.deBruijn32tab", "math/bits.deBruijn64tab"], apart := false, laid := [("math/bits.deBruijn32tab", laid_math_bits_deBruijn32tab), ("math/bits.deBruijn64tab", laid_math_bits_deBruijn64tab), ("internal/strconv.uint64pow10", laid_internal_strconv_uint64pow10)], narrowed := true }
def RangesTwoUptoSaid : Prop := rangesTwoUptoRow.holds Tryd.pinned (OpenSpec.upto rangesTwoSpec)

/-- 'mandolinelaw02.RangesLaws', WHERE WHAT IT READS IS OF BULK AT MOST 1048576: true; the input reads as it did. -/
def rangesLawsUptoRow : OpenClaim := { program := "ytcahamgecejmnaadoor", sum := "c575edd9f6c34062da5f31465969bd0f83cbabfc1ff0fac7b9112abb75db98c5", func := "mandoline/mandolinelaw02.RangesLaws", spec := "rangesLaws", inPlace := ["internal/abi.NoEscape", "internal/bytealg.MakeNoZero"], unfollowed := true, recurses := true, named := ["internal/strconv.uint64pow10", "math/bits.deBruijn32tab", "math/bits.deBruijn64tab"], apart := false, laid := [("math/bits.deBruijn32tab", laid_math_bits_deBruijn32tab), ("math/bits.deBruijn64tab", laid_math_bits_deBruijn64tab), ("internal/strconv.uint64pow10", laid_internal_strconv_uint64pow10)], narrowed := true }
def RangesLawsUptoSaid : Prop := rangesLawsUptoRow.holds Tryd.pinned (OpenSpec.upto rangesLawsSpec)

end Rows
end Go.Proofs.YtcahamgecejmnaaDoor
