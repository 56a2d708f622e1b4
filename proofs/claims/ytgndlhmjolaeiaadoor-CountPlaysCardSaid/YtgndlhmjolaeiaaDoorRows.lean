/-
  NARROWER THAN 'FOR EVERY INPUT', by the rows' own cells (each row's printed sentence says how): WatchDiffs: laid · WatchTexts: laid · CountPlays: laid · CountNames: laid · DoctorTexts: laid.
  DERIVED. THE GIVEN ROWS OF THIS SEAT. 5 by the template 'for every input the law returns true; each argument reads behind the call as it read before'; 0 by the template 'total and deterministic' (their statements: YtgndlhmjolaeiaaDoorTotals.lean).
  GIVEN WITH THE SEED: the statements are not yours to turn. If you find one false, say at which input.
  Laid BY PROGRAM, IN A SANDBOX (cutbox-rows.mjs): the forced cells as the released guide's own fill.sh prints them over the translation f33aebad1e017f57… (all of the seat's roots in one cut). By AI agents, Wed Nov 11 2026. No macro, syntax, notation, axiom, sorry.
-/
import Derived.Test.YtgndlhmjolaeiaaDoorChecked
import GoSem.Claim
import GoSem.ClaimJoined
import GoSem.ClaimMapViews
import Derived.JoinedTies
import Derived.KernelRfl
namespace Go.Proofs.YtgndlhmjolaeiaaDoor
/- THE CELL 'sum', in the pinned program and in every row, IS THE sha256 OF THE DUMP (.gsa) THAT YtgndlhmjolaeiaaDoorProg.lean LOADS. Nothing in Lean hashes anything: it is a label: what it is worth is what the hold of that sum in a sandbox is worth. -/
noncomputable def Tryd.pinned : Pinned := { name := "ytgndlhmjolaeiaadoor", sum := "f33aebad1e017f57a301daa2a5b140dd1352c42b72aaad93d001a0f315b9c5e2", checked := Tryd.checked }
namespace Rows
def none {H : Type} : Left H := { results := [], args := [] }

/- WHAT THE LISTED PACKAGE-LEVEL VARIABLES READ AS WHEN THE CALL BEGINS. Each datum BY PROGRAM (the guide's laid-datum.mjs) off the statement by which the dump's own 'gosem.cut.vars' lays the variable. In a bare row this is a premise. The card (YtgndlhmjolaeiaaDoorCards.lean) ties it to the program's text. -/
def laid_math_bits_deBruijn32tab {H : Type} : DataW H := .agg [.lit (.int .u8 0), .lit (.int .u8 1), .lit (.int .u8 28), .lit (.int .u8 2), .lit (.int .u8 29), .lit (.int .u8 14), .lit (.int .u8 24), .lit (.int .u8 3), .lit (.int .u8 30), .lit (.int .u8 22), .lit (.int .u8 20), .lit (.int .u8 15), .lit (.int .u8 25), .lit (.int .u8 17), .lit (.int .u8 4), .lit (.int .u8 8), .lit (.int .u8 31), .lit (.int .u8 27), .lit (.int .u8 13), .lit (.int .u8 23), .lit (.int .u8 21), .lit (.int .u8 19), .lit (.int .u8 16), .lit (.int .u8 7), .lit (.int .u8 26), .lit (.int .u8 12), .lit (.int .u8 18), .lit (.int .u8 6), .lit (.int .u8 11), .lit (.int .u8 5), .lit (.int .u8 10), .lit (.int .u8 9)]
def laid_math_bits_deBruijn64tab {H : Type} : DataW H := .agg [.lit (.int .u8 0), .lit (.int .u8 1), .lit (.int .u8 56), .lit (.int .u8 2), .lit (.int .u8 57), .lit (.int .u8 49), .lit (.int .u8 28), .lit (.int .u8 3), .lit (.int .u8 61), .lit (.int .u8 58), .lit (.int .u8 42), .lit (.int .u8 50), .lit (.int .u8 38), .lit (.int .u8 29), .lit (.int .u8 17), .lit (.int .u8 4), .lit (.int .u8 62), .lit (.int .u8 47), .lit (.int .u8 59), .lit (.int .u8 36), .lit (.int .u8 45), .lit (.int .u8 43), .lit (.int .u8 51), .lit (.int .u8 22), .lit (.int .u8 53), .lit (.int .u8 39), .lit (.int .u8 33), .lit (.int .u8 30), .lit (.int .u8 24), .lit (.int .u8 18), .lit (.int .u8 12), .lit (.int .u8 5), .lit (.int .u8 63), .lit (.int .u8 55), .lit (.int .u8 48), .lit (.int .u8 27), .lit (.int .u8 60), .lit (.int .u8 41), .lit (.int .u8 37), .lit (.int .u8 16), .lit (.int .u8 46), .lit (.int .u8 35), .lit (.int .u8 44), .lit (.int .u8 21), .lit (.int .u8 52), .lit (.int .u8 32), .lit (.int .u8 23), .lit (.int .u8 11), .lit (.int .u8 54), .lit (.int .u8 26), .lit (.int .u8 40), .lit (.int .u8 15), .lit (.int .u8 34), .lit (.int .u8 20), .lit (.int .u8 31), .lit (.int .u8 10), .lit (.int .u8 25), .lit (.int .u8 14), .lit (.int .u8 19), .lit (.int .u8 9), .lit (.int .u8 13), .lit (.int .u8 8), .lit (.int .u8 7), .lit (.int .u8 6)]
def laid_internal_strconv_uint64pow10 {H : Type} : DataW H := .agg [.lit (.int .u64 1), .lit (.int .u64 10), .lit (.int .u64 100), .lit (.int .u64 1000), .lit (.int .u64 10000), .lit (.int .u64 100000), .lit (.int .u64 1000000), .lit (.int .u64 10000000), .lit (.int .u64 100000000), .lit (.int .u64 1000000000), .lit (.int .u64 10000000000), .lit (.int .u64 100000000000), .lit (.int .u64 1000000000000), .lit (.int .u64 10000000000000), .lit (.int .u64 100000000000000), .lit (.int .u64 1000000000000000), .lit (.int .u64 10000000000000000), .lit (.int .u64 100000000000000000), .lit (.int .u64 1000000000000000000), .lit (.int .u64 10000000000000000000)]
def laid_fingerpost_watch_names {H : Type} : DataW H := .agg [.lit (.string []), .lit (.string [98, 101, 103, 97, 110]), .lit (.string [101, 110, 100, 101, 100]), .lit (.string [105, 115, 115, 117, 101, 100]), .lit (.string [109, 101, 116]), .lit (.string [108, 111, 115, 116]), .lit (.string [103, 97, 105, 110, 101, 100]), .lit (.string [109, 111, 118, 101, 100]), .lit (.string [100, 114, 111, 112, 112, 101, 100])]
def laid_fingerpost_count_names {H : Type} : DataW H := .agg [.lit (.string [102, 114, 97, 109, 101, 115]), .lit (.string [102, 111, 114, 109]), .lit (.string [115, 116, 114, 97, 110, 103, 101, 114, 115]), .lit (.string [116, 111, 108, 108, 115]), .lit (.string [116, 97, 103, 115]), .lit (.string [114, 101, 112, 108, 97, 121, 115]), .lit (.string [104, 101, 108, 108, 111, 115]), .lit (.string [117, 112, 100, 97, 116, 101, 115]), .lit (.string [101, 110, 116, 114, 105, 101, 115]), .lit (.string [115, 116, 97, 108, 101]), .lit (.string [114, 111, 111, 116, 108, 101, 115, 115]), .lit (.string [112, 114, 111, 111, 102, 115]), .lit (.string [104, 101, 108, 100]), .lit (.string [116, 97, 107, 101, 110]), .lit (.string [114, 101, 110, 101, 119, 97, 108, 115]), .lit (.string [115, 105, 103, 110, 115]), .lit (.string [112, 105, 101, 99, 101, 115]), .lit (.string [115, 101, 110, 116]), .lit (.string [98, 114, 111, 107, 101, 110])]
def laid_fingerpost_doctor_names {H : Type} : DataW H := .agg [.lit (.string [108, 111, 111, 112]), .lit (.string [98, 101, 108, 111, 119, 32, 105, 116, 115, 32, 102, 108, 111, 111, 114]), .lit (.string [110, 111, 116, 32, 98, 101, 108, 111, 119, 32, 116, 104, 101, 32, 110, 101, 120, 116, 32, 102, 108, 111, 111, 114]), .lit (.string [110, 111, 32, 108, 105, 110, 107]), .lit (.string [116, 111, 111, 32, 110, 101, 97, 114]), .lit (.string [102, 114, 111, 109, 32, 116, 104, 101, 32, 102, 117, 116, 117, 114, 101]), .lit (.string [116, 111, 32, 105, 116, 115, 101, 108, 102])]

/-- 'fingerpostlaw34.WatchDiffs': WHATEVER THE INPUT: true; the input reads as it did. -/
def watchDiffsSpec : ChangeSpec := { name := "watchDiffs", fn := fun _ => fun
  | [d1, d2] => { results := [.lit (.bool true)], args := [d1, d2] }
  | _ => none }
def watchDiffsRow : OpenClaim := { program := "ytgndlhmjolaeiaadoor", sum := "f33aebad1e017f57a301daa2a5b140dd1352c42b72aaad93d001a0f315b9c5e2", func := "fingerpost/fingerpostlaw34.WatchDiffs", spec := "watchDiffs", unfollowed := true, recurses := true, named := ["internal/strconv.uint64pow10", "math/bits.deBruijn32tab", "math/bits.deBruijn64tab", "fingerpost/watch.names"], apart := false, laid := [("math/bits.deBruijn32tab", laid_math_bits_deBruijn32tab), ("math/bits.deBruijn64tab", laid_math_bits_deBruijn64tab), ("internal/strconv.uint64pow10", laid_internal_strconv_uint64pow10), ("fingerpost/watch.names", laid_fingerpost_watch_names)] }
def WatchDiffsSaid : Prop := watchDiffsRow.holds Tryd.pinned (OpenSpec.ofChange watchDiffsSpec)

/-- ITS FALSE NEIGHBOUR: 'it returns false'. Refute it at one input. -/
def watchDiffsWrong : ChangeSpec := { name := "watchDiffs", fn := fun _ => fun
  | [d1, d2] => { results := [.lit (.bool false)], args := [d1, d2] }
  | _ => none }
def WatchDiffsWrongFalsely : Prop := watchDiffsRow.holds Tryd.pinned (OpenSpec.ofChange watchDiffsWrong)

/-- 'fingerpostlaw34.WatchTexts': WHATEVER THE INPUT: true; the input reads as it did. -/
def watchTextsSpec : ChangeSpec := { name := "watchTexts", fn := fun _ => fun
  | [d] => { results := [.lit (.bool true)], args := [d] }
  | _ => none }
def watchTextsRow : OpenClaim := { program := "ytgndlhmjolaeiaadoor", sum := "f33aebad1e017f57a301daa2a5b140dd1352c42b72aaad93d001a0f315b9c5e2", func := "fingerpost/fingerpostlaw34.WatchTexts", spec := "watchTexts", unfollowed := true, recurses := true, named := ["internal/strconv.uint64pow10", "math/bits.deBruijn32tab", "math/bits.deBruijn64tab", "fingerpost/watch.names"], apart := false, laid := [("math/bits.deBruijn32tab", laid_math_bits_deBruijn32tab), ("math/bits.deBruijn64tab", laid_math_bits_deBruijn64tab), ("internal/strconv.uint64pow10", laid_internal_strconv_uint64pow10), ("fingerpost/watch.names", laid_fingerpost_watch_names)] }
def WatchTextsSaid : Prop := watchTextsRow.holds Tryd.pinned (OpenSpec.ofChange watchTextsSpec)

/-- ITS FALSE NEIGHBOUR: 'it returns false'. Refute it at one input. -/
def watchTextsWrong : ChangeSpec := { name := "watchTexts", fn := fun _ => fun
  | [d] => { results := [.lit (.bool false)], args := [d] }
  | _ => none }
def WatchTextsWrongFalsely : Prop := watchTextsRow.holds Tryd.pinned (OpenSpec.ofChange watchTextsWrong)

/-- 'fingerpostlaw24.CountPlays': WHATEVER THE INPUT: true; the input reads as it did. -/
def countPlaysSpec : ChangeSpec := { name := "countPlays", fn := fun _ => fun
  | [d] => { results := [.lit (.bool true)], args := [d] }
  | _ => none }
def countPlaysRow : OpenClaim := { program := "ytgndlhmjolaeiaadoor", sum := "f33aebad1e017f57a301daa2a5b140dd1352c42b72aaad93d001a0f315b9c5e2", func := "fingerpost/fingerpostlaw24.CountPlays", spec := "countPlays", inPlace := ["sync/atomic.AddInt64", "sync/atomic.LoadInt64", "internal/abi.NoEscape", "internal/bytealg.MakeNoZero"], named := ["fingerpost/count.names", "internal/strconv.uint64pow10", "math/bits.deBruijn32tab", "math/bits.deBruijn64tab"], apart := false, laid := [("math/bits.deBruijn32tab", laid_math_bits_deBruijn32tab), ("math/bits.deBruijn64tab", laid_math_bits_deBruijn64tab), ("internal/strconv.uint64pow10", laid_internal_strconv_uint64pow10), ("fingerpost/count.names", laid_fingerpost_count_names)] }
def CountPlaysSaid : Prop := countPlaysRow.holds Tryd.pinned (OpenSpec.ofChange countPlaysSpec)

/-- ITS FALSE NEIGHBOUR: 'it returns false'. Refute it at one input. -/
def countPlaysWrong : ChangeSpec := { name := "countPlays", fn := fun _ => fun
  | [d] => { results := [.lit (.bool false)], args := [d] }
  | _ => none }
def CountPlaysWrongFalsely : Prop := countPlaysRow.holds Tryd.pinned (OpenSpec.ofChange countPlaysWrong)

/-- 'fingerpostlaw24.CountNames': WHATEVER THE INPUT: true; the input reads as it did. -/
def countNamesSpec : ChangeSpec := { name := "countNames", fn := fun _ => fun
  | [d1, d2, d3] => { results := [.lit (.bool true)], args := [d1, d2, d3] }
  | _ => none }
def countNamesRow : OpenClaim := { program := "ytgndlhmjolaeiaadoor", sum := "f33aebad1e017f57a301daa2a5b140dd1352c42b72aaad93d001a0f315b9c5e2", func := "fingerpost/fingerpostlaw24.CountNames", spec := "countNames", inPlace := ["sync/atomic.AddInt64", "sync/atomic.LoadInt64", "internal/abi.NoEscape", "internal/bytealg.MakeNoZero"], named := ["fingerpost/count.names", "internal/strconv.uint64pow10", "math/bits.deBruijn32tab", "math/bits.deBruijn64tab"], apart := false, laid := [("math/bits.deBruijn32tab", laid_math_bits_deBruijn32tab), ("math/bits.deBruijn64tab", laid_math_bits_deBruijn64tab), ("internal/strconv.uint64pow10", laid_internal_strconv_uint64pow10), ("fingerpost/count.names", laid_fingerpost_count_names)] }
def CountNamesSaid : Prop := countNamesRow.holds Tryd.pinned (OpenSpec.ofChange countNamesSpec)

/-- ITS FALSE NEIGHBOUR: 'it returns false'. Refute it at one input. -/
def countNamesWrong : ChangeSpec := { name := "countNames", fn := fun _ => fun
  | [d1, d2, d3] => { results := [.lit (.bool false)], args := [d1, d2, d3] }
  | _ => none }
def CountNamesWrongFalsely : Prop := countNamesRow.holds Tryd.pinned (OpenSpec.ofChange countNamesWrong)

/-- 'fingerpostlaw33.DoctorTexts': WHATEVER THE INPUT: true; the input reads as it did. -/
def doctorTextsSpec : ChangeSpec := { name := "doctorTexts", fn := fun _ => fun
  | [d1, d2, d3] => { results := [.lit (.bool true)], args := [d1, d2, d3] }
  | _ => none }
def doctorTextsRow : OpenClaim := { program := "ytgndlhmjolaeiaadoor", sum := "f33aebad1e017f57a301daa2a5b140dd1352c42b72aaad93d001a0f315b9c5e2", func := "fingerpost/fingerpostlaw33.DoctorTexts", spec := "doctorTexts", unfollowed := true, recurses := true, named := ["fingerpost/doctor.names", "internal/strconv.uint64pow10", "math/bits.deBruijn32tab", "math/bits.deBruijn64tab"], apart := false, laid := [("math/bits.deBruijn32tab", laid_math_bits_deBruijn32tab), ("math/bits.deBruijn64tab", laid_math_bits_deBruijn64tab), ("internal/strconv.uint64pow10", laid_internal_strconv_uint64pow10), ("fingerpost/doctor.names", laid_fingerpost_doctor_names)] }
def DoctorTextsSaid : Prop := doctorTextsRow.holds Tryd.pinned (OpenSpec.ofChange doctorTextsSpec)

/-- ITS FALSE NEIGHBOUR: 'it returns false'. Refute it at one input. -/
def doctorTextsWrong : ChangeSpec := { name := "doctorTexts", fn := fun _ => fun
  | [d1, d2, d3] => { results := [.lit (.bool false)], args := [d1, d2, d3] }
  | _ => none }
def DoctorTextsWrongFalsely : Prop := doctorTextsRow.holds Tryd.pinned (OpenSpec.ofChange doctorTextsWrong)

/- THE SECOND FORM. 'bulk': how many values and letters a reading holds, each counted each time it is reached (what is shared counts as often as it is met; a slice's spare places count too). A statement '..UptoSaid' is the law's where the arguments, and the package variables that the reading takes, are together of bulk at most 1048576: NARROWER than '..Said'. Prove '..Said' where nothing that the law and all that it calls make is longer than what came in: it says more and counts as full. Else prove '..UptoSaid'. A law counts once. -/
mutual
def uptoBulk {H : Type} : DataW H → Nat
  | .lit (.string bytes) => bytes.length + 1
  | .lit _ => 1
  | .nil => 1
  | .ptr d => uptoBulk d + 1
  | .slice elems spare => uptoBulkAll elems + uptoBulkAll spare + 1
  | .agg parts => uptoBulkAll parts + 1
  | .iface _ d => uptoBulk d + 1
  | .map entries => uptoBulkEntries entries + 1
  | .held _ => 1
def uptoBulkAll {H : Type} : List (DataW H) → Nat
  | [] => 0
  | d :: r => uptoBulk d + uptoBulkAll r
def uptoBulkEntries {H : Type} : List (Lit × DataW H) → Nat
  | [] => 0
  | x :: r => uptoBulkEntry x + uptoBulkEntries r
def uptoBulkEntry {H : Type} : Lit × DataW H → Nat
  | (.string bytes, d) => bytes.length + uptoBulk d + 1
  | (_, d) => uptoBulk d + 1
 end
def uptoSmall : (H : Type) → List (DataW H) → Bool := fun _ ds => decide (uptoBulkAll ds ≤ 1048576)
def OpenSpec.upto (s : _root_.Go.ChangeSpec) : _root_.Go.OpenSpec := { _root_.Go.OpenSpec.ofChange s with cond := some uptoSmall }

/-- 'fingerpostlaw34.WatchDiffs', WHERE WHAT IT READS IS OF BULK AT MOST 1048576: true; the input reads as it did. -/
def watchDiffsUptoRow : OpenClaim := { program := "ytgndlhmjolaeiaadoor", sum := "f33aebad1e017f57a301daa2a5b140dd1352c42b72aaad93d001a0f315b9c5e2", func := "fingerpost/fingerpostlaw34.WatchDiffs", spec := "watchDiffs", unfollowed := true, recurses := true, named := ["internal/strconv.uint64pow10", "math/bits.deBruijn32tab", "math/bits.deBruijn64tab", "fingerpost/watch.names"], apart := false, laid := [("math/bits.deBruijn32tab", laid_math_bits_deBruijn32tab), ("math/bits.deBruijn64tab", laid_math_bits_deBruijn64tab), ("internal/strconv.uint64pow10", laid_internal_strconv_uint64pow10), ("fingerpost/watch.names", laid_fingerpost_watch_names)], narrowed := true }
def WatchDiffsUptoSaid : Prop := watchDiffsUptoRow.holds Tryd.pinned (OpenSpec.upto watchDiffsSpec)

/-- 'fingerpostlaw34.WatchTexts', WHERE WHAT IT READS IS OF BULK AT MOST 1048576: true; the input reads as it did. -/
def watchTextsUptoRow : OpenClaim := { program := "ytgndlhmjolaeiaadoor", sum := "f33aebad1e017f57a301daa2a5b140dd1352c42b72aaad93d001a0f315b9c5e2", func := "fingerpost/fingerpostlaw34.WatchTexts", spec := "watchTexts", unfollowed := true, recurses := true, named := ["internal/strconv.uint64pow10", "math/bits.deBruijn32tab", "math/bits.deBruijn64tab", "fingerpost/watch.names"], apart := false, laid := [("math/bits.deBruijn32tab", laid_math_bits_deBruijn32tab), ("math/bits.deBruijn64tab", laid_math_bits_deBruijn64tab), ("internal/strconv.uint64pow10", laid_internal_strconv_uint64pow10), ("fingerpost/watch.names", laid_fingerpost_watch_names)], narrowed := true }
def WatchTextsUptoSaid : Prop := watchTextsUptoRow.holds Tryd.pinned (OpenSpec.upto watchTextsSpec)

/-- 'fingerpostlaw24.CountPlays', WHERE WHAT IT READS IS OF BULK AT MOST 1048576: true; the input reads as it did. -/
def countPlaysUptoRow : OpenClaim := { program := "ytgndlhmjolaeiaadoor", sum := "f33aebad1e017f57a301daa2a5b140dd1352c42b72aaad93d001a0f315b9c5e2", func := "fingerpost/fingerpostlaw24.CountPlays", spec := "countPlays", inPlace := ["sync/atomic.AddInt64", "sync/atomic.LoadInt64", "internal/abi.NoEscape", "internal/bytealg.MakeNoZero"], named := ["fingerpost/count.names", "internal/strconv.uint64pow10", "math/bits.deBruijn32tab", "math/bits.deBruijn64tab"], apart := false, laid := [("math/bits.deBruijn32tab", laid_math_bits_deBruijn32tab), ("math/bits.deBruijn64tab", laid_math_bits_deBruijn64tab), ("internal/strconv.uint64pow10", laid_internal_strconv_uint64pow10), ("fingerpost/count.names", laid_fingerpost_count_names)], narrowed := true }
def CountPlaysUptoSaid : Prop := countPlaysUptoRow.holds Tryd.pinned (OpenSpec.upto countPlaysSpec)

/-- 'fingerpostlaw24.CountNames', WHERE WHAT IT READS IS OF BULK AT MOST 1048576: true; the input reads as it did. -/
def countNamesUptoRow : OpenClaim := { program := "ytgndlhmjolaeiaadoor", sum := "f33aebad1e017f57a301daa2a5b140dd1352c42b72aaad93d001a0f315b9c5e2", func := "fingerpost/fingerpostlaw24.CountNames", spec := "countNames", inPlace := ["sync/atomic.AddInt64", "sync/atomic.LoadInt64", "internal/abi.NoEscape", "internal/bytealg.MakeNoZero"], named := ["fingerpost/count.names", "internal/strconv.uint64pow10", "math/bits.deBruijn32tab", "math/bits.deBruijn64tab"], apart := false, laid := [("math/bits.deBruijn32tab", laid_math_bits_deBruijn32tab), ("math/bits.deBruijn64tab", laid_math_bits_deBruijn64tab), ("internal/strconv.uint64pow10", laid_internal_strconv_uint64pow10), ("fingerpost/count.names", laid_fingerpost_count_names)], narrowed := true }
def CountNamesUptoSaid : Prop := countNamesUptoRow.holds Tryd.pinned (OpenSpec.upto countNamesSpec)

/-- 'fingerpostlaw33.DoctorTexts', WHERE WHAT IT READS IS OF BULK AT MOST 1048576: true; the input reads as it did. -/
def doctorTextsUptoRow : OpenClaim := { program := "ytgndlhmjolaeiaadoor", sum := "f33aebad1e017f57a301daa2a5b140dd1352c42b72aaad93d001a0f315b9c5e2", func := "fingerpost/fingerpostlaw33.DoctorTexts", spec := "doctorTexts", unfollowed := true, recurses := true, named := ["fingerpost/doctor.names", "internal/strconv.uint64pow10", "math/bits.deBruijn32tab", "math/bits.deBruijn64tab"], apart := false, laid := [("math/bits.deBruijn32tab", laid_math_bits_deBruijn32tab), ("math/bits.deBruijn64tab", laid_math_bits_deBruijn64tab), ("internal/strconv.uint64pow10", laid_internal_strconv_uint64pow10), ("fingerpost/doctor.names", laid_fingerpost_doctor_names)], narrowed := true }
def DoctorTextsUptoSaid : Prop := doctorTextsUptoRow.holds Tryd.pinned (OpenSpec.upto doctorTextsSpec)

end Rows
end Go.Proofs.YtgndlhmjolaeiaaDoor
