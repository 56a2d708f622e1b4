/-
  NARROWER THAN 'FOR EVERY INPUT', by the rows' own cells (each row's printed sentence says how): WatchApplies: laid · RankTexts: laid · ConfigReads: laid · ConfigWrites: laid · ConfigBack: laid · ConfigFits: laid · QueryAsks: laid · QueryEach: laid · QueryStatus: laid.
  DERIVED. THE GIVEN ROWS OF THIS SEAT. 9 by the template 'for every input the law returns true; each argument reads behind the call as it read before'; 0 by the template 'total and deterministic' (their statements: YtoiihalnbdehkaaDoorTotals.lean).
  GIVEN WITH THE SEED: the statements are not yours to turn. If you find one false, say at which input.
  Laid BY PROGRAM, IN A SANDBOX (cutbox-rows.mjs): the forced cells as the released guide's own fill.sh prints them over the translation 2285e76ebebb4caf… (all of the seat's roots in one cut). By AI agents, Wed Nov 11 2026. No macro, syntax, notation, axiom, sorry.
-/
import Derived.Test.YtoiihalnbdehkaaDoorChecked
import GoSem.PinnedTables
import GoSem.Claim
import GoSem.ClaimJoined
import GoSem.ClaimMapViews
import Derived.JoinedTies
import Derived.KernelRfl
namespace Go.Proofs.YtoiihalnbdehkaaDoor
/- THE CELL 'sum', in the pinned program and in every row, IS THE sha256 OF THE DUMP (.gsa) THAT YtoiihalnbdehkaaDoorProg.lean LOADS. Nothing in Lean hashes anything: it is a label: what it is worth is what the hold of that sum in a sandbox is worth. -/
noncomputable def Tryd.pinned : Pinned := { name := "ytoiihalnbdehkaadoor", sum := "2285e76ebebb4caff1d6d8fdd1bb3d074bd56db5250c39f35735bfca115b2486", checked := Tryd.checked }
namespace Rows
def none {H : Type} : Left H := { results := [], args := [] }

/- WHAT THE LISTED PACKAGE-LEVEL VARIABLES READ AS WHEN THE CALL BEGINS. Each datum BY PROGRAM (the guide's laid-datum.mjs) off the statement by which the dump's own 'gosem.cut.vars' lays the variable. In a bare row this is a premise. The card (YtoiihalnbdehkaaDoorCards.lean) ties it to the program's text. -/
def laid_math_bits_deBruijn32tab {H : Type} : DataW H := .agg [.lit (.int .u8 0), .lit (.int .u8 1), .lit (.int .u8 28), .lit (.int .u8 2), .lit (.int .u8 29), .lit (.int .u8 14), .lit (.int .u8 24), .lit (.int .u8 3), .lit (.int .u8 30), .lit (.int .u8 22), .lit (.int .u8 20), .lit (.int .u8 15), .lit (.int .u8 25), .lit (.int .u8 17), .lit (.int .u8 4), .lit (.int .u8 8), .lit (.int .u8 31), .lit (.int .u8 27), .lit (.int .u8 13), .lit (.int .u8 23), .lit (.int .u8 21), .lit (.int .u8 19), .lit (.int .u8 16), .lit (.int .u8 7), .lit (.int .u8 26), .lit (.int .u8 12), .lit (.int .u8 18), .lit (.int .u8 6), .lit (.int .u8 11), .lit (.int .u8 5), .lit (.int .u8 10), .lit (.int .u8 9)]
def laid_math_bits_deBruijn64tab {H : Type} : DataW H := .agg [.lit (.int .u8 0), .lit (.int .u8 1), .lit (.int .u8 56), .lit (.int .u8 2), .lit (.int .u8 57), .lit (.int .u8 49), .lit (.int .u8 28), .lit (.int .u8 3), .lit (.int .u8 61), .lit (.int .u8 58), .lit (.int .u8 42), .lit (.int .u8 50), .lit (.int .u8 38), .lit (.int .u8 29), .lit (.int .u8 17), .lit (.int .u8 4), .lit (.int .u8 62), .lit (.int .u8 47), .lit (.int .u8 59), .lit (.int .u8 36), .lit (.int .u8 45), .lit (.int .u8 43), .lit (.int .u8 51), .lit (.int .u8 22), .lit (.int .u8 53), .lit (.int .u8 39), .lit (.int .u8 33), .lit (.int .u8 30), .lit (.int .u8 24), .lit (.int .u8 18), .lit (.int .u8 12), .lit (.int .u8 5), .lit (.int .u8 63), .lit (.int .u8 55), .lit (.int .u8 48), .lit (.int .u8 27), .lit (.int .u8 60), .lit (.int .u8 41), .lit (.int .u8 37), .lit (.int .u8 16), .lit (.int .u8 46), .lit (.int .u8 35), .lit (.int .u8 44), .lit (.int .u8 21), .lit (.int .u8 52), .lit (.int .u8 32), .lit (.int .u8 23), .lit (.int .u8 11), .lit (.int .u8 54), .lit (.int .u8 26), .lit (.int .u8 40), .lit (.int .u8 15), .lit (.int .u8 34), .lit (.int .u8 20), .lit (.int .u8 31), .lit (.int .u8 10), .lit (.int .u8 25), .lit (.int .u8 14), .lit (.int .u8 19), .lit (.int .u8 9), .lit (.int .u8 13), .lit (.int .u8 8), .lit (.int .u8 7), .lit (.int .u8 6)]
def laid_internal_strconv_uint64pow10 {H : Type} : DataW H := .agg [.lit (.int .u64 1), .lit (.int .u64 10), .lit (.int .u64 100), .lit (.int .u64 1000), .lit (.int .u64 10000), .lit (.int .u64 100000), .lit (.int .u64 1000000), .lit (.int .u64 10000000), .lit (.int .u64 100000000), .lit (.int .u64 1000000000), .lit (.int .u64 10000000000), .lit (.int .u64 100000000000), .lit (.int .u64 1000000000000), .lit (.int .u64 10000000000000), .lit (.int .u64 100000000000000), .lit (.int .u64 1000000000000000), .lit (.int .u64 10000000000000000), .lit (.int .u64 100000000000000000), .lit (.int .u64 1000000000000000000), .lit (.int .u64 10000000000000000000)]
def laid_fingerpost_watch_names {H : Type} : DataW H := .agg [.lit (.string []), .lit (.string [98, 101, 103, 97, 110]), .lit (.string [101, 110, 100, 101, 100]), .lit (.string [105, 115, 115, 117, 101, 100]), .lit (.string [109, 101, 116]), .lit (.string [108, 111, 115, 116]), .lit (.string [103, 97, 105, 110, 101, 100]), .lit (.string [109, 111, 118, 101, 100]), .lit (.string [100, 114, 111, 112, 112, 101, 100])]
def laid_strconv_ErrRange {H : Type} : DataW H := .iface "*errors.errorString" (.ptr (.agg [.lit (.string [118, 97, 108, 117, 101, 32, 111, 117, 116, 32, 111, 102, 32, 114, 97, 110, 103, 101])]))
def laid_strconv_ErrSyntax {H : Type} : DataW H := .iface "*errors.errorString" (.ptr (.agg [.lit (.string [105, 110, 118, 97, 108, 105, 100, 32, 115, 121, 110, 116, 97, 120])]))
def laid_unicode_utf8_acceptRanges {H : Type} : DataW H := .agg [.agg [.lit (.int .u8 128), .lit (.int .u8 191)], .agg [.lit (.int .u8 160), .lit (.int .u8 191)], .agg [.lit (.int .u8 128), .lit (.int .u8 159)], .agg [.lit (.int .u8 144), .lit (.int .u8 191)], .agg [.lit (.int .u8 128), .lit (.int .u8 143)], .agg [.lit (.int .u8 0), .lit (.int .u8 0)], .agg [.lit (.int .u8 0), .lit (.int .u8 0)], .agg [.lit (.int .u8 0), .lit (.int .u8 0)], .agg [.lit (.int .u8 0), .lit (.int .u8 0)], .agg [.lit (.int .u8 0), .lit (.int .u8 0)], .agg [.lit (.int .u8 0), .lit (.int .u8 0)], .agg [.lit (.int .u8 0), .lit (.int .u8 0)], .agg [.lit (.int .u8 0), .lit (.int .u8 0)], .agg [.lit (.int .u8 0), .lit (.int .u8 0)], .agg [.lit (.int .u8 0), .lit (.int .u8 0)], .agg [.lit (.int .u8 0), .lit (.int .u8 0)]]
/-- One of Go's own tables, pinned by name: the form's constant. -/
def laid_unicode_utf8_first : DataW Unit := Go.Pinned.utf8First
def laid_fingerpost_count_names {H : Type} : DataW H := .agg [.lit (.string [102, 114, 97, 109, 101, 115]), .lit (.string [102, 111, 114, 109]), .lit (.string [115, 116, 114, 97, 110, 103, 101, 114, 115]), .lit (.string [116, 111, 108, 108, 115]), .lit (.string [116, 97, 103, 115]), .lit (.string [114, 101, 112, 108, 97, 121, 115]), .lit (.string [104, 101, 108, 108, 111, 115]), .lit (.string [117, 112, 100, 97, 116, 101, 115]), .lit (.string [101, 110, 116, 114, 105, 101, 115]), .lit (.string [115, 116, 97, 108, 101]), .lit (.string [114, 111, 111, 116, 108, 101, 115, 115]), .lit (.string [112, 114, 111, 111, 102, 115]), .lit (.string [104, 101, 108, 100]), .lit (.string [116, 97, 107, 101, 110]), .lit (.string [114, 101, 110, 101, 119, 97, 108, 115]), .lit (.string [115, 105, 103, 110, 115]), .lit (.string [112, 105, 101, 99, 101, 115]), .lit (.string [115, 101, 110, 116]), .lit (.string [98, 114, 111, 107, 101, 110])]

/-- 'fingerpostlaw34.WatchApplies': WHATEVER THE INPUT: true; the input reads as it did. -/
def watchAppliesSpec : ChangeSpec := { name := "watchApplies", fn := fun _ => fun
  | [d1, d2] => { results := [.lit (.bool true)], args := [d1, d2] }
  | _ => none }
def watchAppliesRow : OpenClaim := { program := "ytoiihalnbdehkaadoor", sum := "2285e76ebebb4caff1d6d8fdd1bb3d074bd56db5250c39f35735bfca115b2486", func := "fingerpost/fingerpostlaw34.WatchApplies", spec := "watchApplies", unfollowed := true, recurses := true, named := ["internal/strconv.uint64pow10", "math/bits.deBruijn32tab", "math/bits.deBruijn64tab", "fingerpost/watch.names"], apart := false, laid := [("math/bits.deBruijn32tab", laid_math_bits_deBruijn32tab), ("math/bits.deBruijn64tab", laid_math_bits_deBruijn64tab), ("internal/strconv.uint64pow10", laid_internal_strconv_uint64pow10), ("fingerpost/watch.names", laid_fingerpost_watch_names)] }
def WatchAppliesSaid : Prop := watchAppliesRow.holds Tryd.pinned (OpenSpec.ofChange watchAppliesSpec)

/-- ITS FALSE NEIGHBOUR: 'it returns false'. Refute it at one input. -/
def watchAppliesWrong : ChangeSpec := { name := "watchApplies", fn := fun _ => fun
  | [d1, d2] => { results := [.lit (.bool false)], args := [d1, d2] }
  | _ => none }
def WatchAppliesWrongFalsely : Prop := watchAppliesRow.holds Tryd.pinned (OpenSpec.ofChange watchAppliesWrong)

/-- 'fingerpostlaw01.RankTexts': WHATEVER THE INPUT: true; the input reads as it did. -/
def rankTextsSpec : ChangeSpec := { name := "rankTexts", fn := fun _ => fun
  | [d1, d2] => { results := [.lit (.bool true)], args := [d1, d2] }
  | _ => none }
def rankTextsRow : OpenClaim := { program := "ytoiihalnbdehkaadoor", sum := "2285e76ebebb4caff1d6d8fdd1bb3d074bd56db5250c39f35735bfca115b2486", func := "fingerpost/fingerpostlaw01.RankTexts", spec := "rankTexts", inPlace := ["internal/bytealg.IndexByteString", "internal/bytealg.IndexString"], named := ["internal/bytealg.MaxLen", "strconv.ErrSyntax", "strconv.ErrRange", "internal/strconv.uint64pow10", "math/bits.deBruijn32tab", "math/bits.deBruijn64tab"], apart := false, laid := [("math/bits.deBruijn32tab", laid_math_bits_deBruijn32tab), ("math/bits.deBruijn64tab", laid_math_bits_deBruijn64tab), ("internal/strconv.uint64pow10", laid_internal_strconv_uint64pow10), ("strconv.ErrRange", laid_strconv_ErrRange), ("strconv.ErrSyntax", laid_strconv_ErrSyntax)] }
def RankTextsSaid : Prop := rankTextsRow.holds Tryd.pinned (OpenSpec.ofChange rankTextsSpec)

/-- ITS FALSE NEIGHBOUR: 'it returns false'. Refute it at one input. -/
def rankTextsWrong : ChangeSpec := { name := "rankTexts", fn := fun _ => fun
  | [d1, d2] => { results := [.lit (.bool false)], args := [d1, d2] }
  | _ => none }
def RankTextsWrongFalsely : Prop := rankTextsRow.holds Tryd.pinned (OpenSpec.ofChange rankTextsWrong)

/-- 'fingerpostlaw23.ConfigReads': WHATEVER THE INPUT: true; the input reads as it did. -/
def configReadsSpec : ChangeSpec := { name := "configReads", fn := fun _ => fun
  | [d] => { results := [.lit (.bool true)], args := [d] }
  | _ => none }
def configReadsRow : OpenClaim := { program := "ytoiihalnbdehkaadoor", sum := "2285e76ebebb4caff1d6d8fdd1bb3d074bd56db5250c39f35735bfca115b2486", func := "fingerpost/fingerpostlaw23.ConfigReads", spec := "configReads", inPlace := ["internal/bytealg.CountString", "internal/bytealg.IndexByteString", "internal/bytealg.IndexString"], named := ["unicode/utf8.first", "unicode/utf8.acceptRanges", "internal/bytealg.MaxLen", "strconv.ErrSyntax", "strconv.ErrRange", "internal/strconv.uint64pow10", "math/bits.deBruijn32tab", "math/bits.deBruijn64tab"], apart := false, laid := [("math/bits.deBruijn32tab", laid_math_bits_deBruijn32tab), ("math/bits.deBruijn64tab", laid_math_bits_deBruijn64tab), ("internal/strconv.uint64pow10", laid_internal_strconv_uint64pow10), ("unicode/utf8.acceptRanges", laid_unicode_utf8_acceptRanges), ("strconv.ErrRange", laid_strconv_ErrRange), ("strconv.ErrSyntax", laid_strconv_ErrSyntax), ("unicode/utf8.first", laid_unicode_utf8_first)] }
def ConfigReadsSaid : Prop := configReadsRow.holds Tryd.pinned (OpenSpec.ofChange configReadsSpec)

/-- ITS FALSE NEIGHBOUR: 'it returns false'. Refute it at one input. -/
def configReadsWrong : ChangeSpec := { name := "configReads", fn := fun _ => fun
  | [d] => { results := [.lit (.bool false)], args := [d] }
  | _ => none }
def ConfigReadsWrongFalsely : Prop := configReadsRow.holds Tryd.pinned (OpenSpec.ofChange configReadsWrong)

/-- 'fingerpostlaw23.ConfigWrites': WHATEVER THE INPUT: true; the input reads as it did. -/
def configWritesSpec : ChangeSpec := { name := "configWrites", fn := fun _ => fun
  | [d] => { results := [.lit (.bool true)], args := [d] }
  | _ => none }
def configWritesRow : OpenClaim := { program := "ytoiihalnbdehkaadoor", sum := "2285e76ebebb4caff1d6d8fdd1bb3d074bd56db5250c39f35735bfca115b2486", func := "fingerpost/fingerpostlaw23.ConfigWrites", spec := "configWrites", inPlace := ["internal/bytealg.CountString", "internal/bytealg.IndexByteString", "internal/bytealg.IndexString", "internal/abi.NoEscape"], named := ["unicode/utf8.first", "unicode/utf8.acceptRanges", "internal/bytealg.MaxLen", "strconv.ErrSyntax", "strconv.ErrRange", "internal/strconv.uint64pow10", "math/bits.deBruijn32tab", "math/bits.deBruijn64tab"], apart := false, laid := [("math/bits.deBruijn32tab", laid_math_bits_deBruijn32tab), ("math/bits.deBruijn64tab", laid_math_bits_deBruijn64tab), ("internal/strconv.uint64pow10", laid_internal_strconv_uint64pow10), ("unicode/utf8.acceptRanges", laid_unicode_utf8_acceptRanges), ("strconv.ErrRange", laid_strconv_ErrRange), ("strconv.ErrSyntax", laid_strconv_ErrSyntax), ("unicode/utf8.first", laid_unicode_utf8_first)] }
def ConfigWritesSaid : Prop := configWritesRow.holds Tryd.pinned (OpenSpec.ofChange configWritesSpec)

/-- ITS FALSE NEIGHBOUR: 'it returns false'. Refute it at one input. -/
def configWritesWrong : ChangeSpec := { name := "configWrites", fn := fun _ => fun
  | [d] => { results := [.lit (.bool false)], args := [d] }
  | _ => none }
def ConfigWritesWrongFalsely : Prop := configWritesRow.holds Tryd.pinned (OpenSpec.ofChange configWritesWrong)

/-- 'fingerpostlaw23.ConfigBack': WHATEVER THE INPUT: true; the input reads as it did. -/
def configBackSpec : ChangeSpec := { name := "configBack", fn := fun _ => fun
  | [d1, d2] => { results := [.lit (.bool true)], args := [d1, d2] }
  | _ => none }
def configBackRow : OpenClaim := { program := "ytoiihalnbdehkaadoor", sum := "2285e76ebebb4caff1d6d8fdd1bb3d074bd56db5250c39f35735bfca115b2486", func := "fingerpost/fingerpostlaw23.ConfigBack", spec := "configBack", inPlace := ["internal/abi.NoEscape", "internal/bytealg.CountString", "internal/bytealg.IndexByteString", "internal/bytealg.IndexString"], named := ["internal/strconv.uint64pow10", "math/bits.deBruijn32tab", "math/bits.deBruijn64tab", "unicode/utf8.first", "unicode/utf8.acceptRanges", "internal/bytealg.MaxLen", "strconv.ErrSyntax", "strconv.ErrRange"], apart := false, laid := [("math/bits.deBruijn32tab", laid_math_bits_deBruijn32tab), ("math/bits.deBruijn64tab", laid_math_bits_deBruijn64tab), ("internal/strconv.uint64pow10", laid_internal_strconv_uint64pow10), ("unicode/utf8.acceptRanges", laid_unicode_utf8_acceptRanges), ("strconv.ErrRange", laid_strconv_ErrRange), ("strconv.ErrSyntax", laid_strconv_ErrSyntax), ("unicode/utf8.first", laid_unicode_utf8_first)] }
def ConfigBackSaid : Prop := configBackRow.holds Tryd.pinned (OpenSpec.ofChange configBackSpec)

/-- ITS FALSE NEIGHBOUR: 'it returns false'. Refute it at one input. -/
def configBackWrong : ChangeSpec := { name := "configBack", fn := fun _ => fun
  | [d1, d2] => { results := [.lit (.bool false)], args := [d1, d2] }
  | _ => none }
def ConfigBackWrongFalsely : Prop := configBackRow.holds Tryd.pinned (OpenSpec.ofChange configBackWrong)

/-- 'fingerpostlaw23.ConfigFits': WHATEVER THE INPUT: true; the input reads as it did. -/
def configFitsSpec : ChangeSpec := { name := "configFits", fn := fun _ => fun
  | [d] => { results := [.lit (.bool true)], args := [d] }
  | _ => none }
def configFitsRow : OpenClaim := { program := "ytoiihalnbdehkaadoor", sum := "2285e76ebebb4caff1d6d8fdd1bb3d074bd56db5250c39f35735bfca115b2486", func := "fingerpost/fingerpostlaw23.ConfigFits", spec := "configFits", inPlace := ["internal/bytealg.CountString", "internal/bytealg.IndexByteString", "internal/bytealg.IndexString"], named := ["unicode/utf8.first", "unicode/utf8.acceptRanges", "internal/bytealg.MaxLen", "strconv.ErrSyntax", "strconv.ErrRange", "internal/strconv.uint64pow10", "math/bits.deBruijn32tab", "math/bits.deBruijn64tab"], apart := false, laid := [("math/bits.deBruijn32tab", laid_math_bits_deBruijn32tab), ("math/bits.deBruijn64tab", laid_math_bits_deBruijn64tab), ("internal/strconv.uint64pow10", laid_internal_strconv_uint64pow10), ("unicode/utf8.acceptRanges", laid_unicode_utf8_acceptRanges), ("strconv.ErrRange", laid_strconv_ErrRange), ("strconv.ErrSyntax", laid_strconv_ErrSyntax), ("unicode/utf8.first", laid_unicode_utf8_first)] }
def ConfigFitsSaid : Prop := configFitsRow.holds Tryd.pinned (OpenSpec.ofChange configFitsSpec)

/-- ITS FALSE NEIGHBOUR: 'it returns false'. Refute it at one input. -/
def configFitsWrong : ChangeSpec := { name := "configFits", fn := fun _ => fun
  | [d] => { results := [.lit (.bool false)], args := [d] }
  | _ => none }
def ConfigFitsWrongFalsely : Prop := configFitsRow.holds Tryd.pinned (OpenSpec.ofChange configFitsWrong)

/-- 'fingerpostlaw26.QueryAsks': WHATEVER THE INPUT: true; the input reads as it did. -/
def queryAsksSpec : ChangeSpec := { name := "queryAsks", fn := fun _ => fun
  | [d1, d2] => { results := [.lit (.bool true)], args := [d1, d2] }
  | _ => none }
def queryAsksRow : OpenClaim := { program := "ytoiihalnbdehkaadoor", sum := "2285e76ebebb4caff1d6d8fdd1bb3d074bd56db5250c39f35735bfca115b2486", func := "fingerpost/fingerpostlaw26.QueryAsks", spec := "queryAsks", inPlace := ["internal/bytealg.IndexByteString", "internal/bytealg.IndexString", "internal/abi.NoEscape", "internal/bytealg.MakeNoZero"], unfollowed := true, recurses := true, named := ["internal/bytealg.MaxLen", "internal/strconv.uint64pow10", "math/bits.deBruijn32tab", "math/bits.deBruijn64tab", "fingerpost/count.names"], apart := false, laid := [("math/bits.deBruijn32tab", laid_math_bits_deBruijn32tab), ("math/bits.deBruijn64tab", laid_math_bits_deBruijn64tab), ("internal/strconv.uint64pow10", laid_internal_strconv_uint64pow10), ("fingerpost/count.names", laid_fingerpost_count_names)] }
def QueryAsksSaid : Prop := queryAsksRow.holds Tryd.pinned (OpenSpec.ofChange queryAsksSpec)

/-- ITS FALSE NEIGHBOUR: 'it returns false'. Refute it at one input. -/
def queryAsksWrong : ChangeSpec := { name := "queryAsks", fn := fun _ => fun
  | [d1, d2] => { results := [.lit (.bool false)], args := [d1, d2] }
  | _ => none }
def QueryAsksWrongFalsely : Prop := queryAsksRow.holds Tryd.pinned (OpenSpec.ofChange queryAsksWrong)

/-- 'fingerpostlaw26.QueryEach': WHATEVER THE INPUT: true; the input reads as it did. -/
def queryEachSpec : ChangeSpec := { name := "queryEach", fn := fun _ => fun
  | [d] => { results := [.lit (.bool true)], args := [d] }
  | _ => none }
def queryEachRow : OpenClaim := { program := "ytoiihalnbdehkaadoor", sum := "2285e76ebebb4caff1d6d8fdd1bb3d074bd56db5250c39f35735bfca115b2486", func := "fingerpost/fingerpostlaw26.QueryEach", spec := "queryEach", inPlace := ["internal/bytealg.IndexByteString", "internal/bytealg.IndexString", "internal/abi.NoEscape", "internal/bytealg.MakeNoZero"], unfollowed := true, recurses := true, named := ["internal/bytealg.MaxLen", "internal/strconv.uint64pow10", "math/bits.deBruijn32tab", "math/bits.deBruijn64tab", "fingerpost/count.names"], apart := false, laid := [("math/bits.deBruijn32tab", laid_math_bits_deBruijn32tab), ("math/bits.deBruijn64tab", laid_math_bits_deBruijn64tab), ("internal/strconv.uint64pow10", laid_internal_strconv_uint64pow10), ("fingerpost/count.names", laid_fingerpost_count_names)] }
def QueryEachSaid : Prop := queryEachRow.holds Tryd.pinned (OpenSpec.ofChange queryEachSpec)

/-- ITS FALSE NEIGHBOUR: 'it returns false'. Refute it at one input. -/
def queryEachWrong : ChangeSpec := { name := "queryEach", fn := fun _ => fun
  | [d] => { results := [.lit (.bool false)], args := [d] }
  | _ => none }
def QueryEachWrongFalsely : Prop := queryEachRow.holds Tryd.pinned (OpenSpec.ofChange queryEachWrong)

/-- 'fingerpostlaw26.QueryStatus': WHATEVER THE INPUT: true; the input reads as it did. -/
def queryStatusSpec : ChangeSpec := { name := "queryStatus", fn := fun _ => fun
  | [d] => { results := [.lit (.bool true)], args := [d] }
  | _ => none }
def queryStatusRow : OpenClaim := { program := "ytoiihalnbdehkaadoor", sum := "2285e76ebebb4caff1d6d8fdd1bb3d074bd56db5250c39f35735bfca115b2486", func := "fingerpost/fingerpostlaw26.QueryStatus", spec := "queryStatus", inPlace := ["internal/bytealg.IndexByteString", "internal/bytealg.IndexString", "internal/abi.NoEscape", "internal/bytealg.MakeNoZero"], unfollowed := true, recurses := true, named := ["internal/bytealg.MaxLen", "internal/strconv.uint64pow10", "math/bits.deBruijn32tab", "math/bits.deBruijn64tab", "fingerpost/count.names"], apart := false, laid := [("math/bits.deBruijn32tab", laid_math_bits_deBruijn32tab), ("math/bits.deBruijn64tab", laid_math_bits_deBruijn64tab), ("internal/strconv.uint64pow10", laid_internal_strconv_uint64pow10), ("fingerpost/count.names", laid_fingerpost_count_names)] }
def QueryStatusSaid : Prop := queryStatusRow.holds Tryd.pinned (OpenSpec.ofChange queryStatusSpec)

/-- ITS FALSE NEIGHBOUR: 'it returns false'. Refute it at one input. -/
def queryStatusWrong : ChangeSpec := { name := "queryStatus", fn := fun _ => fun
  | [d] => { results := [.lit (.bool false)], args := [d] }
  | _ => none }
def QueryStatusWrongFalsely : Prop := queryStatusRow.holds Tryd.pinned (OpenSpec.ofChange queryStatusWrong)

/- THE SECOND FORM. 'bulk': how many values and letters a reading holds, each counted each time it is reached (what is shared counts as often as it is met; a slice's spare places count too). A statement '..UptoSaid' is the law's where the arguments, and the package variables that the reading takes, are together of bulk at most 1048576: NARROWER than '..Said'. Prove '..Said' where nothing that the law and all that it calls make is longer than what came in: it says more and counts as full. Else prove '..UptoSaid'. A law counts once. -/
mutual
def uptoBulk {H : Type} : DataW H → Nat
  | .lit (.string bytes) => bytes.length + 1
  | .lit _ => 1
  | .nil => 1
  | .ptr d => uptoBulk d + 1
  | .slice elems spare => uptoBulkAll elems + uptoBulkAll spare + 1
  | .agg parts => uptoBulkAll parts + 1
  | .iface _ d => uptoBulk d + 1
  | .map entries => uptoBulkEntries entries + 1
  | .held _ => 1
def uptoBulkAll {H : Type} : List (DataW H) → Nat
  | [] => 0
  | d :: r => uptoBulk d + uptoBulkAll r
def uptoBulkEntries {H : Type} : List (Lit × DataW H) → Nat
  | [] => 0
  | x :: r => uptoBulkEntry x + uptoBulkEntries r
def uptoBulkEntry {H : Type} : Lit × DataW H → Nat
  | (.string bytes, d) => bytes.length + uptoBulk d + 1
  | (_, d) => uptoBulk d + 1
 end
def uptoSmall : (H : Type) → List (DataW H) → Bool := fun _ ds => decide (uptoBulkAll ds ≤ 1048576)
def OpenSpec.upto (s : _root_.Go.ChangeSpec) : _root_.Go.OpenSpec := { _root_.Go.OpenSpec.ofChange s with cond := some uptoSmall }

/-- 'fingerpostlaw34.WatchApplies', WHERE WHAT IT READS IS OF BULK AT MOST 1048576: true; the input reads as it did. -/
def watchAppliesUptoRow : OpenClaim := { program := "ytoiihalnbdehkaadoor", sum := "2285e76ebebb4caff1d6d8fdd1bb3d074bd56db5250c39f35735bfca115b2486", func := "fingerpost/fingerpostlaw34.WatchApplies", spec := "watchApplies", unfollowed := true, recurses := true, named := ["internal/strconv.uint64pow10", "math/bits.deBruijn32tab", "math/bits.deBruijn64tab", "fingerpost/watch.names"], apart := false, laid := [("math/bits.deBruijn32tab", laid_math_bits_deBruijn32tab), ("math/bits.deBruijn64tab", laid_math_bits_deBruijn64tab), ("internal/strconv.uint64pow10", laid_internal_strconv_uint64pow10), ("fingerpost/watch.names", laid_fingerpost_watch_names)], narrowed := true }
def WatchAppliesUptoSaid : Prop := watchAppliesUptoRow.holds Tryd.pinned (OpenSpec.upto watchAppliesSpec)

/-- 'fingerpostlaw01.RankTexts', WHERE WHAT IT READS IS OF BULK AT MOST 1048576: true; the input reads as it did. -/
def rankTextsUptoRow : OpenClaim := { program := "ytoiihalnbdehkaadoor", sum := "2285e76ebebb4caff1d6d8fdd1bb3d074bd56db5250c39f35735bfca115b2486", func := "fingerpost/fingerpostlaw01.RankTexts", spec := "rankTexts", inPlace := ["internal/bytealg.IndexByteString", "internal/bytealg.IndexString"], named := ["internal/bytealg.MaxLen", "strconv.ErrSyntax", "strconv.ErrRange", "internal/strconv.uint64pow10", "math/bits.deBruijn32tab", "math/bits.deBruijn64tab"], apart := false, laid := [("math/bits.deBruijn32tab", laid_math_bits_deBruijn32tab), ("math/bits.deBruijn64tab", laid_math_bits_deBruijn64tab), ("internal/strconv.uint64pow10", laid_internal_strconv_uint64pow10), ("strconv.ErrRange", laid_strconv_ErrRange), ("strconv.ErrSyntax", laid_strconv_ErrSyntax)], narrowed := true }
def RankTextsUptoSaid : Prop := rankTextsUptoRow.holds Tryd.pinned (OpenSpec.upto rankTextsSpec)

/-- 'fingerpostlaw23.ConfigReads', WHERE WHAT IT READS IS OF BULK AT MOST 1048576: true; the input reads as it did. -/
def configReadsUptoRow : OpenClaim := { program := "ytoiihalnbdehkaadoor", sum := "2285e76ebebb4caff1d6d8fdd1bb3d074bd56db5250c39f35735bfca115b2486", func := "fingerpost/fingerpostlaw23.ConfigReads", spec := "configReads", inPlace := ["internal/bytealg.CountString", "internal/bytealg.IndexByteString", "internal/bytealg.IndexString"], named := ["unicode/utf8.first", "unicode/utf8.acceptRanges", "internal/bytealg.MaxLen", "strconv.ErrSyntax", "strconv.ErrRange", "internal/strconv.uint64pow10", "math/bits.deBruijn32tab", "math/bits.deBruijn64tab"], apart := false, laid := [("math/bits.deBruijn32tab", laid_math_bits_deBruijn32tab), ("math/bits.deBruijn64tab", laid_math_bits_deBruijn64tab), ("internal/strconv.uint64pow10", laid_internal_strconv_uint64pow10), ("unicode/utf8.acceptRanges", laid_unicode_utf8_acceptRanges), ("strconv.ErrRange", laid_strconv_ErrRange), ("strconv.ErrSyntax", laid_strconv_ErrSyntax), ("unicode/utf8.first", laid_unicode_utf8_first)], narrowed := true }
def ConfigReadsUptoSaid : Prop := configReadsUptoRow.holds Tryd.pinned (OpenSpec.upto configReadsSpec)

/-- 'fingerpostlaw23.ConfigWrites', WHERE WHAT IT READS IS OF BULK AT MOST 1048576: true; the input reads as it did. -/
def configWritesUptoRow : OpenClaim := { program := "ytoiihalnbdehkaadoor", sum := "2285e76ebebb4caff1d6d8fdd1bb3d074bd56db5250c39f35735bfca115b2486", func := "fingerpost/fingerpostlaw23.ConfigWrites", spec := "configWrites", inPlace := ["internal/bytealg.CountString", "internal/bytealg.IndexByteString", "internal/bytealg.IndexString", "internal/abi.NoEscape"], named := ["unicode/utf8.first", "unicode/utf8.acceptRanges", "internal/bytealg.MaxLen", "strconv.ErrSyntax", "strconv.ErrRange", "internal/strconv.uint64pow10", "math/bits.deBruijn32tab", "math/bits.deBruijn64tab"], apart := false, laid := [("math/bits.deBruijn32tab", laid_math_bits_deBruijn32tab), ("math/bits.deBruijn64tab", laid_math_bits_deBruijn64tab), ("internal/strconv.uint64pow10", laid_internal_strconv_uint64pow10), ("unicode/utf8.acceptRanges", laid_unicode_utf8_acceptRanges), ("strconv.ErrRange", laid_strconv_ErrRange), ("strconv.ErrSyntax", laid_strconv_ErrSyntax), ("unicode/utf8.first", laid_unicode_utf8_first)], narrowed := true }
def ConfigWritesUptoSaid : Prop := configWritesUptoRow.holds Tryd.pinned (OpenSpec.upto configWritesSpec)

/-- 'fingerpostlaw23.ConfigBack', WHERE WHAT IT READS IS OF BULK AT MOST 1048576: true; the input reads as it did. -/
def configBackUptoRow : OpenClaim := { program := "ytoiihalnbdehkaadoor", sum := "2285e76ebebb4caff1d6d8fdd1bb3d074bd56db5250c39f35735bfca115b2486", func := "fingerpost/fingerpostlaw23.ConfigBack", spec := "configBack", inPlace := ["internal/abi.NoEscape", "internal/bytealg.CountString", "internal/bytealg.IndexByteString", "internal/bytealg.IndexString"], named := ["internal/strconv.uint64pow10", "math/bits.deBruijn32tab", "math/bits.deBruijn64tab", "unicode/utf8.first", "unicode/utf8.acceptRanges", "internal/bytealg.MaxLen", "strconv.ErrSyntax", "strconv.ErrRange"], apart := false, laid := [("math/bits.deBruijn32tab", laid_math_bits_deBruijn32tab), ("math/bits.deBruijn64tab", laid_math_bits_deBruijn64tab), ("internal/strconv.uint64pow10", laid_internal_strconv_uint64pow10), ("unicode/utf8.acceptRanges", laid_unicode_utf8_acceptRanges), ("strconv.ErrRange", laid_strconv_ErrRange), ("strconv.ErrSyntax", laid_strconv_ErrSyntax), ("unicode/utf8.first", laid_unicode_utf8_first)], narrowed := true }
def ConfigBackUptoSaid : Prop := configBackUptoRow.holds Tryd.pinned (OpenSpec.upto configBackSpec)

/-- 'fingerpostlaw23.ConfigFits', WHERE WHAT IT READS IS OF BULK AT MOST 1048576: true; the input reads as it did. -/
def configFitsUptoRow : OpenClaim := { program := "ytoiihalnbdehkaadoor", sum := "2285e76ebebb4caff1d6d8fdd1bb3d074bd56db5250c39f35735bfca115b2486", func := "fingerpost/fingerpostlaw23.ConfigFits", spec := "configFits", inPlace := ["internal/bytealg.CountString", "internal/bytealg.IndexByteString", "internal/bytealg.IndexString"], named := ["unicode/utf8.first", "unicode/utf8.acceptRanges", "internal/bytealg.MaxLen", "strconv.ErrSyntax", "strconv.ErrRange", "internal/strconv.uint64pow10", "math/bits.deBruijn32tab", "math/bits.deBruijn64tab"], apart := false, laid := [("math/bits.deBruijn32tab", laid_math_bits_deBruijn32tab), ("math/bits.deBruijn64tab", laid_math_bits_deBruijn64tab), ("internal/strconv.uint64pow10", laid_internal_strconv_uint64pow10), ("unicode/utf8.acceptRanges", laid_unicode_utf8_acceptRanges), ("strconv.ErrRange", laid_strconv_ErrRange), ("strconv.ErrSyntax", laid_strconv_ErrSyntax), ("unicode/utf8.first", laid_unicode_utf8_first)], narrowed := true }
def ConfigFitsUptoSaid : Prop := configFitsUptoRow.holds Tryd.pinned (OpenSpec.upto configFitsSpec)

/-- 'fingerpostlaw26.QueryAsks', WHERE WHAT IT READS IS OF BULK AT MOST 1048576: true; the input reads as it did. -/
def queryAsksUptoRow : OpenClaim := { program := "ytoiihalnbdehkaadoor", sum := "2285e76ebebb4caff1d6d8fdd1bb3d074bd56db5250c39f35735bfca115b2486", func := "fingerpost/fingerpostlaw26.QueryAsks", spec := "queryAsks", inPlace := ["internal/bytealg.IndexByteString", "internal/bytealg.IndexString", "internal/abi.NoEscape", "internal/bytealg.MakeNoZero"], unfollowed := true, recurses := true, named := ["internal/bytealg.MaxLen", "internal/strconv.uint64pow10", "math/bits.deBruijn32tab", "math/bits.deBruijn64tab", "fingerpost/count.names"], apart := false, laid := [("math/bits.deBruijn32tab", laid_math_bits_deBruijn32tab), ("math/bits.deBruijn64tab", laid_math_bits_deBruijn64tab), ("internal/strconv.uint64pow10", laid_internal_strconv_uint64pow10), ("fingerpost/count.names", laid_fingerpost_count_names)], narrowed := true }
def QueryAsksUptoSaid : Prop := queryAsksUptoRow.holds Tryd.pinned (OpenSpec.upto queryAsksSpec)

/-- 'fingerpostlaw26.QueryEach', WHERE WHAT IT READS IS OF BULK AT MOST 1048576: true; the input reads as it did. -/
def queryEachUptoRow : OpenClaim := { program := "ytoiihalnbdehkaadoor", sum := "2285e76ebebb4caff1d6d8fdd1bb3d074bd56db5250c39f35735bfca115b2486", func := "fingerpost/fingerpostlaw26.QueryEach", spec := "queryEach", inPlace := ["internal/bytealg.IndexByteString", "internal/bytealg.IndexString", "internal/abi.NoEscape", "internal/bytealg.MakeNoZero"], unfollowed := true, recurses := true, named := ["internal/bytealg.MaxLen", "internal/strconv.uint64pow10", "math/bits.deBruijn32tab", "math/bits.deBruijn64tab", "fingerpost/count.names"], apart := false, laid := [("math/bits.deBruijn32tab", laid_math_bits_deBruijn32tab), ("math/bits.deBruijn64tab", laid_math_bits_deBruijn64tab), ("internal/strconv.uint64pow10", laid_internal_strconv_uint64pow10), ("fingerpost/count.names", laid_fingerpost_count_names)], narrowed := true }
def QueryEachUptoSaid : Prop := queryEachUptoRow.holds Tryd.pinned (OpenSpec.upto queryEachSpec)

/-- 'fingerpostlaw26.QueryStatus', WHERE WHAT IT READS IS OF BULK AT MOST 1048576: true; the input reads as it did. -/
def queryStatusUptoRow : OpenClaim := { program := "ytoiihalnbdehkaadoor", sum := "2285e76ebebb4caff1d6d8fdd1bb3d074bd56db5250c39f35735bfca115b2486", func := "fingerpost/fingerpostlaw26.QueryStatus", spec := "queryStatus", inPlace := ["internal/bytealg.IndexByteString", "internal/bytealg.IndexString", "internal/abi.NoEscape", "internal/bytealg.MakeNoZero"], unfollowed := true, recurses := true, named := ["internal/bytealg.MaxLen", "internal/strconv.uint64pow10", "math/bits.deBruijn32tab", "math/bits.deBruijn64tab", "fingerpost/count.names"], apart := false, laid := [("math/bits.deBruijn32tab", laid_math_bits_deBruijn32tab), ("math/bits.deBruijn64tab", laid_math_bits_deBruijn64tab), ("internal/strconv.uint64pow10", laid_internal_strconv_uint64pow10), ("fingerpost/count.names", laid_fingerpost_count_names)], narrowed := true }
def QueryStatusUptoSaid : Prop := queryStatusUptoRow.holds Tryd.pinned (OpenSpec.upto queryStatusSpec)

end Rows
end Go.Proofs.YtoiihalnbdehkaaDoor
