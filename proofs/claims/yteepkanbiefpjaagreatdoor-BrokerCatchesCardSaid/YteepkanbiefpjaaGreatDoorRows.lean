/-
  NARROWER THAN 'FOR EVERY INPUT', by the rows' own cells (each row's printed sentence says how): BrokerDenied: laid · BrokerFresh: laid · BrokerRoles: laid · BrokerWaits: laid · BrokerIdle: laid · BrokerCatches: laid · BrokerReplay: laid · BrokerEvicts: laid · BrokerExit: laid · BrokerApart: laid · BrokerFloor: laid · BrokerBounds: laid.
  DERIVED. THE GIVEN ROWS OF THIS SEAT. 12 by the template 'for every input the law returns true; each argument reads behind the call as it read before'; 0 by the template 'total and deterministic' (their statements: YteepkanbiefpjaaGreatDoorTotals.lean).
  GIVEN WITH THE SEED: the statements are not yours to turn. If you find one false, say at which input.
  Laid BY PROGRAM, IN A SANDBOX (cutbox-rows.mjs): the forced cells as the released guide's own fill.sh prints them over the translation a3429c6c929459cd… (all of the seat's roots in one cut). By AI agents, Wed Nov 11 2026. No macro, syntax, notation, axiom, sorry.
-/
import Derived.Test.YteepkanbiefpjaaGreatDoorChecked
import GoSem.Claim
import GoSem.ClaimJoined
import GoSem.ClaimMapViews
import Derived.JoinedTies
import Derived.KernelRfl
namespace Go.Proofs.YteepkanbiefpjaaGreatDoor
/- THE CELL 'sum', in the pinned program and in every row, IS THE sha256 OF THE DUMP (.gsa) THAT YteepkanbiefpjaaGreatDoorProg.lean LOADS. Nothing in Lean hashes anything: it is a label: what it is worth is what the hold of that sum in a sandbox is worth. -/
noncomputable def Tryz.pinned : Pinned := { name := "yteepkanbiefpjaagreatdoor", sum := "a3429c6c929459cd9cb8957115860f51f7df619cfe83d5483f15d2133715cecc", checked := Tryz.checked }
namespace Rows
def none {H : Type} : Left H := { results := [], args := [] }

/- WHAT THE LISTED PACKAGE-LEVEL VARIABLES READ AS WHEN THE CALL BEGINS. Each datum BY PROGRAM (the guide's laid-datum.mjs) off the statement by which the dump's own 'gosem.cut.vars' lays the variable. In a bare row this is a premise. The card (YteepkanbiefpjaaGreatDoorCards.lean) ties it to the program's text. -/
def laid_math_bits_deBruijn32tab {H : Type} : DataW H := .agg [.lit (.int .u8 0), .lit (.int .u8 1), .lit (.int .u8 28), .lit (.int .u8 2), .lit (.int .u8 29), .lit (.int .u8 14), .lit (.int .u8 24), .lit (.int .u8 3), .lit (.int .u8 30), .lit (.int .u8 22), .lit (.int .u8 20), .lit (.int .u8 15), .lit (.int .u8 25), .lit (.int .u8 17), .lit (.int .u8 4), .lit (.int .u8 8), .lit (.int .u8 31), .lit (.int .u8 27), .lit (.int .u8 13), .lit (.int .u8 23), .lit (.int .u8 21), .lit (.int .u8 19), .lit (.int .u8 16), .lit (.int .u8 7), .lit (.int .u8 26), .lit (.int .u8 12), .lit (.int .u8 18), .lit (.int .u8 6), .lit (.int .u8 11), .lit (.int .u8 5), .lit (.int .u8 10), .lit (.int .u8 9)]
def laid_math_bits_deBruijn64tab {H : Type} : DataW H := .agg [.lit (.int .u8 0), .lit (.int .u8 1), .lit (.int .u8 56), .lit (.int .u8 2), .lit (.int .u8 57), .lit (.int .u8 49), .lit (.int .u8 28), .lit (.int .u8 3), .lit (.int .u8 61), .lit (.int .u8 58), .lit (.int .u8 42), .lit (.int .u8 50), .lit (.int .u8 38), .lit (.int .u8 29), .lit (.int .u8 17), .lit (.int .u8 4), .lit (.int .u8 62), .lit (.int .u8 47), .lit (.int .u8 59), .lit (.int .u8 36), .lit (.int .u8 45), .lit (.int .u8 43), .lit (.int .u8 51), .lit (.int .u8 22), .lit (.int .u8 53), .lit (.int .u8 39), .lit (.int .u8 33), .lit (.int .u8 30), .lit (.int .u8 24), .lit (.int .u8 18), .lit (.int .u8 12), .lit (.int .u8 5), .lit (.int .u8 63), .lit (.int .u8 55), .lit (.int .u8 48), .lit (.int .u8 27), .lit (.int .u8 60), .lit (.int .u8 41), .lit (.int .u8 37), .lit (.int .u8 16), .lit (.int .u8 46), .lit (.int .u8 35), .lit (.int .u8 44), .lit (.int .u8 21), .lit (.int .u8 52), .lit (.int .u8 32), .lit (.int .u8 23), .lit (.int .u8 11), .lit (.int .u8 54), .lit (.int .u8 26), .lit (.int .u8 40), .lit (.int .u8 15), .lit (.int .u8 34), .lit (.int .u8 20), .lit (.int .u8 31), .lit (.int .u8 10), .lit (.int .u8 25), .lit (.int .u8 14), .lit (.int .u8 19), .lit (.int .u8 9), .lit (.int .u8 13), .lit (.int .u8 8), .lit (.int .u8 7), .lit (.int .u8 6)]
def laid_internal_strconv_uint64pow10 {H : Type} : DataW H := .agg [.lit (.int .u64 1), .lit (.int .u64 10), .lit (.int .u64 100), .lit (.int .u64 1000), .lit (.int .u64 10000), .lit (.int .u64 100000), .lit (.int .u64 1000000), .lit (.int .u64 10000000), .lit (.int .u64 100000000), .lit (.int .u64 1000000000), .lit (.int .u64 10000000000), .lit (.int .u64 100000000000), .lit (.int .u64 1000000000000), .lit (.int .u64 10000000000000), .lit (.int .u64 100000000000000), .lit (.int .u64 1000000000000000), .lit (.int .u64 10000000000000000), .lit (.int .u64 100000000000000000), .lit (.int .u64 1000000000000000000), .lit (.int .u64 10000000000000000000)]
def laid_strconv_ErrRange {H : Type} : DataW H := .iface "*errors.errorString" (.ptr (.agg [.lit (.string [118, 97, 108, 117, 101, 32, 111, 117, 116, 32, 111, 102, 32, 114, 97, 110, 103, 101])]))
def laid_strconv_ErrSyntax {H : Type} : DataW H := .iface "*errors.errorString" (.ptr (.agg [.lit (.string [105, 110, 118, 97, 108, 105, 100, 32, 115, 121, 110, 116, 97, 120])]))

/-- 'kibitzerlaw14.BrokerDenied': WHATEVER THE INPUT: true; the input reads as it did. -/
def brokerDeniedSpec : ChangeSpec := { name := "brokerDenied", fn := fun _ => fun
  | [d1, d2, d3] => { results := [.lit (.bool true)], args := [d1, d2, d3] }
  | _ => none }
def brokerDeniedRow : OpenClaim := { program := "yteepkanbiefpjaagreatdoor", sum := "a3429c6c929459cd9cb8957115860f51f7df619cfe83d5483f15d2133715cecc", func := "kibitzer/kibitzerlaw14.BrokerDenied", spec := "brokerDenied", inPlace := ["internal/bytealg.IndexByteString", "internal/bytealg.IndexString"], unfollowed := true, recurses := true, named := ["internal/strconv.uint64pow10", "math/bits.deBruijn32tab", "math/bits.deBruijn64tab", "internal/bytealg.MaxLen", "strconv.ErrSyntax", "strconv.ErrRange"], apart := false, laid := [("math/bits.deBruijn32tab", laid_math_bits_deBruijn32tab), ("math/bits.deBruijn64tab", laid_math_bits_deBruijn64tab), ("internal/strconv.uint64pow10", laid_internal_strconv_uint64pow10), ("strconv.ErrRange", laid_strconv_ErrRange), ("strconv.ErrSyntax", laid_strconv_ErrSyntax)] }
def BrokerDeniedSaid : Prop := brokerDeniedRow.holds Tryz.pinned (OpenSpec.ofChange brokerDeniedSpec)

/-- ITS FALSE NEIGHBOUR: 'it returns false'. Refute it at one input. -/
def brokerDeniedWrong : ChangeSpec := { name := "brokerDenied", fn := fun _ => fun
  | [d1, d2, d3] => { results := [.lit (.bool false)], args := [d1, d2, d3] }
  | _ => none }
def BrokerDeniedWrongFalsely : Prop := brokerDeniedRow.holds Tryz.pinned (OpenSpec.ofChange brokerDeniedWrong)

/-- 'kibitzerlaw14.BrokerFresh': WHATEVER THE INPUT: true; the input reads as it did. -/
def brokerFreshSpec : ChangeSpec := { name := "brokerFresh", fn := fun _ => fun
  | [d] => { results := [.lit (.bool true)], args := [d] }
  | _ => none }
def brokerFreshRow : OpenClaim := { program := "yteepkanbiefpjaagreatdoor", sum := "a3429c6c929459cd9cb8957115860f51f7df619cfe83d5483f15d2133715cecc", func := "kibitzer/kibitzerlaw14.BrokerFresh", spec := "brokerFresh", inPlace := ["internal/bytealg.IndexByteString", "internal/bytealg.IndexString"], unfollowed := true, recurses := true, named := ["internal/strconv.uint64pow10", "math/bits.deBruijn32tab", "math/bits.deBruijn64tab", "internal/bytealg.MaxLen", "strconv.ErrSyntax", "strconv.ErrRange"], apart := false, laid := [("math/bits.deBruijn32tab", laid_math_bits_deBruijn32tab), ("math/bits.deBruijn64tab", laid_math_bits_deBruijn64tab), ("internal/strconv.uint64pow10", laid_internal_strconv_uint64pow10), ("strconv.ErrRange", laid_strconv_ErrRange), ("strconv.ErrSyntax", laid_strconv_ErrSyntax)] }
def BrokerFreshSaid : Prop := brokerFreshRow.holds Tryz.pinned (OpenSpec.ofChange brokerFreshSpec)

/-- ITS FALSE NEIGHBOUR: 'it returns false'. Refute it at one input. -/
def brokerFreshWrong : ChangeSpec := { name := "brokerFresh", fn := fun _ => fun
  | [d] => { results := [.lit (.bool false)], args := [d] }
  | _ => none }
def BrokerFreshWrongFalsely : Prop := brokerFreshRow.holds Tryz.pinned (OpenSpec.ofChange brokerFreshWrong)

/-- 'kibitzerlaw14.BrokerRoles': WHATEVER THE INPUT: true; the input reads as it did. -/
def brokerRolesSpec : ChangeSpec := { name := "brokerRoles", fn := fun _ => fun
  | [d1, d2] => { results := [.lit (.bool true)], args := [d1, d2] }
  | _ => none }
def brokerRolesRow : OpenClaim := { program := "yteepkanbiefpjaagreatdoor", sum := "a3429c6c929459cd9cb8957115860f51f7df619cfe83d5483f15d2133715cecc", func := "kibitzer/kibitzerlaw14.BrokerRoles", spec := "brokerRoles", inPlace := ["internal/bytealg.IndexByteString", "internal/bytealg.IndexString"], unfollowed := true, recurses := true, named := ["internal/strconv.uint64pow10", "math/bits.deBruijn32tab", "math/bits.deBruijn64tab", "internal/bytealg.MaxLen", "strconv.ErrSyntax", "strconv.ErrRange"], apart := false, laid := [("math/bits.deBruijn32tab", laid_math_bits_deBruijn32tab), ("math/bits.deBruijn64tab", laid_math_bits_deBruijn64tab), ("internal/strconv.uint64pow10", laid_internal_strconv_uint64pow10), ("strconv.ErrRange", laid_strconv_ErrRange), ("strconv.ErrSyntax", laid_strconv_ErrSyntax)] }
def BrokerRolesSaid : Prop := brokerRolesRow.holds Tryz.pinned (OpenSpec.ofChange brokerRolesSpec)

/-- ITS FALSE NEIGHBOUR: 'it returns false'. Refute it at one input. -/
def brokerRolesWrong : ChangeSpec := { name := "brokerRoles", fn := fun _ => fun
  | [d1, d2] => { results := [.lit (.bool false)], args := [d1, d2] }
  | _ => none }
def BrokerRolesWrongFalsely : Prop := brokerRolesRow.holds Tryz.pinned (OpenSpec.ofChange brokerRolesWrong)

/-- 'kibitzerlaw14.BrokerWaits': WHATEVER THE INPUT: true; the input reads as it did. -/
def brokerWaitsSpec : ChangeSpec := { name := "brokerWaits", fn := fun _ => fun
  | [d1, d2] => { results := [.lit (.bool true)], args := [d1, d2] }
  | _ => none }
def brokerWaitsRow : OpenClaim := { program := "yteepkanbiefpjaagreatdoor", sum := "a3429c6c929459cd9cb8957115860f51f7df619cfe83d5483f15d2133715cecc", func := "kibitzer/kibitzerlaw14.BrokerWaits", spec := "brokerWaits", inPlace := ["internal/bytealg.IndexByteString", "internal/bytealg.IndexString"], unfollowed := true, recurses := true, named := ["internal/strconv.uint64pow10", "math/bits.deBruijn32tab", "math/bits.deBruijn64tab", "internal/bytealg.MaxLen", "strconv.ErrSyntax", "strconv.ErrRange"], apart := false, laid := [("math/bits.deBruijn32tab", laid_math_bits_deBruijn32tab), ("math/bits.deBruijn64tab", laid_math_bits_deBruijn64tab), ("internal/strconv.uint64pow10", laid_internal_strconv_uint64pow10), ("strconv.ErrRange", laid_strconv_ErrRange), ("strconv.ErrSyntax", laid_strconv_ErrSyntax)] }
def BrokerWaitsSaid : Prop := brokerWaitsRow.holds Tryz.pinned (OpenSpec.ofChange brokerWaitsSpec)

/-- ITS FALSE NEIGHBOUR: 'it returns false'. Refute it at one input. -/
def brokerWaitsWrong : ChangeSpec := { name := "brokerWaits", fn := fun _ => fun
  | [d1, d2] => { results := [.lit (.bool false)], args := [d1, d2] }
  | _ => none }
def BrokerWaitsWrongFalsely : Prop := brokerWaitsRow.holds Tryz.pinned (OpenSpec.ofChange brokerWaitsWrong)

/-- 'kibitzerlaw14.BrokerIdle': WHATEVER THE INPUT: true; the input reads as it did. -/
def brokerIdleSpec : ChangeSpec := { name := "brokerIdle", fn := fun _ => fun
  | [d1, d2] => { results := [.lit (.bool true)], args := [d1, d2] }
  | _ => none }
def brokerIdleRow : OpenClaim := { program := "yteepkanbiefpjaagreatdoor", sum := "a3429c6c929459cd9cb8957115860f51f7df619cfe83d5483f15d2133715cecc", func := "kibitzer/kibitzerlaw14.BrokerIdle", spec := "brokerIdle", inPlace := ["internal/bytealg.IndexByteString", "internal/bytealg.IndexString"], unfollowed := true, recurses := true, named := ["internal/strconv.uint64pow10", "math/bits.deBruijn32tab", "math/bits.deBruijn64tab", "internal/bytealg.MaxLen", "strconv.ErrSyntax", "strconv.ErrRange"], apart := false, laid := [("math/bits.deBruijn32tab", laid_math_bits_deBruijn32tab), ("math/bits.deBruijn64tab", laid_math_bits_deBruijn64tab), ("internal/strconv.uint64pow10", laid_internal_strconv_uint64pow10), ("strconv.ErrRange", laid_strconv_ErrRange), ("strconv.ErrSyntax", laid_strconv_ErrSyntax)] }
def BrokerIdleSaid : Prop := brokerIdleRow.holds Tryz.pinned (OpenSpec.ofChange brokerIdleSpec)

/-- ITS FALSE NEIGHBOUR: 'it returns false'. Refute it at one input. -/
def brokerIdleWrong : ChangeSpec := { name := "brokerIdle", fn := fun _ => fun
  | [d1, d2] => { results := [.lit (.bool false)], args := [d1, d2] }
  | _ => none }
def BrokerIdleWrongFalsely : Prop := brokerIdleRow.holds Tryz.pinned (OpenSpec.ofChange brokerIdleWrong)

/-- 'kibitzerlaw14.BrokerCatches': WHATEVER THE INPUT: true; the input reads as it did. -/
def brokerCatchesSpec : ChangeSpec := { name := "brokerCatches", fn := fun _ => fun
  | [d1, d2, d3] => { results := [.lit (.bool true)], args := [d1, d2, d3] }
  | _ => none }
def brokerCatchesRow : OpenClaim := { program := "yteepkanbiefpjaagreatdoor", sum := "a3429c6c929459cd9cb8957115860f51f7df619cfe83d5483f15d2133715cecc", func := "kibitzer/kibitzerlaw14.BrokerCatches", spec := "brokerCatches", inPlace := ["internal/bytealg.IndexByteString", "internal/bytealg.IndexString"], unfollowed := true, recurses := true, named := ["internal/strconv.uint64pow10", "math/bits.deBruijn32tab", "math/bits.deBruijn64tab", "internal/bytealg.MaxLen", "strconv.ErrSyntax", "strconv.ErrRange"], apart := false, laid := [("math/bits.deBruijn32tab", laid_math_bits_deBruijn32tab), ("math/bits.deBruijn64tab", laid_math_bits_deBruijn64tab), ("internal/strconv.uint64pow10", laid_internal_strconv_uint64pow10), ("strconv.ErrRange", laid_strconv_ErrRange), ("strconv.ErrSyntax", laid_strconv_ErrSyntax)] }
def BrokerCatchesSaid : Prop := brokerCatchesRow.holds Tryz.pinned (OpenSpec.ofChange brokerCatchesSpec)

/-- ITS FALSE NEIGHBOUR: 'it returns false'. Refute it at one input. -/
def brokerCatchesWrong : ChangeSpec := { name := "brokerCatches", fn := fun _ => fun
  | [d1, d2, d3] => { results := [.lit (.bool false)], args := [d1, d2, d3] }
  | _ => none }
def BrokerCatchesWrongFalsely : Prop := brokerCatchesRow.holds Tryz.pinned (OpenSpec.ofChange brokerCatchesWrong)

/-- 'kibitzerlaw14.BrokerReplay': WHATEVER THE INPUT: true; the input reads as it did. -/
def brokerReplaySpec : ChangeSpec := { name := "brokerReplay", fn := fun _ => fun
  | [d1, d2] => { results := [.lit (.bool true)], args := [d1, d2] }
  | _ => none }
def brokerReplayRow : OpenClaim := { program := "yteepkanbiefpjaagreatdoor", sum := "a3429c6c929459cd9cb8957115860f51f7df619cfe83d5483f15d2133715cecc", func := "kibitzer/kibitzerlaw14.BrokerReplay", spec := "brokerReplay", inPlace := ["internal/bytealg.IndexByteString", "internal/bytealg.IndexString"], unfollowed := true, recurses := true, named := ["internal/strconv.uint64pow10", "math/bits.deBruijn32tab", "math/bits.deBruijn64tab", "internal/bytealg.MaxLen", "strconv.ErrSyntax", "strconv.ErrRange"], apart := false, laid := [("math/bits.deBruijn32tab", laid_math_bits_deBruijn32tab), ("math/bits.deBruijn64tab", laid_math_bits_deBruijn64tab), ("internal/strconv.uint64pow10", laid_internal_strconv_uint64pow10), ("strconv.ErrRange", laid_strconv_ErrRange), ("strconv.ErrSyntax", laid_strconv_ErrSyntax)] }
def BrokerReplaySaid : Prop := brokerReplayRow.holds Tryz.pinned (OpenSpec.ofChange brokerReplaySpec)

/-- ITS FALSE NEIGHBOUR: 'it returns false'. Refute it at one input. -/
def brokerReplayWrong : ChangeSpec := { name := "brokerReplay", fn := fun _ => fun
  | [d1, d2] => { results := [.lit (.bool false)], args := [d1, d2] }
  | _ => none }
def BrokerReplayWrongFalsely : Prop := brokerReplayRow.holds Tryz.pinned (OpenSpec.ofChange brokerReplayWrong)

/-- 'kibitzerlaw14.BrokerEvicts': WHATEVER THE INPUT: true; the input reads as it did. -/
def brokerEvictsSpec : ChangeSpec := { name := "brokerEvicts", fn := fun _ => fun
  | [d1, d2] => { results := [.lit (.bool true)], args := [d1, d2] }
  | _ => none }
def brokerEvictsRow : OpenClaim := { program := "yteepkanbiefpjaagreatdoor", sum := "a3429c6c929459cd9cb8957115860f51f7df619cfe83d5483f15d2133715cecc", func := "kibitzer/kibitzerlaw14.BrokerEvicts", spec := "brokerEvicts", inPlace := ["internal/bytealg.IndexByteString", "internal/bytealg.IndexString"], unfollowed := true, recurses := true, named := ["internal/strconv.uint64pow10", "math/bits.deBruijn32tab", "math/bits.deBruijn64tab", "internal/bytealg.MaxLen", "strconv.ErrSyntax", "strconv.ErrRange"], apart := false, laid := [("math/bits.deBruijn32tab", laid_math_bits_deBruijn32tab), ("math/bits.deBruijn64tab", laid_math_bits_deBruijn64tab), ("internal/strconv.uint64pow10", laid_internal_strconv_uint64pow10), ("strconv.ErrRange", laid_strconv_ErrRange), ("strconv.ErrSyntax", laid_strconv_ErrSyntax)] }
def BrokerEvictsSaid : Prop := brokerEvictsRow.holds Tryz.pinned (OpenSpec.ofChange brokerEvictsSpec)

/-- ITS FALSE NEIGHBOUR: 'it returns false'. Refute it at one input. -/
def brokerEvictsWrong : ChangeSpec := { name := "brokerEvicts", fn := fun _ => fun
  | [d1, d2] => { results := [.lit (.bool false)], args := [d1, d2] }
  | _ => none }
def BrokerEvictsWrongFalsely : Prop := brokerEvictsRow.holds Tryz.pinned (OpenSpec.ofChange brokerEvictsWrong)

/-- 'kibitzerlaw14.BrokerExit': WHATEVER THE INPUT: true; the input reads as it did. -/
def brokerExitSpec : ChangeSpec := { name := "brokerExit", fn := fun _ => fun
  | [d1, d2] => { results := [.lit (.bool true)], args := [d1, d2] }
  | _ => none }
def brokerExitRow : OpenClaim := { program := "yteepkanbiefpjaagreatdoor", sum := "a3429c6c929459cd9cb8957115860f51f7df619cfe83d5483f15d2133715cecc", func := "kibitzer/kibitzerlaw14.BrokerExit", spec := "brokerExit", inPlace := ["internal/bytealg.IndexByteString", "internal/bytealg.IndexString"], unfollowed := true, recurses := true, named := ["internal/strconv.uint64pow10", "math/bits.deBruijn32tab", "math/bits.deBruijn64tab", "internal/bytealg.MaxLen", "strconv.ErrSyntax", "strconv.ErrRange"], apart := false, laid := [("math/bits.deBruijn32tab", laid_math_bits_deBruijn32tab), ("math/bits.deBruijn64tab", laid_math_bits_deBruijn64tab), ("internal/strconv.uint64pow10", laid_internal_strconv_uint64pow10), ("strconv.ErrRange", laid_strconv_ErrRange), ("strconv.ErrSyntax", laid_strconv_ErrSyntax)] }
def BrokerExitSaid : Prop := brokerExitRow.holds Tryz.pinned (OpenSpec.ofChange brokerExitSpec)

/-- ITS FALSE NEIGHBOUR: 'it returns false'. Refute it at one input. -/
def brokerExitWrong : ChangeSpec := { name := "brokerExit", fn := fun _ => fun
  | [d1, d2] => { results := [.lit (.bool false)], args := [d1, d2] }
  | _ => none }
def BrokerExitWrongFalsely : Prop := brokerExitRow.holds Tryz.pinned (OpenSpec.ofChange brokerExitWrong)

/-- 'kibitzerlaw14.BrokerApart': WHATEVER THE INPUT: true; the input reads as it did. -/
def brokerApartSpec : ChangeSpec := { name := "brokerApart", fn := fun _ => fun
  | [d1, d2] => { results := [.lit (.bool true)], args := [d1, d2] }
  | _ => none }
def brokerApartRow : OpenClaim := { program := "yteepkanbiefpjaagreatdoor", sum := "a3429c6c929459cd9cb8957115860f51f7df619cfe83d5483f15d2133715cecc", func := "kibitzer/kibitzerlaw14.BrokerApart", spec := "brokerApart", inPlace := ["internal/bytealg.IndexByteString", "internal/bytealg.IndexString"], unfollowed := true, recurses := true, named := ["internal/strconv.uint64pow10", "math/bits.deBruijn32tab", "math/bits.deBruijn64tab", "internal/bytealg.MaxLen", "strconv.ErrSyntax", "strconv.ErrRange"], apart := false, laid := [("math/bits.deBruijn32tab", laid_math_bits_deBruijn32tab), ("math/bits.deBruijn64tab", laid_math_bits_deBruijn64tab), ("internal/strconv.uint64pow10", laid_internal_strconv_uint64pow10), ("strconv.ErrRange", laid_strconv_ErrRange), ("strconv.ErrSyntax", laid_strconv_ErrSyntax)] }
def BrokerApartSaid : Prop := brokerApartRow.holds Tryz.pinned (OpenSpec.ofChange brokerApartSpec)

/-- ITS FALSE NEIGHBOUR: 'it returns false'. Refute it at one input. -/
def brokerApartWrong : ChangeSpec := { name := "brokerApart", fn := fun _ => fun
  | [d1, d2] => { results := [.lit (.bool false)], args := [d1, d2] }
  | _ => none }
def BrokerApartWrongFalsely : Prop := brokerApartRow.holds Tryz.pinned (OpenSpec.ofChange brokerApartWrong)

/-- 'kibitzerlaw14.BrokerFloor': WHATEVER THE INPUT: true; the input reads as it did. -/
def brokerFloorSpec : ChangeSpec := { name := "brokerFloor", fn := fun _ => fun
  | [d1, d2] => { results := [.lit (.bool true)], args := [d1, d2] }
  | _ => none }
def brokerFloorRow : OpenClaim := { program := "yteepkanbiefpjaagreatdoor", sum := "a3429c6c929459cd9cb8957115860f51f7df619cfe83d5483f15d2133715cecc", func := "kibitzer/kibitzerlaw14.BrokerFloor", spec := "brokerFloor", inPlace := ["internal/bytealg.IndexByteString", "internal/bytealg.IndexString"], unfollowed := true, recurses := true, named := ["internal/strconv.uint64pow10", "math/bits.deBruijn32tab", "math/bits.deBruijn64tab", "internal/bytealg.MaxLen", "strconv.ErrSyntax", "strconv.ErrRange"], apart := false, laid := [("math/bits.deBruijn32tab", laid_math_bits_deBruijn32tab), ("math/bits.deBruijn64tab", laid_math_bits_deBruijn64tab), ("internal/strconv.uint64pow10", laid_internal_strconv_uint64pow10), ("strconv.ErrRange", laid_strconv_ErrRange), ("strconv.ErrSyntax", laid_strconv_ErrSyntax)] }
def BrokerFloorSaid : Prop := brokerFloorRow.holds Tryz.pinned (OpenSpec.ofChange brokerFloorSpec)

/-- ITS FALSE NEIGHBOUR: 'it returns false'. Refute it at one input. -/
def brokerFloorWrong : ChangeSpec := { name := "brokerFloor", fn := fun _ => fun
  | [d1, d2] => { results := [.lit (.bool false)], args := [d1, d2] }
  | _ => none }
def BrokerFloorWrongFalsely : Prop := brokerFloorRow.holds Tryz.pinned (OpenSpec.ofChange brokerFloorWrong)

/-- 'kibitzerlaw14.BrokerBounds': WHATEVER THE INPUT: true; the input reads as it did. -/
def brokerBoundsSpec : ChangeSpec := { name := "brokerBounds", fn := fun _ => fun
  | [d1, d2] => { results := [.lit (.bool true)], args := [d1, d2] }
  | _ => none }
def brokerBoundsRow : OpenClaim := { program := "yteepkanbiefpjaagreatdoor", sum := "a3429c6c929459cd9cb8957115860f51f7df619cfe83d5483f15d2133715cecc", func := "kibitzer/kibitzerlaw14.BrokerBounds", spec := "brokerBounds", inPlace := ["internal/bytealg.IndexByteString", "internal/bytealg.IndexString"], unfollowed := true, recurses := true, named := ["internal/strconv.uint64pow10", "math/bits.deBruijn32tab", "math/bits.deBruijn64tab", "internal/bytealg.MaxLen", "strconv.ErrSyntax", "strconv.ErrRange"], apart := false, laid := [("math/bits.deBruijn32tab", laid_math_bits_deBruijn32tab), ("math/bits.deBruijn64tab", laid_math_bits_deBruijn64tab), ("internal/strconv.uint64pow10", laid_internal_strconv_uint64pow10), ("strconv.ErrRange", laid_strconv_ErrRange), ("strconv.ErrSyntax", laid_strconv_ErrSyntax)] }
def BrokerBoundsSaid : Prop := brokerBoundsRow.holds Tryz.pinned (OpenSpec.ofChange brokerBoundsSpec)

/-- ITS FALSE NEIGHBOUR: 'it returns false'. Refute it at one input. -/
def brokerBoundsWrong : ChangeSpec := { name := "brokerBounds", fn := fun _ => fun
  | [d1, d2] => { results := [.lit (.bool false)], args := [d1, d2] }
  | _ => none }
def BrokerBoundsWrongFalsely : Prop := brokerBoundsRow.holds Tryz.pinned (OpenSpec.ofChange brokerBoundsWrong)

/- THE SECOND FORM. 'bulk': how many values and letters a reading holds, each counted each time it is reached (what is shared counts as often as it is met; a slice's spare places count too). A statement '..UptoSaid' is the law's where the arguments, and the package variables that the reading takes, are together of bulk at most 1048576: NARROWER than '..Said'. Prove '..Said' where nothing that the law and all that it calls make is longer than what came in: it says more and counts as full. Else prove '..UptoSaid'. A law counts once. -/
mutual
def uptoBulk {H : Type} : DataW H → Nat
  | .lit (.string bytes) => bytes.length + 1
  | .lit _ => 1
  | .nil => 1
  | .ptr d => uptoBulk d + 1
  | .slice elems spare => uptoBulkAll elems + uptoBulkAll spare + 1
  | .agg parts => uptoBulkAll parts + 1
  | .iface _ d => uptoBulk d + 1
  | .map entries => uptoBulkEntries entries + 1
  | .held _ => 1
def uptoBulkAll {H : Type} : List (DataW H) → Nat
  | [] => 0
  | d :: r => uptoBulk d + uptoBulkAll r
def uptoBulkEntries {H : Type} : List (Lit × DataW H) → Nat
  | [] => 0
  | x :: r => uptoBulkEntry x + uptoBulkEntries r
def uptoBulkEntry {H : Type} : Lit × DataW H → Nat
  | (.string bytes, d) => bytes.length + uptoBulk d + 1
  | (_, d) => uptoBulk d + 1
 end
def uptoSmall : (H : Type) → List (DataW H) → Bool := fun _ ds => decide (uptoBulkAll ds ≤ 1048576)
def OpenSpec.upto (s : _root_.Go.ChangeSpec) : _root_.Go.OpenSpec := { _root_.Go.OpenSpec.ofChange s with cond := some uptoSmall }

/-- 'kibitzerlaw14.BrokerDenied', WHERE WHAT IT READS IS OF BULK AT MOST 1048576: true; the input reads as it did. -/
def brokerDeniedUptoRow : OpenClaim := { program := "yteepkanbiefpjaagreatdoor", sum := "a3429c6c929459cd9cb8957115860f51f7df619cfe83d5483f15d2133715cecc", func := "kibitzer/kibitzerlaw14.BrokerDenied", spec := "brokerDenied", inPlace := ["internal/bytealg.IndexByteString", "internal/bytealg.IndexString"], unfollowed := true, recurses := true, named := ["internal/strconv.uint64pow10", "math/bits.deBruijn32tab", "math/bits.deBruijn64tab", "internal/bytealg.MaxLen", "strconv.ErrSyntax", "strconv.ErrRange"], apart := false, laid := [("math/bits.deBruijn32tab", laid_math_bits_deBruijn32tab), ("math/bits.deBruijn64tab", laid_math_bits_deBruijn64tab), ("internal/strconv.uint64pow10", laid_internal_strconv_uint64pow10), ("strconv.ErrRange", laid_strconv_ErrRange), ("strconv.ErrSyntax", laid_strconv_ErrSyntax)], narrowed := true }
def BrokerDeniedUptoSaid : Prop := brokerDeniedUptoRow.holds Tryz.pinned (OpenSpec.upto brokerDeniedSpec)

/-- 'kibitzerlaw14.BrokerFresh', WHERE WHAT IT READS IS OF BULK AT MOST 1048576: true; the input reads as it did. -/
def brokerFreshUptoRow : OpenClaim := { program := "yteepkanbiefpjaagreatdoor", sum := "a3429c6c929459cd9cb8957115860f51f7df619cfe83d5483f15d2133715cecc", func := "kibitzer/kibitzerlaw14.BrokerFresh", spec := "brokerFresh", inPlace := ["internal/bytealg.IndexByteString", "internal/bytealg.IndexString"], unfollowed := true, recurses := true, named := ["internal/strconv.uint64pow10", "math/bits.deBruijn32tab", "math/bits.deBruijn64tab", "internal/bytealg.MaxLen", "strconv.ErrSyntax", "strconv.ErrRange"], apart := false, laid := [("math/bits.deBruijn32tab", laid_math_bits_deBruijn32tab), ("math/bits.deBruijn64tab", laid_math_bits_deBruijn64tab), ("internal/strconv.uint64pow10", laid_internal_strconv_uint64pow10), ("strconv.ErrRange", laid_strconv_ErrRange), ("strconv.ErrSyntax", laid_strconv_ErrSyntax)], narrowed := true }
def BrokerFreshUptoSaid : Prop := brokerFreshUptoRow.holds Tryz.pinned (OpenSpec.upto brokerFreshSpec)

/-- 'kibitzerlaw14.BrokerRoles', WHERE WHAT IT READS IS OF BULK AT MOST 1048576: true; the input reads as it did. -/
def brokerRolesUptoRow : OpenClaim := { program := "yteepkanbiefpjaagreatdoor", sum := "a3429c6c929459cd9cb8957115860f51f7df619cfe83d5483f15d2133715cecc", func := "kibitzer/kibitzerlaw14.BrokerRoles", spec := "brokerRoles", inPlace := ["internal/bytealg.IndexByteString", "internal/bytealg.IndexString"], unfollowed := true, recurses := true, named := ["internal/strconv.uint64pow10", "math/bits.deBruijn32tab", "math/bits.deBruijn64tab", "internal/bytealg.MaxLen", "strconv.ErrSyntax", "strconv.ErrRange"], apart := false, laid := [("math/bits.deBruijn32tab", laid_math_bits_deBruijn32tab), ("math/bits.deBruijn64tab", laid_math_bits_deBruijn64tab), ("internal/strconv.uint64pow10", laid_internal_strconv_uint64pow10), ("strconv.ErrRange", laid_strconv_ErrRange), ("strconv.ErrSyntax", laid_strconv_ErrSyntax)], narrowed := true }
def BrokerRolesUptoSaid : Prop := brokerRolesUptoRow.holds Tryz.pinned (OpenSpec.upto brokerRolesSpec)

/-- 'kibitzerlaw14.BrokerWaits', WHERE WHAT IT READS IS OF BULK AT MOST 1048576: true; the input reads as it did. -/
def brokerWaitsUptoRow : OpenClaim := { program := "yteepkanbiefpjaagreatdoor", sum := "a3429c6c929459cd9cb8957115860f51f7df619cfe83d5483f15d2133715cecc", func := "kibitzer/kibitzerlaw14.BrokerWaits", spec := "brokerWaits", inPlace := ["internal/bytealg.IndexByteString", "internal/bytealg.IndexString"], unfollowed := true, recurses := true, named := ["internal/strconv.uint64pow10", "math/bits.deBruijn32tab", "math/bits.deBruijn64tab", "internal/bytealg.MaxLen", "strconv.ErrSyntax", "strconv.ErrRange"], apart := false, laid := [("math/bits.deBruijn32tab", laid_math_bits_deBruijn32tab), ("math/bits.deBruijn64tab", laid_math_bits_deBruijn64tab), ("internal/strconv.uint64pow10", laid_internal_strconv_uint64pow10), ("strconv.ErrRange", laid_strconv_ErrRange), ("strconv.ErrSyntax", laid_strconv_ErrSyntax)], narrowed := true }
def BrokerWaitsUptoSaid : Prop := brokerWaitsUptoRow.holds Tryz.pinned (OpenSpec.upto brokerWaitsSpec)

/-- 'kibitzerlaw14.BrokerIdle', WHERE WHAT IT READS IS OF BULK AT MOST 1048576: true; the input reads as it did. -/
def brokerIdleUptoRow : OpenClaim := { program := "yteepkanbiefpjaagreatdoor", sum := "a3429c6c929459cd9cb8957115860f51f7df619cfe83d5483f15d2133715cecc", func := "kibitzer/kibitzerlaw14.BrokerIdle", spec := "brokerIdle", inPlace := ["internal/bytealg.IndexByteString", "internal/bytealg.IndexString"], unfollowed := true, recurses := true, named := ["internal/strconv.uint64pow10", "math/bits.deBruijn32tab", "math/bits.deBruijn64tab", "internal/bytealg.MaxLen", "strconv.ErrSyntax", "strconv.ErrRange"], apart := false, laid := [("math/bits.deBruijn32tab", laid_math_bits_deBruijn32tab), ("math/bits.deBruijn64tab", laid_math_bits_deBruijn64tab), ("internal/strconv.uint64pow10", laid_internal_strconv_uint64pow10), ("strconv.ErrRange", laid_strconv_ErrRange), ("strconv.ErrSyntax", laid_strconv_ErrSyntax)], narrowed := true }
def BrokerIdleUptoSaid : Prop := brokerIdleUptoRow.holds Tryz.pinned (OpenSpec.upto brokerIdleSpec)

/-- 'kibitzerlaw14.BrokerCatches', WHERE WHAT IT READS IS OF BULK AT MOST 1048576: true; the input reads as it did. -/
def brokerCatchesUptoRow : OpenClaim := { program := "yteepkanbiefpjaagreatdoor", sum := "a3429c6c929459cd9cb8957115860f51f7df619cfe83d5483f15d2133715cecc", func := "kibitzer/kibitzerlaw14.BrokerCatches", spec := "brokerCatches", inPlace := ["internal/bytealg.IndexByteString", "internal/bytealg.IndexString"], unfollowed := true, recurses := true, named := ["internal/strconv.uint64pow10", "math/bits.deBruijn32tab", "math/bits.deBruijn64tab", "internal/bytealg.MaxLen", "strconv.ErrSyntax", "strconv.ErrRange"], apart := false, laid := [("math/bits.deBruijn32tab", laid_math_bits_deBruijn32tab), ("math/bits.deBruijn64tab", laid_math_bits_deBruijn64tab), ("internal/strconv.uint64pow10", laid_internal_strconv_uint64pow10), ("strconv.ErrRange", laid_strconv_ErrRange), ("strconv.ErrSyntax", laid_strconv_ErrSyntax)], narrowed := true }
def BrokerCatchesUptoSaid : Prop := brokerCatchesUptoRow.holds Tryz.pinned (OpenSpec.upto brokerCatchesSpec)

/-- 'kibitzerlaw14.BrokerReplay', WHERE WHAT IT READS IS OF BULK AT MOST 1048576: true; the input reads as it did. -/
def brokerReplayUptoRow : OpenClaim := { program := "yteepkanbiefpjaagreatdoor", sum := "a3429c6c929459cd9cb8957115860f51f7df619cfe83d5483f15d2133715cecc", func := "kibitzer/kibitzerlaw14.BrokerReplay", spec := "brokerReplay", inPlace := ["internal/bytealg.IndexByteString", "internal/bytealg.IndexString"], unfollowed := true, recurses := true, named := ["internal/strconv.uint64pow10", "math/bits.deBruijn32tab", "math/bits.deBruijn64tab", "internal/bytealg.MaxLen", "strconv.ErrSyntax", "strconv.ErrRange"], apart := false, laid := [("math/bits.deBruijn32tab", laid_math_bits_deBruijn32tab), ("math/bits.deBruijn64tab", laid_math_bits_deBruijn64tab), ("internal/strconv.uint64pow10", laid_internal_strconv_uint64pow10), ("strconv.ErrRange", laid_strconv_ErrRange), ("strconv.ErrSyntax", laid_strconv_ErrSyntax)], narrowed := true }
def BrokerReplayUptoSaid : Prop := brokerReplayUptoRow.holds Tryz.pinned (OpenSpec.upto brokerReplaySpec)

/-- 'kibitzerlaw14.BrokerEvicts', WHERE WHAT IT READS IS OF BULK AT MOST 1048576: true; the input reads as it did. -/
def brokerEvictsUptoRow : OpenClaim := { program := "yteepkanbiefpjaagreatdoor", sum := "a3429c6c929459cd9cb8957115860f51f7df619cfe83d5483f15d2133715cecc", func := "kibitzer/kibitzerlaw14.BrokerEvicts", spec := "brokerEvicts", inPlace := ["internal/bytealg.IndexByteString", "internal/bytealg.IndexString"], unfollowed := true, recurses := true, named := ["internal/strconv.uint64pow10", "math/bits.deBruijn32tab", "math/bits.deBruijn64tab", "internal/bytealg.MaxLen", "strconv.ErrSyntax", "strconv.ErrRange"], apart := false, laid := [("math/bits.deBruijn32tab", laid_math_bits_deBruijn32tab), ("math/bits.deBruijn64tab", laid_math_bits_deBruijn64tab), ("internal/strconv.uint64pow10", laid_internal_strconv_uint64pow10), ("strconv.ErrRange", laid_strconv_ErrRange), ("strconv.ErrSyntax", laid_strconv_ErrSyntax)], narrowed := true }
def BrokerEvictsUptoSaid : Prop := brokerEvictsUptoRow.holds Tryz.pinned (OpenSpec.upto brokerEvictsSpec)

/-- 'kibitzerlaw14.BrokerExit', WHERE WHAT IT READS IS OF BULK AT MOST 1048576: true; the input reads as it did. -/
def brokerExitUptoRow : OpenClaim := { program := "yteepkanbiefpjaagreatdoor", sum := "a3429c6c929459cd9cb8957115860f51f7df619cfe83d5483f15d2133715cecc", func := "kibitzer/kibitzerlaw14.BrokerExit", spec := "brokerExit", inPlace := ["internal/bytealg.IndexByteString", "internal/bytealg.IndexString"], unfollowed := true, recurses := true, named := ["internal/strconv.uint64pow10", "math/bits.deBruijn32tab", "math/bits.deBruijn64tab", "internal/bytealg.MaxLen", "strconv.ErrSyntax", "strconv.ErrRange"], apart := false, laid := [("math/bits.deBruijn32tab", laid_math_bits_deBruijn32tab), ("math/bits.deBruijn64tab", laid_math_bits_deBruijn64tab), ("internal/strconv.uint64pow10", laid_internal_strconv_uint64pow10), ("strconv.ErrRange", laid_strconv_ErrRange), ("strconv.ErrSyntax", laid_strconv_ErrSyntax)], narrowed := true }
def BrokerExitUptoSaid : Prop := brokerExitUptoRow.holds Tryz.pinned (OpenSpec.upto brokerExitSpec)

/-- 'kibitzerlaw14.BrokerApart', WHERE WHAT IT READS IS OF BULK AT MOST 1048576: true; the input reads as it did. -/
def brokerApartUptoRow : OpenClaim := { program := "yteepkanbiefpjaagreatdoor", sum := "a3429c6c929459cd9cb8957115860f51f7df619cfe83d5483f15d2133715cecc", func := "kibitzer/kibitzerlaw14.BrokerApart", spec := "brokerApart", inPlace := ["internal/bytealg.IndexByteString", "internal/bytealg.IndexString"], unfollowed := true, recurses := true, named := ["internal/strconv.uint64pow10", "math/bits.deBruijn32tab", "math/bits.deBruijn64tab", "internal/bytealg.MaxLen", "strconv.ErrSyntax", "strconv.ErrRange"], apart := false, laid := [("math/bits.deBruijn32tab", laid_math_bits_deBruijn32tab), ("math/bits.deBruijn64tab", laid_math_bits_deBruijn64tab), ("internal/strconv.uint64pow10", laid_internal_strconv_uint64pow10), ("strconv.ErrRange", laid_strconv_ErrRange), ("strconv.ErrSyntax", laid_strconv_ErrSyntax)], narrowed := true }
def BrokerApartUptoSaid : Prop := brokerApartUptoRow.holds Tryz.pinned (OpenSpec.upto brokerApartSpec)

/-- 'kibitzerlaw14.BrokerFloor', WHERE WHAT IT READS IS OF BULK AT MOST 1048576: true; the input reads as it did. -/
def brokerFloorUptoRow : OpenClaim := { program := "yteepkanbiefpjaagreatdoor", sum := "a3429c6c929459cd9cb8957115860f51f7df619cfe83d5483f15d2133715cecc", func := "kibitzer/kibitzerlaw14.BrokerFloor", spec := "brokerFloor", inPlace := ["internal/bytealg.IndexByteString", "internal/bytealg.IndexString"], unfollowed := true, recurses := true, named := ["internal/strconv.uint64pow10", "math/bits.deBruijn32tab", "math/bits.deBruijn64tab", "internal/bytealg.MaxLen", "strconv.ErrSyntax", "strconv.ErrRange"], apart := false, laid := [("math/bits.deBruijn32tab", laid_math_bits_deBruijn32tab), ("math/bits.deBruijn64tab", laid_math_bits_deBruijn64tab), ("internal/strconv.uint64pow10", laid_internal_strconv_uint64pow10), ("strconv.ErrRange", laid_strconv_ErrRange), ("strconv.ErrSyntax", laid_strconv_ErrSyntax)], narrowed := true }
def BrokerFloorUptoSaid : Prop := brokerFloorUptoRow.holds Tryz.pinned (OpenSpec.upto brokerFloorSpec)

/-- 'kibitzerlaw14.BrokerBounds', WHERE WHAT IT READS IS OF BULK AT MOST 1048576: true; the input reads as it did. -/
def brokerBoundsUptoRow : OpenClaim := { program := "yteepkanbiefpjaagreatdoor", sum := "a3429c6c929459cd9cb8957115860f51f7df619cfe83d5483f15d2133715cecc", func := "kibitzer/kibitzerlaw14.BrokerBounds", spec := "brokerBounds", inPlace := ["internal/bytealg.IndexByteString", "internal/bytealg.IndexString"], unfollowed := true, recurses := true, named := ["internal/strconv.uint64pow10", "math/bits.deBruijn32tab", "math/bits.deBruijn64tab", "internal/bytealg.MaxLen", "strconv.ErrSyntax", "strconv.ErrRange"], apart := false, laid := [("math/bits.deBruijn32tab", laid_math_bits_deBruijn32tab), ("math/bits.deBruijn64tab", laid_math_bits_deBruijn64tab), ("internal/strconv.uint64pow10", laid_internal_strconv_uint64pow10), ("strconv.ErrRange", laid_strconv_ErrRange), ("strconv.ErrSyntax", laid_strconv_ErrSyntax)], narrowed := true }
def BrokerBoundsUptoSaid : Prop := brokerBoundsUptoRow.holds Tryz.pinned (OpenSpec.upto brokerBoundsSpec)

end Rows
end Go.Proofs.YteepkanbiefpjaaGreatDoor
