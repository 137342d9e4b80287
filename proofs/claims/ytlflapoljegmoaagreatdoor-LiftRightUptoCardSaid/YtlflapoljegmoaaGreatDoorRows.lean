/-
  NARROWER THAN 'FOR EVERY INPUT', by the rows' own cells (each row's printed sentence says how): LiftLifts: loops, laid · LiftRight: loops, laid · LiftFlat: loops, laid · LiftNames: loops, laid · LiftCallees: loops, laid.
  DERIVED. THE GIVEN ROWS OF THIS SEAT. 5 by the template 'for every input the law returns true; each argument reads behind the call as it read before'; 0 by the template 'total and deterministic' (their statements: YtlflapoljegmoaaGreatDoorTotals.lean).
  GIVEN WITH THE SEED: the statements are not yours to turn. If you find one false, say at which input.
  Laid BY PROGRAM, IN A SANDBOX (cutbox-rows.mjs): the forced cells as the released guide's own fill.sh prints them over the translation 62348fccc5c22c9c… (all of the seat's roots in one cut). By AI agents, Wed Nov 11 2026. No macro, syntax, notation, axiom, sorry.
-/
import Derived.Test.YtlflapoljegmoaaGreatDoorChecked
import GoSem.PinnedTables
import GoSem.Claim
import GoSem.ClaimJoined
import GoSem.ClaimMapViews
import Derived.JoinedTies
import Derived.KernelRfl
namespace Go.Proofs.YtlflapoljegmoaaGreatDoor
/- THE CELL 'sum', in the pinned program and in every row, IS THE sha256 OF THE DUMP (.gsa) THAT YtlflapoljegmoaaGreatDoorProg.lean LOADS. Nothing in Lean hashes anything: it is a label: what it is worth is what the hold of that sum in a sandbox is worth. -/
noncomputable def Tryz.pinned : Pinned := { name := "ytlflapoljegmoaagreatdoor", sum := "62348fccc5c22c9cb943db2c36d420873cfe0eba2a6c587160050c26f2e17ac7", checked := Tryz.checked }
namespace Rows
def none {H : Type} : Left H := { results := [], args := [] }

/- WHAT THE LISTED PACKAGE-LEVEL VARIABLES READ AS WHEN THE CALL BEGINS. Each datum BY PROGRAM (the guide's laid-datum.mjs) off the statement by which the dump's own 'gosem.cut.vars' lays the variable. In a bare row this is a premise. The card (YtlflapoljegmoaaGreatDoorCards.lean) ties it to the program's text. -/
def laid_unicode_utf8_acceptRanges {H : Type} : DataW H := .agg [.agg [.lit (.int .u8 128), .lit (.int .u8 191)], .agg [.lit (.int .u8 160), .lit (.int .u8 191)], .agg [.lit (.int .u8 128), .lit (.int .u8 159)], .agg [.lit (.int .u8 144), .lit (.int .u8 191)], .agg [.lit (.int .u8 128), .lit (.int .u8 143)], .agg [.lit (.int .u8 0), .lit (.int .u8 0)], .agg [.lit (.int .u8 0), .lit (.int .u8 0)], .agg [.lit (.int .u8 0), .lit (.int .u8 0)], .agg [.lit (.int .u8 0), .lit (.int .u8 0)], .agg [.lit (.int .u8 0), .lit (.int .u8 0)], .agg [.lit (.int .u8 0), .lit (.int .u8 0)], .agg [.lit (.int .u8 0), .lit (.int .u8 0)], .agg [.lit (.int .u8 0), .lit (.int .u8 0)], .agg [.lit (.int .u8 0), .lit (.int .u8 0)], .agg [.lit (.int .u8 0), .lit (.int .u8 0)], .agg [.lit (.int .u8 0), .lit (.int .u8 0)]]
/-- One of Go's own tables, pinned by name: the form's constant. -/
def laid_unicode_utf8_first : DataW Unit := Go.Pinned.utf8First

/-- 'pantographlaw14.LiftLifts': WHATEVER THE INPUT: true; the input reads as it did. -/
def liftLiftsSpec : ChangeSpec := { name := "liftLifts", fn := fun _ => fun
  | [d] => { results := [.lit (.bool true)], args := [d] }
  | _ => none }
def liftLiftsRow : OpenClaim := { program := "ytlflapoljegmoaagreatdoor", sum := "62348fccc5c22c9cb943db2c36d420873cfe0eba2a6c587160050c26f2e17ac7", func := "pantograph/pantographlaw14.LiftLifts", spec := "liftLifts", inPlace := ["internal/abi.NoEscape", "internal/bytealg.MakeNoZero", "internal/bytealg.CountString", "internal/bytealg.IndexByteString", "internal/bytealg.IndexString"], unfollowed := true, recurses := true, named := ["unicode/utf8.first", "unicode/utf8.acceptRanges", "internal/bytealg.MaxLen"], loops := true, plainKeys := false, apart := false, laid := [("unicode/utf8.acceptRanges", laid_unicode_utf8_acceptRanges), ("unicode/utf8.first", laid_unicode_utf8_first)] }
def LiftLiftsSaid : Prop := liftLiftsRow.holds Tryz.pinned (OpenSpec.ofChange liftLiftsSpec)

/-- ITS FALSE NEIGHBOUR: 'it returns false'. Refute it at one input. -/
def liftLiftsWrong : ChangeSpec := { name := "liftLifts", fn := fun _ => fun
  | [d] => { results := [.lit (.bool false)], args := [d] }
  | _ => none }
def LiftLiftsWrongFalsely : Prop := liftLiftsRow.holds Tryz.pinned (OpenSpec.ofChange liftLiftsWrong)

/-- 'pantographlaw14.LiftRight': WHATEVER THE INPUT: true; the input reads as it did. -/
def liftRightSpec : ChangeSpec := { name := "liftRight", fn := fun _ => fun
  | [d] => { results := [.lit (.bool true)], args := [d] }
  | _ => none }
def liftRightRow : OpenClaim := { program := "ytlflapoljegmoaagreatdoor", sum := "62348fccc5c22c9cb943db2c36d420873cfe0eba2a6c587160050c26f2e17ac7", func := "pantograph/pantographlaw14.LiftRight", spec := "liftRight", inPlace := ["internal/abi.NoEscape", "internal/bytealg.MakeNoZero", "internal/bytealg.CountString", "internal/bytealg.IndexByteString", "internal/bytealg.IndexString"], unfollowed := true, recurses := true, named := ["unicode/utf8.first", "unicode/utf8.acceptRanges", "internal/bytealg.MaxLen"], loops := true, plainKeys := false, apart := false, laid := [("unicode/utf8.acceptRanges", laid_unicode_utf8_acceptRanges), ("unicode/utf8.first", laid_unicode_utf8_first)] }
def LiftRightSaid : Prop := liftRightRow.holds Tryz.pinned (OpenSpec.ofChange liftRightSpec)

/-- ITS FALSE NEIGHBOUR: 'it returns false'. Refute it at one input. -/
def liftRightWrong : ChangeSpec := { name := "liftRight", fn := fun _ => fun
  | [d] => { results := [.lit (.bool false)], args := [d] }
  | _ => none }
def LiftRightWrongFalsely : Prop := liftRightRow.holds Tryz.pinned (OpenSpec.ofChange liftRightWrong)

/-- 'pantographlaw14.LiftFlat': WHATEVER THE INPUT: true; the input reads as it did. -/
def liftFlatSpec : ChangeSpec := { name := "liftFlat", fn := fun _ => fun
  | [d] => { results := [.lit (.bool true)], args := [d] }
  | _ => none }
def liftFlatRow : OpenClaim := { program := "ytlflapoljegmoaagreatdoor", sum := "62348fccc5c22c9cb943db2c36d420873cfe0eba2a6c587160050c26f2e17ac7", func := "pantograph/pantographlaw14.LiftFlat", spec := "liftFlat", inPlace := ["internal/abi.NoEscape", "internal/bytealg.MakeNoZero", "internal/bytealg.CountString", "internal/bytealg.IndexByteString", "internal/bytealg.IndexString"], unfollowed := true, recurses := true, named := ["unicode/utf8.first", "unicode/utf8.acceptRanges", "internal/bytealg.MaxLen"], loops := true, plainKeys := false, apart := false, laid := [("unicode/utf8.acceptRanges", laid_unicode_utf8_acceptRanges), ("unicode/utf8.first", laid_unicode_utf8_first)] }
def LiftFlatSaid : Prop := liftFlatRow.holds Tryz.pinned (OpenSpec.ofChange liftFlatSpec)

/-- ITS FALSE NEIGHBOUR: 'it returns false'. Refute it at one input. -/
def liftFlatWrong : ChangeSpec := { name := "liftFlat", fn := fun _ => fun
  | [d] => { results := [.lit (.bool false)], args := [d] }
  | _ => none }
def LiftFlatWrongFalsely : Prop := liftFlatRow.holds Tryz.pinned (OpenSpec.ofChange liftFlatWrong)

/-- 'pantographlaw14.LiftNames': WHATEVER THE INPUT: true; the input reads as it did. -/
def liftNamesSpec : ChangeSpec := { name := "liftNames", fn := fun _ => fun
  | [d] => { results := [.lit (.bool true)], args := [d] }
  | _ => none }
def liftNamesRow : OpenClaim := { program := "ytlflapoljegmoaagreatdoor", sum := "62348fccc5c22c9cb943db2c36d420873cfe0eba2a6c587160050c26f2e17ac7", func := "pantograph/pantographlaw14.LiftNames", spec := "liftNames", inPlace := ["internal/abi.NoEscape", "internal/bytealg.MakeNoZero", "internal/bytealg.CountString", "internal/bytealg.IndexByteString", "internal/bytealg.IndexString"], unfollowed := true, recurses := true, named := ["unicode/utf8.first", "unicode/utf8.acceptRanges", "internal/bytealg.MaxLen"], loops := true, plainKeys := false, apart := false, laid := [("unicode/utf8.acceptRanges", laid_unicode_utf8_acceptRanges), ("unicode/utf8.first", laid_unicode_utf8_first)] }
def LiftNamesSaid : Prop := liftNamesRow.holds Tryz.pinned (OpenSpec.ofChange liftNamesSpec)

/-- ITS FALSE NEIGHBOUR: 'it returns false'. Refute it at one input. -/
def liftNamesWrong : ChangeSpec := { name := "liftNames", fn := fun _ => fun
  | [d] => { results := [.lit (.bool false)], args := [d] }
  | _ => none }
def LiftNamesWrongFalsely : Prop := liftNamesRow.holds Tryz.pinned (OpenSpec.ofChange liftNamesWrong)

/-- 'pantographlaw14.LiftCallees': WHATEVER THE INPUT: true; the input reads as it did. -/
def liftCalleesSpec : ChangeSpec := { name := "liftCallees", fn := fun _ => fun
  | [d1, d2, d3] => { results := [.lit (.bool true)], args := [d1, d2, d3] }
  | _ => none }
def liftCalleesRow : OpenClaim := { program := "ytlflapoljegmoaagreatdoor", sum := "62348fccc5c22c9cb943db2c36d420873cfe0eba2a6c587160050c26f2e17ac7", func := "pantograph/pantographlaw14.LiftCallees", spec := "liftCallees", inPlace := ["internal/abi.NoEscape", "internal/bytealg.MakeNoZero", "internal/bytealg.CountString", "internal/bytealg.IndexByteString", "internal/bytealg.IndexString"], unfollowed := true, recurses := true, named := ["unicode/utf8.first", "unicode/utf8.acceptRanges", "internal/bytealg.MaxLen"], loops := true, plainKeys := false, apart := false, laid := [("unicode/utf8.acceptRanges", laid_unicode_utf8_acceptRanges), ("unicode/utf8.first", laid_unicode_utf8_first)] }
def LiftCalleesSaid : Prop := liftCalleesRow.holds Tryz.pinned (OpenSpec.ofChange liftCalleesSpec)

/-- ITS FALSE NEIGHBOUR: 'it returns false'. Refute it at one input. -/
def liftCalleesWrong : ChangeSpec := { name := "liftCallees", fn := fun _ => fun
  | [d1, d2, d3] => { results := [.lit (.bool false)], args := [d1, d2, d3] }
  | _ => none }
def LiftCalleesWrongFalsely : Prop := liftCalleesRow.holds Tryz.pinned (OpenSpec.ofChange liftCalleesWrong)

/- THE SECOND FORM. 'bulk': how many values and letters a reading holds, each counted each time it is reached (what is shared counts as often as it is met; a slice's spare places count too). A statement '..UptoSaid' is the law's where the arguments, and the package variables that the reading takes, are together of bulk at most 1048576: NARROWER than '..Said'. Prove '..Said' where nothing that the law and all that it calls make is longer than what came in: it says more and counts as full. Else prove '..UptoSaid'. A law counts once. -/
mutual
def uptoBulk {H : Type} : DataW H → Nat
  | .lit (.string bytes) => bytes.length + 1
  | .lit _ => 1
  | .nil => 1
  | .ptr d => uptoBulk d + 1
  | .slice elems spare => uptoBulkAll elems + uptoBulkAll spare + 1
  | .agg parts => uptoBulkAll parts + 1
  | .iface _ d => uptoBulk d + 1
  | .map entries => uptoBulkEntries entries + 1
  | .held _ => 1
def uptoBulkAll {H : Type} : List (DataW H) → Nat
  | [] => 0
  | d :: r => uptoBulk d + uptoBulkAll r
def uptoBulkEntries {H : Type} : List (Lit × DataW H) → Nat
  | [] => 0
  | x :: r => uptoBulkEntry x + uptoBulkEntries r
def uptoBulkEntry {H : Type} : Lit × DataW H → Nat
  | (.string bytes, d) => bytes.length + uptoBulk d + 1
  | (_, d) => uptoBulk d + 1
 end
def uptoSmall : (H : Type) → List (DataW H) → Bool := fun _ ds => decide (uptoBulkAll ds ≤ 1048576)
def OpenSpec.upto (s : _root_.Go.ChangeSpec) : _root_.Go.OpenSpec := { _root_.Go.OpenSpec.ofChange s with cond := some uptoSmall }

/-- 'pantographlaw14.LiftLifts', WHERE WHAT IT READS IS OF BULK AT MOST 1048576: true; the input reads as it did. -/
def liftLiftsUptoRow : OpenClaim := { program := "ytlflapoljegmoaagreatdoor", sum := "62348fccc5c22c9cb943db2c36d420873cfe0eba2a6c587160050c26f2e17ac7", func := "pantograph/pantographlaw14.LiftLifts", spec := "liftLifts", inPlace := ["internal/abi.NoEscape", "internal/bytealg.MakeNoZero", "internal/bytealg.CountString", "internal/bytealg.IndexByteString", "internal/bytealg.IndexString"], unfollowed := true, recurses := true, named := ["unicode/utf8.first", "unicode/utf8.acceptRanges", "internal/bytealg.MaxLen"], loops := true, plainKeys := false, apart := false, laid := [("unicode/utf8.acceptRanges", laid_unicode_utf8_acceptRanges), ("unicode/utf8.first", laid_unicode_utf8_first)], narrowed := true }
def LiftLiftsUptoSaid : Prop := liftLiftsUptoRow.holds Tryz.pinned (OpenSpec.upto liftLiftsSpec)

/-- 'pantographlaw14.LiftRight', WHERE WHAT IT READS IS OF BULK AT MOST 1048576: true; the input reads as it did. -/
def liftRightUptoRow : OpenClaim := { program := "ytlflapoljegmoaagreatdoor", sum := "62348fccc5c22c9cb943db2c36d420873cfe0eba2a6c587160050c26f2e17ac7", func := "pantograph/pantographlaw14.LiftRight", spec := "liftRight", inPlace := ["internal/abi.NoEscape", "internal/bytealg.MakeNoZero", "internal/bytealg.CountString", "internal/bytealg.IndexByteString", "internal/bytealg.IndexString"], unfollowed := true, recurses := true, named := ["unicode/utf8.first", "unicode/utf8.acceptRanges", "internal/bytealg.MaxLen"], loops := true, plainKeys := false, apart := false, laid := [("unicode/utf8.acceptRanges", laid_unicode_utf8_acceptRanges), ("unicode/utf8.first", laid_unicode_utf8_first)], narrowed := true }
def LiftRightUptoSaid : Prop := liftRightUptoRow.holds Tryz.pinned (OpenSpec.upto liftRightSpec)

/-- 'pantographlaw14.LiftFlat', WHERE WHAT IT READS IS OF BULK AT MOST 1048576: true; the input reads as it did. -/
def liftFlatUptoRow : OpenClaim := { program := "ytlflapoljegmoaagreatdoor", sum := "62348fccc5c22c9cb943db2c36d420873cfe0eba2a6c587160050c26f2e17ac7", func := "pantograph/pantographlaw14.LiftFlat", spec := "liftFlat", inPlace := ["internal/abi.NoEscape", "internal/bytealg.MakeNoZero", "internal/bytealg.CountString", "internal/bytealg.IndexByteString", "internal/bytealg.IndexString"], unfollowed := true, recurses := true, named := ["unicode/utf8.first", "unicode/utf8.acceptRanges", "internal/bytealg.MaxLen"], loops := true, plainKeys := false, apart := false, laid := [("unicode/utf8.acceptRanges", laid_unicode_utf8_acceptRanges), ("unicode/utf8.first", laid_unicode_utf8_first)], narrowed := true }
def LiftFlatUptoSaid : Prop := liftFlatUptoRow.holds Tryz.pinned (OpenSpec.upto liftFlatSpec)

/-- 'pantographlaw14.LiftNames', WHERE WHAT IT READS IS OF BULK AT MOST 1048576: true; the input reads as it did. -/
def liftNamesUptoRow : OpenClaim := { program := "ytlflapoljegmoaagreatdoor", sum := "62348fccc5c22c9cb943db2c36d420873cfe0eba2a6c587160050c26f2e17ac7", func := "pantograph/pantographlaw14.LiftNames", spec := "liftNames", inPlace := ["internal/abi.NoEscape", "internal/bytealg.MakeNoZero", "internal/bytealg.CountString", "internal/bytealg.IndexByteString", "internal/bytealg.IndexString"], unfollowed := true, recurses := true, named := ["unicode/utf8.first", "unicode/utf8.acceptRanges", "internal/bytealg.MaxLen"], loops := true, plainKeys := false, apart := false, laid := [("unicode/utf8.acceptRanges", laid_unicode_utf8_acceptRanges), ("unicode/utf8.first", laid_unicode_utf8_first)], narrowed := true }
def LiftNamesUptoSaid : Prop := liftNamesUptoRow.holds Tryz.pinned (OpenSpec.upto liftNamesSpec)

/-- 'pantographlaw14.LiftCallees', WHERE WHAT IT READS IS OF BULK AT MOST 1048576: true; the input reads as it did. -/
def liftCalleesUptoRow : OpenClaim := { program := "ytlflapoljegmoaagreatdoor", sum := "62348fccc5c22c9cb943db2c36d420873cfe0eba2a6c587160050c26f2e17ac7", func := "pantograph/pantographlaw14.LiftCallees", spec := "liftCallees", inPlace := ["internal/abi.NoEscape", "internal/bytealg.MakeNoZero", "internal/bytealg.CountString", "internal/bytealg.IndexByteString", "internal/bytealg.IndexString"], unfollowed := true, recurses := true, named := ["unicode/utf8.first", "unicode/utf8.acceptRanges", "internal/bytealg.MaxLen"], loops := true, plainKeys := false, apart := false, laid := [("unicode/utf8.acceptRanges", laid_unicode_utf8_acceptRanges), ("unicode/utf8.first", laid_unicode_utf8_first)], narrowed := true }
def LiftCalleesUptoSaid : Prop := liftCalleesUptoRow.holds Tryz.pinned (OpenSpec.upto liftCalleesSpec)

end Rows
end Go.Proofs.YtlflapoljegmoaaGreatDoor
