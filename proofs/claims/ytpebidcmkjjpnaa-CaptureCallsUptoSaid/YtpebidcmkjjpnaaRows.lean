/-
  NARROWER THAN 'FOR EVERY INPUT', by the rows' own cells (each row's printed sentence says how): CheckNames: loops · CheckAlone: loops · CheckEnds: loops · CheckMore: loops · CaptureOuter: loops · CaptureCalls: loops · CaptureFlat: loops · CapturePaths: loops.
  DERIVED. THE GIVEN ROWS OF THIS SEAT. 8 by the template 'for every input the law returns true; each argument reads behind the call as it read before'; 0 by the template 'total and deterministic' (their statements: YtpebidcmkjjpnaaTotals.lean).
  GIVEN WITH THE SEED: the statements are not yours to turn. If you find one false, say at which input.
  Laid BY PROGRAM, IN A SANDBOX (cutbox-rows.mjs): the forced cells as the released guide's own fill.sh prints them over the translation 7a59271b95649510… (all of the seat's roots in one cut). By AI agents, Wed Nov 11 2026. No macro, syntax, notation, axiom, sorry.
-/
import Derived.Test.YtpebidcmkjjpnaaChecked
import GoSem.Claim
import GoSem.ClaimJoined
import GoSem.ClaimMapViews
import Derived.JoinedTies
import Derived.KernelRfl
namespace Go.Proofs.Ytpebidcmkjjpnaa
/- THE CELL 'sum', in the pinned program and in every row, IS THE sha256 OF THE DUMP (.gsa) THAT YtpebidcmkjjpnaaProg.lean LOADS. Nothing in Lean hashes anything: it is a label: what it is worth is what the hold of that sum in a sandbox is worth. -/
noncomputable def Try.pinned : Pinned := { name := "ytpebidcmkjjpnaa", sum := "7a59271b95649510eb17a2cd25647e3601ae703b92c74a4a0c9a3edbc452903c", checked := Try.checked }
namespace Rows
def none {H : Type} : Left H := { results := [], args := [] }

/-- 'pantographlaw12.CheckNames': WHATEVER THE INPUT: true; the input reads as it did. -/
def checkNamesSpec : ChangeSpec := { name := "checkNames", fn := fun _ => fun
  | [d] => { results := [.lit (.bool true)], args := [d] }
  | _ => none }
def checkNamesRow : OpenClaim := { program := "ytpebidcmkjjpnaa", sum := "7a59271b95649510eb17a2cd25647e3601ae703b92c74a4a0c9a3edbc452903c", func := "pantograph/pantographlaw12.CheckNames", spec := "checkNames", unfollowed := true, recurses := true, loops := true, plainKeys := false, apart := false }
def CheckNamesSaid : Prop := checkNamesRow.holds Try.pinned (OpenSpec.ofChange checkNamesSpec)

/-- ITS FALSE NEIGHBOUR: 'it returns false'. Refute it at one input. -/
def checkNamesWrong : ChangeSpec := { name := "checkNames", fn := fun _ => fun
  | [d] => { results := [.lit (.bool false)], args := [d] }
  | _ => none }
def CheckNamesWrongFalsely : Prop := checkNamesRow.holds Try.pinned (OpenSpec.ofChange checkNamesWrong)

/-- 'pantographlaw12.CheckAlone': WHATEVER THE INPUT: true; the input reads as it did. -/
def checkAloneSpec : ChangeSpec := { name := "checkAlone", fn := fun _ => fun
  | [d] => { results := [.lit (.bool true)], args := [d] }
  | _ => none }
def checkAloneRow : OpenClaim := { program := "ytpebidcmkjjpnaa", sum := "7a59271b95649510eb17a2cd25647e3601ae703b92c74a4a0c9a3edbc452903c", func := "pantograph/pantographlaw12.CheckAlone", spec := "checkAlone", unfollowed := true, recurses := true, loops := true, plainKeys := false, apart := false }
def CheckAloneSaid : Prop := checkAloneRow.holds Try.pinned (OpenSpec.ofChange checkAloneSpec)

/-- ITS FALSE NEIGHBOUR: 'it returns false'. Refute it at one input. -/
def checkAloneWrong : ChangeSpec := { name := "checkAlone", fn := fun _ => fun
  | [d] => { results := [.lit (.bool false)], args := [d] }
  | _ => none }
def CheckAloneWrongFalsely : Prop := checkAloneRow.holds Try.pinned (OpenSpec.ofChange checkAloneWrong)

/-- 'pantographlaw12.CheckEnds': WHATEVER THE INPUT: true; the input reads as it did. -/
def checkEndsSpec : ChangeSpec := { name := "checkEnds", fn := fun _ => fun
  | [d1, d2] => { results := [.lit (.bool true)], args := [d1, d2] }
  | _ => none }
def checkEndsRow : OpenClaim := { program := "ytpebidcmkjjpnaa", sum := "7a59271b95649510eb17a2cd25647e3601ae703b92c74a4a0c9a3edbc452903c", func := "pantograph/pantographlaw12.CheckEnds", spec := "checkEnds", unfollowed := true, recurses := true, loops := true, plainKeys := false, apart := false }
def CheckEndsSaid : Prop := checkEndsRow.holds Try.pinned (OpenSpec.ofChange checkEndsSpec)

/-- ITS FALSE NEIGHBOUR: 'it returns false'. Refute it at one input. -/
def checkEndsWrong : ChangeSpec := { name := "checkEnds", fn := fun _ => fun
  | [d1, d2] => { results := [.lit (.bool false)], args := [d1, d2] }
  | _ => none }
def CheckEndsWrongFalsely : Prop := checkEndsRow.holds Try.pinned (OpenSpec.ofChange checkEndsWrong)

/-- 'pantographlaw12.CheckMore': WHATEVER THE INPUT: true; the input reads as it did. -/
def checkMoreSpec : ChangeSpec := { name := "checkMore", fn := fun _ => fun
  | [d] => { results := [.lit (.bool true)], args := [d] }
  | _ => none }
def checkMoreRow : OpenClaim := { program := "ytpebidcmkjjpnaa", sum := "7a59271b95649510eb17a2cd25647e3601ae703b92c74a4a0c9a3edbc452903c", func := "pantograph/pantographlaw12.CheckMore", spec := "checkMore", unfollowed := true, recurses := true, loops := true, plainKeys := false, apart := false }
def CheckMoreSaid : Prop := checkMoreRow.holds Try.pinned (OpenSpec.ofChange checkMoreSpec)

/-- ITS FALSE NEIGHBOUR: 'it returns false'. Refute it at one input. -/
def checkMoreWrong : ChangeSpec := { name := "checkMore", fn := fun _ => fun
  | [d] => { results := [.lit (.bool false)], args := [d] }
  | _ => none }
def CheckMoreWrongFalsely : Prop := checkMoreRow.holds Try.pinned (OpenSpec.ofChange checkMoreWrong)

/-- 'pantographlaw13.CaptureOuter': WHATEVER THE INPUT: true; the input reads as it did. -/
def captureOuterSpec : ChangeSpec := { name := "captureOuter", fn := fun _ => fun
  | [d] => { results := [.lit (.bool true)], args := [d] }
  | _ => none }
def captureOuterRow : OpenClaim := { program := "ytpebidcmkjjpnaa", sum := "7a59271b95649510eb17a2cd25647e3601ae703b92c74a4a0c9a3edbc452903c", func := "pantograph/pantographlaw13.CaptureOuter", spec := "captureOuter", inPlace := ["internal/abi.NoEscape", "internal/bytealg.MakeNoZero"], unfollowed := true, recurses := true, loops := true, plainKeys := false, apart := false }
def CaptureOuterSaid : Prop := captureOuterRow.holds Try.pinned (OpenSpec.ofChange captureOuterSpec)

/-- ITS FALSE NEIGHBOUR: 'it returns false'. Refute it at one input. -/
def captureOuterWrong : ChangeSpec := { name := "captureOuter", fn := fun _ => fun
  | [d] => { results := [.lit (.bool false)], args := [d] }
  | _ => none }
def CaptureOuterWrongFalsely : Prop := captureOuterRow.holds Try.pinned (OpenSpec.ofChange captureOuterWrong)

/-- 'pantographlaw13.CaptureCalls': WHATEVER THE INPUT: true; the input reads as it did. -/
def captureCallsSpec : ChangeSpec := { name := "captureCalls", fn := fun _ => fun
  | [d] => { results := [.lit (.bool true)], args := [d] }
  | _ => none }
def captureCallsRow : OpenClaim := { program := "ytpebidcmkjjpnaa", sum := "7a59271b95649510eb17a2cd25647e3601ae703b92c74a4a0c9a3edbc452903c", func := "pantograph/pantographlaw13.CaptureCalls", spec := "captureCalls", inPlace := ["internal/abi.NoEscape", "internal/bytealg.MakeNoZero"], unfollowed := true, recurses := true, loops := true, plainKeys := false, apart := false }
def CaptureCallsSaid : Prop := captureCallsRow.holds Try.pinned (OpenSpec.ofChange captureCallsSpec)

/-- ITS FALSE NEIGHBOUR: 'it returns false'. Refute it at one input. -/
def captureCallsWrong : ChangeSpec := { name := "captureCalls", fn := fun _ => fun
  | [d] => { results := [.lit (.bool false)], args := [d] }
  | _ => none }
def CaptureCallsWrongFalsely : Prop := captureCallsRow.holds Try.pinned (OpenSpec.ofChange captureCallsWrong)

/-- 'pantographlaw13.CaptureFlat': WHATEVER THE INPUT: true; the input reads as it did. -/
def captureFlatSpec : ChangeSpec := { name := "captureFlat", fn := fun _ => fun
  | [d] => { results := [.lit (.bool true)], args := [d] }
  | _ => none }
def captureFlatRow : OpenClaim := { program := "ytpebidcmkjjpnaa", sum := "7a59271b95649510eb17a2cd25647e3601ae703b92c74a4a0c9a3edbc452903c", func := "pantograph/pantographlaw13.CaptureFlat", spec := "captureFlat", inPlace := ["internal/abi.NoEscape", "internal/bytealg.MakeNoZero"], unfollowed := true, recurses := true, loops := true, plainKeys := false, apart := false }
def CaptureFlatSaid : Prop := captureFlatRow.holds Try.pinned (OpenSpec.ofChange captureFlatSpec)

/-- ITS FALSE NEIGHBOUR: 'it returns false'. Refute it at one input. -/
def captureFlatWrong : ChangeSpec := { name := "captureFlat", fn := fun _ => fun
  | [d] => { results := [.lit (.bool false)], args := [d] }
  | _ => none }
def CaptureFlatWrongFalsely : Prop := captureFlatRow.holds Try.pinned (OpenSpec.ofChange captureFlatWrong)

/-- 'pantographlaw13.CapturePaths': WHATEVER THE INPUT: true; the input reads as it did. -/
def capturePathsSpec : ChangeSpec := { name := "capturePaths", fn := fun _ => fun
  | [d] => { results := [.lit (.bool true)], args := [d] }
  | _ => none }
def capturePathsRow : OpenClaim := { program := "ytpebidcmkjjpnaa", sum := "7a59271b95649510eb17a2cd25647e3601ae703b92c74a4a0c9a3edbc452903c", func := "pantograph/pantographlaw13.CapturePaths", spec := "capturePaths", inPlace := ["internal/abi.NoEscape", "internal/bytealg.MakeNoZero"], unfollowed := true, recurses := true, loops := true, plainKeys := false, apart := false }
def CapturePathsSaid : Prop := capturePathsRow.holds Try.pinned (OpenSpec.ofChange capturePathsSpec)

/-- ITS FALSE NEIGHBOUR: 'it returns false'. Refute it at one input. -/
def capturePathsWrong : ChangeSpec := { name := "capturePaths", fn := fun _ => fun
  | [d] => { results := [.lit (.bool false)], args := [d] }
  | _ => none }
def CapturePathsWrongFalsely : Prop := capturePathsRow.holds Try.pinned (OpenSpec.ofChange capturePathsWrong)

/- THE SECOND FORM. 'bulk': how many values and letters a reading holds, each counted each time it is reached (what is shared counts as often as it is met; a slice's spare places count too). A statement '..UptoSaid' is the law's where the arguments, and the package variables that the reading takes, are together of bulk at most 1048576: NARROWER than '..Said'. Prove '..Said' where nothing that the law and all that it calls make is longer than what came in: it says more and counts as full. Else prove '..UptoSaid'. A law counts once. -/
mutual
def uptoBulk {H : Type} : DataW H → Nat
  | .lit (.string bytes) => bytes.length + 1
  | .lit _ => 1
  | .nil => 1
  | .ptr d => uptoBulk d + 1
  | .slice elems spare => uptoBulkAll elems + uptoBulkAll spare + 1
  | .agg parts => uptoBulkAll parts + 1
  | .iface _ d => uptoBulk d + 1
  | .map entries => uptoBulkEntries entries + 1
  | .held _ => 1
def uptoBulkAll {H : Type} : List (DataW H) → Nat
  | [] => 0
  | d :: r => uptoBulk d + uptoBulkAll r
def uptoBulkEntries {H : Type} : List (Lit × DataW H) → Nat
  | [] => 0
  | x :: r => uptoBulkEntry x + uptoBulkEntries r
def uptoBulkEntry {H : Type} : Lit × DataW H → Nat
  | (.string bytes, d) => bytes.length + uptoBulk d + 1
  | (_, d) => uptoBulk d + 1
 end
def uptoSmall : (H : Type) → List (DataW H) → Bool := fun _ ds => decide (uptoBulkAll ds ≤ 1048576)
def OpenSpec.upto (s : _root_.Go.ChangeSpec) : _root_.Go.OpenSpec := { _root_.Go.OpenSpec.ofChange s with cond := some uptoSmall }

/-- 'pantographlaw12.CheckNames', WHERE WHAT IT READS IS OF BULK AT MOST 1048576: true; the input reads as it did. -/
def checkNamesUptoRow : OpenClaim := { program := "ytpebidcmkjjpnaa", sum := "7a59271b95649510eb17a2cd25647e3601ae703b92c74a4a0c9a3edbc452903c", func := "pantograph/pantographlaw12.CheckNames", spec := "checkNames", unfollowed := true, recurses := true, loops := true, plainKeys := false, apart := false, narrowed := true }
def CheckNamesUptoSaid : Prop := checkNamesUptoRow.holds Try.pinned (OpenSpec.upto checkNamesSpec)

/-- 'pantographlaw12.CheckAlone', WHERE WHAT IT READS IS OF BULK AT MOST 1048576: true; the input reads as it did. -/
def checkAloneUptoRow : OpenClaim := { program := "ytpebidcmkjjpnaa", sum := "7a59271b95649510eb17a2cd25647e3601ae703b92c74a4a0c9a3edbc452903c", func := "pantograph/pantographlaw12.CheckAlone", spec := "checkAlone", unfollowed := true, recurses := true, loops := true, plainKeys := false, apart := false, narrowed := true }
def CheckAloneUptoSaid : Prop := checkAloneUptoRow.holds Try.pinned (OpenSpec.upto checkAloneSpec)

/-- 'pantographlaw12.CheckEnds', WHERE WHAT IT READS IS OF BULK AT MOST 1048576: true; the input reads as it did. -/
def checkEndsUptoRow : OpenClaim := { program := "ytpebidcmkjjpnaa", sum := "7a59271b95649510eb17a2cd25647e3601ae703b92c74a4a0c9a3edbc452903c", func := "pantograph/pantographlaw12.CheckEnds", spec := "checkEnds", unfollowed := true, recurses := true, loops := true, plainKeys := false, apart := false, narrowed := true }
def CheckEndsUptoSaid : Prop := checkEndsUptoRow.holds Try.pinned (OpenSpec.upto checkEndsSpec)

/-- 'pantographlaw12.CheckMore', WHERE WHAT IT READS IS OF BULK AT MOST 1048576: true; the input reads as it did. -/
def checkMoreUptoRow : OpenClaim := { program := "ytpebidcmkjjpnaa", sum := "7a59271b95649510eb17a2cd25647e3601ae703b92c74a4a0c9a3edbc452903c", func := "pantograph/pantographlaw12.CheckMore", spec := "checkMore", unfollowed := true, recurses := true, loops := true, plainKeys := false, apart := false, narrowed := true }
def CheckMoreUptoSaid : Prop := checkMoreUptoRow.holds Try.pinned (OpenSpec.upto checkMoreSpec)

/-- 'pantographlaw13.CaptureOuter', WHERE WHAT IT READS IS OF BULK AT MOST 1048576: true; the input reads as it did. -/
def captureOuterUptoRow : OpenClaim := { program := "ytpebidcmkjjpnaa", sum := "7a59271b95649510eb17a2cd25647e3601ae703b92c74a4a0c9a3edbc452903c", func := "pantograph/pantographlaw13.CaptureOuter", spec := "captureOuter", inPlace := ["internal/abi.NoEscape", "internal/bytealg.MakeNoZero"], unfollowed := true, recurses := true, loops := true, plainKeys := false, apart := false, narrowed := true }
def CaptureOuterUptoSaid : Prop := captureOuterUptoRow.holds Try.pinned (OpenSpec.upto captureOuterSpec)

/-- 'pantographlaw13.CaptureCalls', WHERE WHAT IT READS IS OF BULK AT MOST 1048576: true; the input reads as it did. -/
def captureCallsUptoRow : OpenClaim := { program := "ytpebidcmkjjpnaa", sum := "7a59271b95649510eb17a2cd25647e3601ae703b92c74a4a0c9a3edbc452903c", func := "pantograph/pantographlaw13.CaptureCalls", spec := "captureCalls", inPlace := ["internal/abi.NoEscape", "internal/bytealg.MakeNoZero"], unfollowed := true, recurses := true, loops := true, plainKeys := false, apart := false, narrowed := true }
def CaptureCallsUptoSaid : Prop := captureCallsUptoRow.holds Try.pinned (OpenSpec.upto captureCallsSpec)

/-- 'pantographlaw13.CaptureFlat', WHERE WHAT IT READS IS OF BULK AT MOST 1048576: true; the input reads as it did. -/
def captureFlatUptoRow : OpenClaim := { program := "ytpebidcmkjjpnaa", sum := "7a59271b95649510eb17a2cd25647e3601ae703b92c74a4a0c9a3edbc452903c", func := "pantograph/pantographlaw13.CaptureFlat", spec := "captureFlat", inPlace := ["internal/abi.NoEscape", "internal/bytealg.MakeNoZero"], unfollowed := true, recurses := true, loops := true, plainKeys := false, apart := false, narrowed := true }
def CaptureFlatUptoSaid : Prop := captureFlatUptoRow.holds Try.pinned (OpenSpec.upto captureFlatSpec)

/-- 'pantographlaw13.CapturePaths', WHERE WHAT IT READS IS OF BULK AT MOST 1048576: true; the input reads as it did. -/
def capturePathsUptoRow : OpenClaim := { program := "ytpebidcmkjjpnaa", sum := "7a59271b95649510eb17a2cd25647e3601ae703b92c74a4a0c9a3edbc452903c", func := "pantograph/pantographlaw13.CapturePaths", spec := "capturePaths", inPlace := ["internal/abi.NoEscape", "internal/bytealg.MakeNoZero"], unfollowed := true, recurses := true, loops := true, plainKeys := false, apart := false, narrowed := true }
def CapturePathsUptoSaid : Prop := capturePathsUptoRow.holds Try.pinned (OpenSpec.upto capturePathsSpec)

end Rows
end Go.Proofs.Ytpebidcmkjjpnaa
