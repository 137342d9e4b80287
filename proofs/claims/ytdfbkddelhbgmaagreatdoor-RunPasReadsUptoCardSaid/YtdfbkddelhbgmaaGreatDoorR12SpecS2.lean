import Derived.Test.YtdfbkddelhbgmaaGreatDoorCheckSpecJS2
namespace Pg
open Go
set_option linter.all false
structure Th where
 name : ByteArray
 kind : Int
 rcd : Rec
 r : Routine
 t : Typ
def noRec : Rec := ⟨[], [], noBytes, [], []⟩
def noRoutine : Routine := ⟨[], [], noBytes, 0, [], [], [], [], []⟩
def noTh : Th := ⟨noBytes, 0, noRec, noRoutine, noTyp⟩
def thVar (name : ByteArray) (t : Typ) : Th := ⟨name, 3, noRec, noRoutine, t⟩
def rFind (env : List Th) (name : ByteArray) : Th := (env.find? fun x => decide (x.name = name)).getD noTh
def rNew (env : List Th) (s : CS) (name : ByteArray) : CS := if (rFind env name).kind ≠ 0 then s.fail 12 else s
end Pg
