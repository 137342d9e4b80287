import Derived.Test.YtdfbkddelhbgmaaGreatDoorK2S3
set_option linter.all false
namespace Pg
open Go
structure ROper where
 dst : Option Nat
 op : ROp
 guard : Option (Nat × Bool)
 deriving Inhabited
def lI (P : Program) (N : Nat) (B : List Nat) (ops : Array Oper) (o : Oper) : Option ROper :=
 if (o.dst.all (· < N)) = true then
  match tJ P B o, o.guard with
  | some r, none => some ⟨o.dst, r, none⟩
  | some r, some (j, want) => match (ops[j]?).bind (·.dst) with
   | some s => some ⟨o.dst, r, some (s, want)⟩
   | none => none
  | none, _ => none
 else none
def xB (P : Program) (N : Nat) (B : List Nat) (ops : Array Oper) : List Nat → Option (List ROper)
 | [] => some []
 | i :: r => match ops[i]? with
  | some o => match lI P N B ops o, xB P N B ops r with | some x, some l => some (x :: l) | _, _ => none
  | none => none
def OX (x : AV) (want : Bool) (A B : Unit → Prop) : Prop := match x with | .bool b => if b = want then A () else B () | _ => False
def uW (x : AV) (want : Bool) (A B : Unit → Prop) : Prop := match x with | .bool b => if b = want then A () else B () | .tuple [] => B () | _ => False
theorem xE (I : Imm) : Rd I (.tuple []) undef := Rd.iU (Rds.nil I)
def dJ (o : Option AV) (K : AV → Prop) : Prop := match o with | some v => K v | none => False
theorem UM (v : AV) (K : AV → Prop) : dJ (some v) K = K v := rfl
def aop [GI] (P : Program) (K : AV → AHeap → Prop) (e : Env) (h : AHeap) : ROp → Prop
 | .rd r => dJ (bS (ev e) h r) fun av => K av h
 | .ef r => eY P (ev e) h K r
def iN [GI] (P : Program) : List ROper → (Env → AHeap → Prop) → Env → AHeap → Prop
 | [], K, e, h => K e h
 | ⟨dst, op, none⟩ :: r, K, e, h => aop P (fun av g => iN P r K (e.put dst av) g) e h op
 | ⟨dst, op, some (s, want)⟩ :: r, K, e, h => uW (e.get s) want (fun _ => aop P (fun av g => iN P r K (e.put dst av) g) e h op) (fun _ => iN P r K (e.put dst (.tuple [])) h)
theorem put_defers (a : Act) (d : Option Tmp) (v : Value) : (a.put d v).defers = a.defers := by cases d <;> rfl
end Pg
