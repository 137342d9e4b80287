import Derived.Test.YtpebidcmkjjpnaaK4
import Derived.Test.YtpebidcmkjjpnaaProg
import Derived.KernelRfl
namespace Pg
open Go
set_option maxRecDepth 10000
/-- pantograph/pantographref04.Check -/
def F64.r0 : List ROper :=
 ⟨some 2,.rd (.mv (.c (.int .i64 0))),none⟩::
  []
def F64.r1 : List ROper :=
 ⟨some 4,.rd (.mv (.t 0)),none⟩::
 ⟨some 5,.rd (.bin .eql (.t 4) (.c (.str (⟨#[]⟩ : ByteArray)))),none⟩::
  []
def F64.r2 : List ROper :=
 ⟨some 2,.rd (.mv (.c (.int .i64 11))),none⟩::
  []
def F64.c4 : RCode := .seq (.reg F64.r2) .ret
def F64.c3 : RCode := .cond (.t 5) F64.c4 .skip
def F64.c2 : RCode := .seq (.reg F64.r1) F64.c3
def F64.r3 : List ROper :=
 ⟨some 3,.rd (.mv (.c (.int .i64 0))),none⟩::
  []
def F64.r4 : List ROper :=
 ⟨some 6,.rd (.mv (.t 3)),none⟩::
 ⟨some 7,.rd (.mv (.t 0)),none⟩::
 ⟨some 8,.rd (.len 0 (.t 7)),none⟩::
 ⟨some 9,.rd (.bin .lss (.t 6) (.t 8)),none⟩::
  []
def F64.c11 : RCode := .cond (.t 9) .skip (.exit 0)
def F64.c10 : RCode := .seq (.reg F64.r4) F64.c11
def F64.r5 : List ROper :=
 ⟨some 12,.rd (.mv (.t 0)),none⟩::
 ⟨some 13,.rd (.mv (.t 3)),none⟩::
 ⟨some 14,.rd (.six (.t 12) (.t 13)),none⟩::
 ⟨some 15,.rd (.mv (.t 3)),none⟩::
 ⟨some 16,.rd (.bin .eql (.t 15) (.c (.int .i64 0))),none⟩::
 ⟨some 17,.ef (.call 84 [(.t 14),(.t 16)]),none⟩::
 ⟨some 18,.rd (.un .not (.t 17)),none⟩::
  []
def F64.r6 : List ROper :=
 ⟨some 2,.rd (.mv (.c (.int .i64 11))),none⟩::
  []
def F64.c16 : RCode := .seq (.reg F64.r6) .ret
def F64.c15 : RCode := .cond (.t 18) F64.c16 .skip
def F64.c14 : RCode := .seq (.reg F64.r5) F64.c15
def F64.c13 : RCode := .block 1 F64.c14
def F64.r7 : List ROper :=
 ⟨some 10,.rd (.mv (.t 3)),none⟩::
 ⟨some 11,.rd (.bin .add (.t 10) (.c (.int .i64 1))),none⟩::
 ⟨some 3,.rd (.mv (.t 11)),none⟩::
  []
def F64.c12 : RCode := .seq F64.c13 (.reg F64.r7)
def F64.c9 : RCode := .seq F64.c10 F64.c12
def F64.c8 : RCode := .loop F64.c9
def F64.c7 : RCode := .block 0 F64.c8
def F64.c6 : RCode := .seq (.reg F64.r3) F64.c7
def F64.r8 : List ROper :=
 ⟨some 19,.rd (.mv (.t 0)),none⟩::
 ⟨some 20,.rd (.len 0 (.t 19)),none⟩::
 ⟨some 21,.rd (.bin .gtr (.t 20) (.c (.int .i64 32))),none⟩::
  []
def F64.r9 : List ROper :=
 ⟨some 2,.rd (.mv (.c (.int .i64 3))),none⟩::
  []
def F64.c20 : RCode := .seq (.reg F64.r9) .ret
def F64.c19 : RCode := .cond (.t 21) F64.c20 .skip
def F64.c18 : RCode := .seq (.reg F64.r8) F64.c19
def F64.r10 : List ROper :=
 ⟨some 2,.rd (.mv (.c (.int .i64 0))),none⟩::
  []
def F64.c21 : RCode := .seq (.reg F64.r10) .ret
def F64.c17 : RCode := .seq F64.c18 F64.c21
def F64.c5 : RCode := .seq F64.c6 F64.c17
def F64.c1 : RCode := .seq F64.c2 F64.c5
def F64.c0 : RCode := .seq (.reg F64.r0) F64.c1
theorem F64.calls {args : List AV} {h : AHeap} {K : AV → AHeap → Prop} (hn : args.length ≤ 22) (k : wT .go Go.Proofs.Try.prog 22 F64.c0 (fun x e h t => atEndT t [.tmp 2] (EndW K) x e h) (envOf 0 args) h) : ACalls Go.Proofs.Try.prog 64 args h K :=
  acallsT [] [] 22 Go.Proofs.Try.func64 Go.Proofs.Try.ntmps64 (by kernel_rfl) (by kernel_rfl) hn k
/-- pantograph/pantographref04.Letter -/
def F84.r0 : List ROper :=
 ⟨some 4,.rd (.mv (.c (.bool false))),none⟩::
  []
def F84.r1 : List ROper :=
 ⟨some 5,.rd (.mv (.t 0)),none⟩::
 ⟨some 6,.rd (.bin .geq (.t 5) (.c (.int .u8 97))),none⟩::
 ⟨some 7,.rd (.mv (.t 6)),none⟩::
 ⟨some 8,.rd (.mv (.t 0)),some (7,true)⟩::
 ⟨some 9,.rd (.bin .leq (.t 8) (.c (.int .u8 122))),some (7,true)⟩::
 ⟨some 10,.rd (.pick (.t 7) (.t 9) (.c (.bool false))),none⟩::
  []
def F84.r2 : List ROper :=
 ⟨some 4,.rd (.mv (.c (.bool true))),none⟩::
  []
def F84.c4 : RCode := .seq (.reg F84.r2) .ret
def F84.c3 : RCode := .cond (.t 10) F84.c4 .skip
def F84.c2 : RCode := .seq (.reg F84.r1) F84.c3
def F84.r3 : List ROper :=
 ⟨some 11,.rd (.mv (.t 1)),none⟩::
 ⟨some 12,.rd (.un .not (.t 11)),none⟩::
 ⟨some 13,.rd (.mv (.t 12)),none⟩::
 ⟨some 14,.rd (.mv (.t 0)),some (13,true)⟩::
 ⟨some 15,.rd (.bin .eql (.t 14) (.c (.int .u8 95))),some (13,true)⟩::
 ⟨some 16,.rd (.mv (.t 15)),some (13,true)⟩::
 ⟨some 17,.rd (.mv (.t 0)),some (16,false)⟩::
 ⟨some 18,.rd (.bin .geq (.t 17) (.c (.int .u8 48))),some (16,false)⟩::
 ⟨some 19,.rd (.mv (.t 18)),some (16,false)⟩::
 ⟨some 20,.rd (.mv (.t 0)),some (19,true)⟩::
 ⟨some 21,.rd (.bin .leq (.t 20) (.c (.int .u8 57))),some (19,true)⟩::
 ⟨some 22,.rd (.pick (.t 19) (.t 21) (.c (.bool false))),some (16,false)⟩::
 ⟨some 23,.rd (.pick (.t 16) (.c (.bool true)) (.t 22)),some (13,true)⟩::
 ⟨some 24,.rd (.pick (.t 13) (.t 23) (.c (.bool false))),none⟩::
 ⟨some 4,.rd (.mv (.t 24)),none⟩::
  []
def F84.c5 : RCode := .seq (.reg F84.r3) .ret
def F84.c1 : RCode := .seq F84.c2 F84.c5
def F84.c0 : RCode := .seq (.reg F84.r0) F84.c1
theorem F84.calls {args : List AV} {h : AHeap} {K : AV → AHeap → Prop} (hn : args.length ≤ 25) (k : wT .go Go.Proofs.Try.prog 25 F84.c0 (fun x e h t => atEndT t [.tmp 4] (EndW K) x e h) (envOf 0 args) h) : ACalls Go.Proofs.Try.prog 84 args h K :=
  acallsT [] [] 25 Go.Proofs.Try.func84 Go.Proofs.Try.ntmps84 (by kernel_rfl) (by kernel_rfl) hn k
/-- pantograph/pantographref04.Is -/
def F65.r0 : List ROper :=
 ⟨some 4,.rd (.mv (.c (.bool false))),none⟩::
  []
def F65.r1 : List ROper :=
 ⟨some 5,.rd (.mv (.t 0)),none⟩::
 ⟨some 6,.ef (.call 85 [(.t 5)]),none⟩::
 ⟨some 7,.rd (.mv (.t 1)),none⟩::
 ⟨some 8,.ef (.call 17 [(.t 6),(.t 7)]),none⟩::
 ⟨some 4,.rd (.mv (.t 8)),none⟩::
  []
def F65.c1 : RCode := .seq (.reg F65.r1) .ret
def F65.c0 : RCode := .seq (.reg F65.r0) F65.c1
theorem F65.calls {args : List AV} {h : AHeap} {K : AV → AHeap → Prop} (hn : args.length ≤ 9) (k : wT .go Go.Proofs.Try.prog 9 F65.c0 (fun x e h t => atEndT t [.tmp 4] (EndW K) x e h) (envOf 0 args) h) : ACalls Go.Proofs.Try.prog 65 args h K :=
  acallsT [] [] 9 Go.Proofs.Try.func65 Go.Proofs.Try.ntmps65 (by kernel_rfl) (by kernel_rfl) hn k
/-- pantograph/pantographref04.Among -/
def F17.r0 : List ROper :=
 ⟨some 4,.rd (.mv (.c (.bool false))),none⟩::
  []
def F17.r1 : List ROper :=
 ⟨some 5,.rd (.mv (.c (.int .i64 0))),none⟩::
  []
def F17.r2 : List ROper :=
 ⟨some 6,.rd (.mv (.t 5)),none⟩::
 ⟨some 7,.rd (.mv (.t 0)),none⟩::
 ⟨some 8,.rd (.len 1 (.t 7)),none⟩::
 ⟨some 9,.rd (.bin .lss (.t 6) (.t 8)),none⟩::
  []
def F17.c7 : RCode := .cond (.t 9) .skip (.exit 0)
def F17.c6 : RCode := .seq (.reg F17.r2) F17.c7
def F17.r3 : List ROper :=
 ⟨some 12,.rd (.mv (.t 0)),none⟩::
 ⟨some 13,.rd (.mv (.t 5)),none⟩::
 ⟨some 14,.rd (.ia 1 (.t 12) (.t 13)),none⟩::
 ⟨some 15,.rd (.load none (.t 14)),none⟩::
 ⟨some 16,.rd (.mv (.t 1)),none⟩::
 ⟨some 17,.rd (.bin .eql (.t 15) (.t 16)),none⟩::
  []
def F17.r4 : List ROper :=
 ⟨some 4,.rd (.mv (.c (.bool true))),none⟩::
  []
def F17.c12 : RCode := .seq (.reg F17.r4) .ret
def F17.c11 : RCode := .cond (.t 17) F17.c12 .skip
def F17.c10 : RCode := .seq (.reg F17.r3) F17.c11
def F17.c9 : RCode := .block 1 F17.c10
def F17.r5 : List ROper :=
 ⟨some 10,.rd (.mv (.t 5)),none⟩::
 ⟨some 11,.rd (.bin .add (.t 10) (.c (.int .i64 1))),none⟩::
 ⟨some 5,.rd (.mv (.t 11)),none⟩::
  []
def F17.c8 : RCode := .seq F17.c9 (.reg F17.r5)
def F17.c5 : RCode := .seq F17.c6 F17.c8
def F17.c4 : RCode := .loop F17.c5
def F17.c3 : RCode := .block 0 F17.c4
def F17.c2 : RCode := .seq (.reg F17.r1) F17.c3
def F17.r6 : List ROper :=
 ⟨some 4,.rd (.mv (.c (.bool false))),none⟩::
  []
def F17.c13 : RCode := .seq (.reg F17.r6) .ret
def F17.c1 : RCode := .seq F17.c2 F17.c13
def F17.c0 : RCode := .seq (.reg F17.r0) F17.c1
theorem F17.calls {args : List AV} {h : AHeap} {K : AV → AHeap → Prop} (hn : args.length ≤ 18) (k : wT .go Go.Proofs.Try.prog 18 F17.c0 (fun x e h t => atEndT t [.tmp 4] (EndW K) x e h) (envOf 0 args) h) : ACalls Go.Proofs.Try.prog 17 args h K :=
  acallsT [] [] 18 Go.Proofs.Try.func17 Go.Proofs.Try.ntmps17 (by kernel_rfl) (by kernel_rfl) hn k
/-- pantograph/pantographref04.All -/
def F85.r0 : List ROper :=
 ⟨some 2,.rd (.mv (.c (.sl [] true))),none⟩::
  []
def F85.r1 : List ROper :=
 ⟨some 3,.rd (.mv (.t 0)),none⟩::
  []
def F85.r2 : List ROper :=
 ⟨some 5,.rd (.bin .eql (.t 3) (.c (.int .i64 0))),none⟩::
 ⟨some 4,.rd (.mv (.t 5)),none⟩::
  []
def F85.r3 : List ROper :=
 ⟨some 6,.rd (.bsl 1 34 [(.str (⟨#[]⟩ : ByteArray)),(.str (⟨#[]⟩ : ByteArray)),(.str (⟨#[]⟩ : ByteArray)),(.str (⟨#[]⟩ : ByteArray)),(.str (⟨#[]⟩ : ByteArray)),(.str (⟨#[]⟩ : ByteArray)),(.str (⟨#[]⟩ : ByteArray)),(.str (⟨#[]⟩ : ByteArray)),(.str (⟨#[]⟩ : ByteArray)),(.str (⟨#[]⟩ : ByteArray)),(.str (⟨#[]⟩ : ByteArray)),(.str (⟨#[]⟩ : ByteArray)),(.str (⟨#[]⟩ : ByteArray)),(.str (⟨#[]⟩ : ByteArray)),(.str (⟨#[]⟩ : ByteArray)),(.str (⟨#[]⟩ : ByteArray)),(.str (⟨#[]⟩ : ByteArray)),(.str (⟨#[]⟩ : ByteArray)),(.str (⟨#[]⟩ : ByteArray)),(.str (⟨#[]⟩ : ByteArray)),(.str (⟨#[]⟩ : ByteArray)),(.str (⟨#[]⟩ : ByteArray)),(.str (⟨#[]⟩ : ByteArray)),(.str (⟨#[]⟩ : ByteArray)),(.str (⟨#[]⟩ : ByteArray)),(.str (⟨#[]⟩ : ByteArray)),(.str (⟨#[]⟩ : ByteArray)),(.str (⟨#[]⟩ : ByteArray)),(.str (⟨#[]⟩ : ByteArray)),(.str (⟨#[]⟩ : ByteArray)),(.str (⟨#[]⟩ : ByteArray)),(.str (⟨#[]⟩ : ByteArray)),(.str (⟨#[]⟩ : ByteArray)),(.str (⟨#[]⟩ : ByteArray))] [(0,1,(.c (.str (⟨#[97,110,100]⟩ : ByteArray)))),(1,1,(.c (.str (⟨#[97,114,114,97,121]⟩ : ByteArray)))),(2,1,(.c (.str (⟨#[98,101,103,105,110]⟩ : ByteArray)))),(3,1,(.c (.str (⟨#[98,111,111,108,101,97,110]⟩ : ByteArray)))),(4,1,(.c (.str (⟨#[99,104,97,114]⟩ : ByteArray)))),(5,1,(.c (.str (⟨#[100,105,118]⟩ : ByteArray)))),(6,1,(.c (.str (⟨#[100,111]⟩ : ByteArray)))),(7,1,(.c (.str (⟨#[100,111,119,110,116,111]⟩ : ByteArray)))),(8,1,(.c (.str (⟨#[101,108,115,101]⟩ : ByteArray)))),(9,1,(.c (.str (⟨#[101,110,100]⟩ : ByteArray)))),(10,1,(.c (.str (⟨#[102,97,108,115,101]⟩ : ByteArray)))),(11,1,(.c (.str (⟨#[102,111,114]⟩ : ByteArray)))),(12,1,(.c (.str (⟨#[102,111,114,119,97,114,100]⟩ : ByteArray)))),(13,1,(.c (.str (⟨#[102,117,110,99,116,105,111,110]⟩ : ByteArray)))),(14,1,(.c (.str (⟨#[105,102]⟩ : ByteArray)))),(15,1,(.c (.str (⟨#[105,110,116,101,103,101,114]⟩ : ByteArray)))),(16,1,(.c (.str (⟨#[109,111,100]⟩ : ByteArray)))),(17,1,(.c (.str (⟨#[110,111,116]⟩ : ByteArray)))),(18,1,(.c (.str (⟨#[111,102]⟩ : ByteArray)))),(19,1,(.c (.str (⟨#[111,114]⟩ : ByteArray)))),(20,1,(.c (.str (⟨#[112,114,111,99,101,100,117,114,101]⟩ : ByteArray)))),(21,1,(.c (.str (⟨#[112,114,111,103,114,97,109]⟩ : ByteArray)))),(22,1,(.c (.str (⟨#[114,101,97,100]⟩ : ByteArray)))),(23,1,(.c (.str (⟨#[114,101,99,111,114,100]⟩ : ByteArray)))),(24,1,(.c (.str (⟨#[114,101,112,101,97,116]⟩ : ByteArray)))),(25,1,(.c (.str (⟨#[114,101,116,117,114,110]⟩ : ByteArray)))),(26,1,(.c (.str (⟨#[116,104,101,110]⟩ : ByteArray)))),(27,1,(.c (.str (⟨#[116,111]⟩ : ByteArray)))),(28,1,(.c (.str (⟨#[116,114,117,101]⟩ : ByteArray)))),(29,1,(.c (.str (⟨#[116,121,112,101]⟩ : ByteArray)))),(30,1,(.c (.str (⟨#[117,110,116,105,108]⟩ : ByteArray)))),(31,1,(.c (.str (⟨#[118,97,114]⟩ : ByteArray)))),(32,1,(.c (.str (⟨#[119,104,105,108,101]⟩ : ByteArray)))),(33,1,(.c (.str (⟨#[119,114,105,116,101]⟩ : ByteArray))))]),none⟩::
 ⟨some 2,.rd (.mv (.t 6)),none⟩::
  []
def F85.c6 : RCode := .seq (.reg F85.r3) .ret
def F85.r4 : List ROper :=
 ⟨some 8,.rd (.bin .eql (.t 3) (.c (.int .i64 1))),none⟩::
 ⟨some 7,.rd (.mv (.t 8)),none⟩::
  []
def F85.r5 : List ROper :=
 ⟨some 9,.rd (.bsl 1 21 [(.str (⟨#[]⟩ : ByteArray)),(.str (⟨#[]⟩ : ByteArray)),(.str (⟨#[]⟩ : ByteArray)),(.str (⟨#[]⟩ : ByteArray)),(.str (⟨#[]⟩ : ByteArray)),(.str (⟨#[]⟩ : ByteArray)),(.str (⟨#[]⟩ : ByteArray)),(.str (⟨#[]⟩ : ByteArray)),(.str (⟨#[]⟩ : ByteArray)),(.str (⟨#[]⟩ : ByteArray)),(.str (⟨#[]⟩ : ByteArray)),(.str (⟨#[]⟩ : ByteArray)),(.str (⟨#[]⟩ : ByteArray)),(.str (⟨#[]⟩ : ByteArray)),(.str (⟨#[]⟩ : ByteArray)),(.str (⟨#[]⟩ : ByteArray)),(.str (⟨#[]⟩ : ByteArray)),(.str (⟨#[]⟩ : ByteArray)),(.str (⟨#[]⟩ : ByteArray)),(.str (⟨#[]⟩ : ByteArray)),(.str (⟨#[]⟩ : ByteArray))] [(0,1,(.c (.str (⟨#[98,111,111,108]⟩ : ByteArray)))),(1,1,(.c (.str (⟨#[99,104,97,114]⟩ : ByteArray)))),(2,1,(.c (.str (⟨#[100,111]⟩ : ByteArray)))),(3,1,(.c (.str (⟨#[100,111,119,110,116,111]⟩ : ByteArray)))),(4,1,(.c (.str (⟨#[101,108,115,101]⟩ : ByteArray)))),(5,1,(.c (.str (⟨#[102,97,108,115,101]⟩ : ByteArray)))),(6,1,(.c (.str (⟨#[102,111,114]⟩ : ByteArray)))),(7,1,(.c (.str (⟨#[103,101,116]⟩ : ByteArray)))),(8,1,(.c (.str (⟨#[105,102]⟩ : ByteArray)))),(9,1,(.c (.str (⟨#[105,110,116]⟩ : ByteArray)))),(10,1,(.c (.str (⟨#[109,97,105,110]⟩ : ByteArray)))),(11,1,(.c (.str (⟨#[112,114,111,103,114,97,109]⟩ : ByteArray)))),(12,1,(.c (.str (⟨#[112,117,116]⟩ : ByteArray)))),(13,1,(.c (.str (⟨#[114,101,116,117,114,110]⟩ : ByteArray)))),(14,1,(.c (.str (⟨#[115,116,114,117,99,116]⟩ : ByteArray)))),(15,1,(.c (.str (⟨#[116,111]⟩ : ByteArray)))),(16,1,(.c (.str (⟨#[116,114,117,101]⟩ : ByteArray)))),(17,1,(.c (.str (⟨#[117,110,116,105,108]⟩ : ByteArray)))),(18,1,(.c (.str (⟨#[117,112]⟩ : ByteArray)))),(19,1,(.c (.str (⟨#[118,111,105,100]⟩ : ByteArray)))),(20,1,(.c (.str (⟨#[119,104,105,108,101]⟩ : ByteArray))))]),none⟩::
 ⟨some 2,.rd (.mv (.t 9)),none⟩::
  []
def F85.c9 : RCode := .seq (.reg F85.r5) .ret
def F85.c8 : RCode := .cond (.t 7) F85.c9 .skip
def F85.c7 : RCode := .seq (.reg F85.r4) F85.c8
def F85.c5 : RCode := .cond (.t 4) F85.c6 F85.c7
def F85.c4 : RCode := .seq (.reg F85.r2) F85.c5
def F85.c3 : RCode := .block 0 F85.c4
def F85.c2 : RCode := .seq (.reg F85.r1) F85.c3
def F85.r6 : List ROper :=
 ⟨some 2,.rd (.mv (.c (.sl [] true))),none⟩::
  []
def F85.c10 : RCode := .seq (.reg F85.r6) .ret
def F85.c1 : RCode := .seq F85.c2 F85.c10
def F85.c0 : RCode := .seq (.reg F85.r0) F85.c1
theorem F85.calls {args : List AV} {h : AHeap} {K : AV → AHeap → Prop} (hn : args.length ≤ 10) (k : wT .go Go.Proofs.Try.prog 10 F85.c0 (fun x e h t => atEndT t [.tmp 2] (EndW K) x e h) (envOf 0 args) h) : ACalls Go.Proofs.Try.prog 85 args h K :=
  acallsT [] [] 10 Go.Proofs.Try.func85 Go.Proofs.Try.ntmps85 (by kernel_rfl) (by kernel_rfl) hn k
/-- pantograph/pantographref02.Check -/
def F66.r0 : List ROper :=
 ⟨some 2,.rd (.mv (.c (.int .i64 0))),none⟩::
  []
def F66.r1 : List ROper :=
 ⟨some 4,.rd (.mv (.t 0)),none⟩::
 ⟨some 5,.rd (.len 0 (.t 4)),none⟩::
 ⟨some 6,.rd (.bin .gtr (.t 5) (.c (.int .i64 1024))),none⟩::
  []
def F66.r2 : List ROper :=
 ⟨some 2,.rd (.mv (.c (.int .i64 3))),none⟩::
  []
def F66.c4 : RCode := .seq (.reg F66.r2) .ret
def F66.c3 : RCode := .cond (.t 6) F66.c4 .skip
def F66.c2 : RCode := .seq (.reg F66.r1) F66.c3
def F66.r3 : List ROper :=
 ⟨some 3,.rd (.mv (.c (.int .i64 0))),none⟩::
  []
def F66.r4 : List ROper :=
 ⟨some 7,.rd (.mv (.t 3)),none⟩::
 ⟨some 8,.rd (.mv (.t 0)),none⟩::
 ⟨some 9,.rd (.len 0 (.t 8)),none⟩::
 ⟨some 10,.rd (.bin .lss (.t 7) (.t 9)),none⟩::
  []
def F66.c11 : RCode := .cond (.t 10) .skip (.exit 0)
def F66.c10 : RCode := .seq (.reg F66.r4) F66.c11
def F66.r5 : List ROper :=
 ⟨some 13,.rd (.mv (.t 0)),none⟩::
 ⟨some 14,.rd (.mv (.t 3)),none⟩::
 ⟨some 15,.rd (.six (.t 13) (.t 14)),none⟩::
 ⟨some 16,.ef (.call 86 [(.t 15)]),none⟩::
 ⟨some 17,.rd (.un .not (.t 16)),none⟩::
  []
def F66.r6 : List ROper :=
 ⟨some 2,.rd (.mv (.c (.int .i64 8))),none⟩::
  []
def F66.c16 : RCode := .seq (.reg F66.r6) .ret
def F66.c15 : RCode := .cond (.t 17) F66.c16 .skip
def F66.c14 : RCode := .seq (.reg F66.r5) F66.c15
def F66.c13 : RCode := .block 1 F66.c14
def F66.r7 : List ROper :=
 ⟨some 11,.rd (.mv (.t 3)),none⟩::
 ⟨some 12,.rd (.bin .add (.t 11) (.c (.int .i64 1))),none⟩::
 ⟨some 3,.rd (.mv (.t 12)),none⟩::
  []
def F66.c12 : RCode := .seq F66.c13 (.reg F66.r7)
def F66.c9 : RCode := .seq F66.c10 F66.c12
def F66.c8 : RCode := .loop F66.c9
def F66.c7 : RCode := .block 0 F66.c8
def F66.c6 : RCode := .seq (.reg F66.r3) F66.c7
def F66.r8 : List ROper :=
 ⟨some 2,.rd (.mv (.c (.int .i64 0))),none⟩::
  []
def F66.c17 : RCode := .seq (.reg F66.r8) .ret
def F66.c5 : RCode := .seq F66.c6 F66.c17
def F66.c1 : RCode := .seq F66.c2 F66.c5
def F66.c0 : RCode := .seq (.reg F66.r0) F66.c1
theorem F66.calls {args : List AV} {h : AHeap} {K : AV → AHeap → Prop} (hn : args.length ≤ 18) (k : wT .go Go.Proofs.Try.prog 18 F66.c0 (fun x e h t => atEndT t [.tmp 2] (EndW K) x e h) (envOf 0 args) h) : ACalls Go.Proofs.Try.prog 66 args h K :=
  acallsT [] [] 18 Go.Proofs.Try.func66 Go.Proofs.Try.ntmps66 (by kernel_rfl) (by kernel_rfl) hn k
/-- pantograph/pantographref02.right -/
def F86.r0 : List ROper :=
 ⟨some 2,.rd (.mv (.c (.bool false))),none⟩::
  []
def F86.r1 : List ROper :=
 ⟨some 3,.rd (.mv (.t 0)),none⟩::
 ⟨some 4,.rd (.bin .eql (.t 3) (.c (.int .u8 9))),none⟩::
 ⟨some 5,.rd (.mv (.t 4)),none⟩::
 ⟨some 6,.rd (.mv (.t 0)),some (5,false)⟩::
 ⟨some 7,.rd (.bin .eql (.t 6) (.c (.int .u8 10))),some (5,false)⟩::
 ⟨some 8,.rd (.pick (.t 5) (.c (.bool true)) (.t 7)),none⟩::
 ⟨some 9,.rd (.mv (.t 8)),none⟩::
 ⟨some 10,.rd (.mv (.t 0)),some (9,false)⟩::
 ⟨some 11,.rd (.bin .geq (.t 10) (.c (.int .u8 32))),some (9,false)⟩::
 ⟨some 12,.rd (.mv (.t 11)),some (9,false)⟩::
 ⟨some 13,.rd (.mv (.t 0)),some (12,true)⟩::
 ⟨some 14,.rd (.bin .leq (.t 13) (.c (.int .u8 126))),some (12,true)⟩::
 ⟨some 15,.rd (.pick (.t 12) (.t 14) (.c (.bool false))),some (9,false)⟩::
 ⟨some 16,.rd (.pick (.t 9) (.c (.bool true)) (.t 15)),none⟩::
 ⟨some 2,.rd (.mv (.t 16)),none⟩::
  []
def F86.c1 : RCode := .seq (.reg F86.r1) .ret
def F86.c0 : RCode := .seq (.reg F86.r0) F86.c1
theorem F86.calls {args : List AV} {h : AHeap} {K : AV → AHeap → Prop} (hn : args.length ≤ 17) (k : wT .go Go.Proofs.Try.prog 17 F86.c0 (fun x e h t => atEndT t [.tmp 2] (EndW K) x e h) (envOf 0 args) h) : ACalls Go.Proofs.Try.prog 86 args h K :=
  acallsT [] [] 17 Go.Proofs.Try.func86 Go.Proofs.Try.ntmps86 (by kernel_rfl) (by kernel_rfl) hn k
/-- pantograph/pantographref07.Name -/
def F30.r0 : List ROper :=
 ⟨some 4,.rd (.mv (.c (.bool false))),none⟩::
  []
def F30.r1 : List ROper :=
 ⟨some 5,.rd (.mv (.t 1)),none⟩::
 ⟨some 6,.ef (.call 64 [(.t 5)]),none⟩::
 ⟨some 7,.rd (.bin .eql (.t 6) (.c (.int .i64 0))),none⟩::
 ⟨some 8,.rd (.mv (.t 7)),none⟩::
 ⟨some 9,.rd (.mv (.t 0)),some (8,true)⟩::
 ⟨some 10,.rd (.mv (.t 1)),some (8,true)⟩::
 ⟨some 11,.ef (.call 65 [(.t 9),(.t 10)]),some (8,true)⟩::
 ⟨some 12,.rd (.un .not (.t 11)),some (8,true)⟩::
 ⟨some 13,.rd (.pick (.t 8) (.t 12) (.c (.bool false))),none⟩::
 ⟨some 4,.rd (.mv (.t 13)),none⟩::
  []
def F30.c1 : RCode := .seq (.reg F30.r1) .ret
def F30.c0 : RCode := .seq (.reg F30.r0) F30.c1
theorem F30.calls {args : List AV} {h : AHeap} {K : AV → AHeap → Prop} (hn : args.length ≤ 14) (k : wT .go Go.Proofs.Try.prog 14 F30.c0 (fun x e h t => atEndT t [.tmp 4] (EndW K) x e h) (envOf 0 args) h) : ACalls Go.Proofs.Try.prog 30 args h K :=
  acallsT [] [] 14 Go.Proofs.Try.func30 Go.Proofs.Try.ntmps30 (by kernel_rfl) (by kernel_rfl) hn k
/-- pantograph/pantographref07.notes -/
def F31.r0 : List ROper :=
 ⟨some 2,.rd (.mv (.c (.bool false))),none⟩::
  []
def F31.r1 : List ROper :=
 ⟨some 3,.rd (.mv (.c (.int .i64 0))),none⟩::
  []
def F31.r2 : List ROper :=
 ⟨some 4,.rd (.mv (.t 3)),none⟩::
 ⟨some 5,.rd (.mv (.t 0)),none⟩::
 ⟨some 6,.rd (.len 1 (.t 5)),none⟩::
 ⟨some 7,.rd (.bin .lss (.t 4) (.t 6)),none⟩::
  []
def F31.c7 : RCode := .cond (.t 7) .skip (.exit 0)
def F31.c6 : RCode := .seq (.reg F31.r2) F31.c7
def F31.r3 : List ROper :=
 ⟨some 10,.rd (.mv (.t 0)),none⟩::
 ⟨some 11,.rd (.mv (.t 3)),none⟩::
 ⟨some 12,.rd (.ia 1 (.t 10) (.t 11)),none⟩::
 ⟨some 13,.rd (.load none (.t 12)),none⟩::
 ⟨some 14,.ef (.call 66 [(.t 13)]),none⟩::
 ⟨some 15,.rd (.bin .neq (.t 14) (.c (.int .i64 0))),none⟩::
  []
def F31.r4 : List ROper :=
 ⟨some 2,.rd (.mv (.c (.bool false))),none⟩::
  []
def F31.c12 : RCode := .seq (.reg F31.r4) .ret
def F31.c11 : RCode := .cond (.t 15) F31.c12 .skip
def F31.c10 : RCode := .seq (.reg F31.r3) F31.c11
def F31.c9 : RCode := .block 1 F31.c10
def F31.r5 : List ROper :=
 ⟨some 8,.rd (.mv (.t 3)),none⟩::
 ⟨some 9,.rd (.bin .add (.t 8) (.c (.int .i64 1))),none⟩::
 ⟨some 3,.rd (.mv (.t 9)),none⟩::
  []
def F31.c8 : RCode := .seq F31.c9 (.reg F31.r5)
def F31.c5 : RCode := .seq F31.c6 F31.c8
def F31.c4 : RCode := .loop F31.c5
def F31.c3 : RCode := .block 0 F31.c4
def F31.c2 : RCode := .seq (.reg F31.r1) F31.c3
def F31.r6 : List ROper :=
 ⟨some 16,.rd (.mv (.t 0)),none⟩::
 ⟨some 17,.rd (.len 1 (.t 16)),none⟩::
 ⟨some 18,.rd (.bin .leq (.t 17) (.c (.int .i64 512))),none⟩::
 ⟨some 2,.rd (.mv (.t 18)),none⟩::
  []
def F31.c13 : RCode := .seq (.reg F31.r6) .ret
def F31.c1 : RCode := .seq F31.c2 F31.c13
def F31.c0 : RCode := .seq (.reg F31.r0) F31.c1
theorem F31.calls {args : List AV} {h : AHeap} {K : AV → AHeap → Prop} (hn : args.length ≤ 19) (k : wT .go Go.Proofs.Try.prog 19 F31.c0 (fun x e h t => atEndT t [.tmp 2] (EndW K) x e h) (envOf 0 args) h) : ACalls Go.Proofs.Try.prog 31 args h K :=
  acallsT [] [] 19 Go.Proofs.Try.func31 Go.Proofs.Try.ntmps31 (by kernel_rfl) (by kernel_rfl) hn k
/-- pantograph/pantographref07.marks -/
def F32.r0 : List ROper :=
 ⟨some 1,.rd (.bx none (.t 0)),none⟩::
 ⟨some 2,.rd (.mv (.c (.bool false))),none⟩::
  []
def F32.r1 : List ROper :=
 ⟨some 3,.rd (.fa 0 (.t 1)),none⟩::
 ⟨some 4,.rd (.load none (.t 3)),none⟩::
 ⟨some 5,.ef (.call 31 [(.t 4)]),none⟩::
 ⟨some 6,.rd (.mv (.t 5)),none⟩::
 ⟨some 7,.rd (.fa 1 (.t 1)),some (6,true)⟩::
 ⟨some 8,.rd (.load none (.t 7)),some (6,true)⟩::
 ⟨some 9,.ef (.call 31 [(.t 8)]),some (6,true)⟩::
 ⟨some 10,.rd (.pick (.t 6) (.t 9) (.c (.bool false))),none⟩::
 ⟨some 2,.rd (.mv (.t 10)),none⟩::
  []
def F32.c1 : RCode := .seq (.reg F32.r1) .ret
def F32.c0 : RCode := .seq (.reg F32.r0) F32.c1
theorem F32.calls {args : List AV} {h : AHeap} {K : AV → AHeap → Prop} (hn : args.length ≤ 11) (k : wT .go Go.Proofs.Try.prog 11 F32.c0 (fun x e h t => atEndT t [.tmp 2] (EndW K) x e h) (envOf 0 args) h) : ACalls Go.Proofs.Try.prog 32 args h K :=
  acallsT [1] [] 11 Go.Proofs.Try.func32 Go.Proofs.Try.ntmps32 (by kernel_rfl) (by kernel_rfl) hn k
/-- pantograph/pantographref07.Type -/
def F67.r0 : List ROper :=
 ⟨some 3,.rd (.bx none (.t 1)),none⟩::
 ⟨some 4,.rd (.mv (.c (.bool false))),none⟩::
  []
def F67.r1 : List ROper :=
 ⟨some 5,.rd (.fa 0 (.t 3)),none⟩::
 ⟨some 6,.rd (.load none (.t 5)),none⟩::
 ⟨some 7,.rd (.bin .eql (.t 6) (.c (.int .i64 4))),none⟩::
  []
def F67.r2 : List ROper :=
 ⟨some 8,.rd (.fa 1 (.t 3)),none⟩::
 ⟨some 9,.rd (.load none (.t 8)),none⟩::
 ⟨some 10,.rd (.bin .eql (.t 9) (.c (.int .i64 0))),none⟩::
 ⟨some 11,.rd (.mv (.t 10)),none⟩::
 ⟨some 12,.rd (.mv (.t 0)),some (11,true)⟩::
 ⟨some 13,.rd (.fa 2 (.t 3)),some (11,true)⟩::
 ⟨some 14,.rd (.load none (.t 13)),some (11,true)⟩::
 ⟨some 15,.ef (.call 30 [(.t 12),(.t 14)]),some (11,true)⟩::
 ⟨some 16,.rd (.pick (.t 11) (.t 15) (.c (.bool false))),none⟩::
 ⟨some 4,.rd (.mv (.t 16)),none⟩::
  []
def F67.c4 : RCode := .seq (.reg F67.r2) .ret
def F67.c3 : RCode := .cond (.t 7) F67.c4 .skip
def F67.c2 : RCode := .seq (.reg F67.r1) F67.c3
def F67.r3 : List ROper :=
 ⟨some 17,.rd (.fa 0 (.t 3)),none⟩::
 ⟨some 18,.rd (.load none (.t 17)),none⟩::
 ⟨some 19,.rd (.bin .geq (.t 18) (.c (.int .i64 1))),none⟩::
 ⟨some 20,.rd (.mv (.t 19)),none⟩::
 ⟨some 21,.rd (.fa 0 (.t 3)),some (20,true)⟩::
 ⟨some 22,.rd (.load none (.t 21)),some (20,true)⟩::
 ⟨some 23,.rd (.bin .leq (.t 22) (.c (.int .i64 3))),some (20,true)⟩::
 ⟨some 24,.rd (.pick (.t 20) (.t 23) (.c (.bool false))),none⟩::
 ⟨some 25,.rd (.mv (.t 24)),none⟩::
 ⟨some 26,.rd (.fa 1 (.t 3)),some (25,true)⟩::
 ⟨some 27,.rd (.load none (.t 26)),some (25,true)⟩::
 ⟨some 28,.rd (.bin .geq (.t 27) (.c (.int .i64 0))),some (25,true)⟩::
 ⟨some 29,.rd (.pick (.t 25) (.t 28) (.c (.bool false))),none⟩::
 ⟨some 30,.rd (.mv (.t 29)),none⟩::
 ⟨some 31,.rd (.fa 1 (.t 3)),some (30,true)⟩::
 ⟨some 32,.rd (.load none (.t 31)),some (30,true)⟩::
 ⟨some 33,.rd (.bin .leq (.t 32) (.c (.int .i64 64))),some (30,true)⟩::
 ⟨some 34,.rd (.pick (.t 30) (.t 33) (.c (.bool false))),none⟩::
 ⟨some 35,.rd (.mv (.t 34)),none⟩::
 ⟨some 36,.rd (.fa 2 (.t 3)),some (35,true)⟩::
 ⟨some 37,.rd (.load none (.t 36)),some (35,true)⟩::
 ⟨some 38,.rd (.bin .eql (.t 37) (.c (.str (⟨#[]⟩ : ByteArray)))),some (35,true)⟩::
 ⟨some 39,.rd (.pick (.t 35) (.t 38) (.c (.bool false))),none⟩::
 ⟨some 4,.rd (.mv (.t 39)),none⟩::
  []
def F67.c5 : RCode := .seq (.reg F67.r3) .ret
def F67.c1 : RCode := .seq F67.c2 F67.c5
def F67.c0 : RCode := .seq (.reg F67.r0) F67.c1
theorem F67.calls {args : List AV} {h : AHeap} {K : AV → AHeap → Prop} (hn : args.length ≤ 40) (k : wT .go Go.Proofs.Try.prog 40 F67.c0 (fun x e h t => atEndT t [.tmp 4] (EndW K) x e h) (envOf 0 args) h) : ACalls Go.Proofs.Try.prog 67 args h K :=
  acallsT [3] [] 40 Go.Proofs.Try.func67 Go.Proofs.Try.ntmps67 (by kernel_rfl) (by kernel_rfl) hn k
/-- pantograph/pantographref07.params -/
def F69.r0 : List ROper :=
 ⟨some 4,.rd (.mv (.c (.bool false))),none⟩::
  []
def F69.r1 : List ROper :=
 ⟨some 5,.rd (.mv (.c (.int .i64 0))),none⟩::
  []
def F69.r2 : List ROper :=
 ⟨some 7,.rd (.mv (.t 5)),none⟩::
 ⟨some 8,.rd (.mv (.t 1)),none⟩::
 ⟨some 9,.rd (.len 1 (.t 8)),none⟩::
 ⟨some 10,.rd (.bin .lss (.t 7) (.t 9)),none⟩::
  []
def F69.c7 : RCode := .cond (.t 10) .skip (.exit 0)
def F69.c6 : RCode := .seq (.reg F69.r2) F69.c7
def F69.r3 : List ROper :=
 ⟨some 13,.rd (.mv (.t 1)),none⟩::
 ⟨some 14,.rd (.mv (.t 5)),none⟩::
 ⟨some 15,.rd (.ia 5 (.t 13) (.t 14)),none⟩::
 ⟨some 16,.rd (.load (some 5) (.t 15)),none⟩::
 ⟨some 6,.rd (.bx (some 5) (.t 16)),none⟩::
  []
def F69.r4 : List ROper :=
 ⟨some 17,.rd (.mv (.t 0)),none⟩::
 ⟨some 18,.rd (.fa 0 (.t 6)),none⟩::
 ⟨some 19,.rd (.load none (.t 18)),none⟩::
 ⟨some 20,.ef (.call 30 [(.t 17),(.t 19)]),none⟩::
 ⟨some 21,.rd (.un .not (.t 20)),none⟩::
 ⟨some 22,.rd (.mv (.t 21)),none⟩::
 ⟨some 23,.rd (.mv (.t 0)),some (22,false)⟩::
 ⟨some 24,.rd (.fa 1 (.t 6)),some (22,false)⟩::
 ⟨some 25,.rd (.load (some 3) (.t 24)),some (22,false)⟩::
 ⟨some 26,.ef (.call 67 [(.t 23),(.t 25)]),some (22,false)⟩::
 ⟨some 27,.rd (.un .not (.t 26)),some (22,false)⟩::
 ⟨some 28,.rd (.pick (.t 22) (.c (.bool true)) (.t 27)),none⟩::
 ⟨some 29,.rd (.mv (.t 28)),none⟩::
 ⟨some 30,.rd (.fa 4 (.t 6)),some (29,false)⟩::
 ⟨some 31,.rd (.load none (.t 30)),some (29,false)⟩::
 ⟨some 32,.rd (.bin .lss (.t 31) (.c (.int .i64 0))),some (29,false)⟩::
 ⟨some 33,.rd (.pick (.t 29) (.c (.bool true)) (.t 32)),none⟩::
 ⟨some 34,.rd (.mv (.t 33)),none⟩::
 ⟨some 35,.rd (.fa 4 (.t 6)),some (34,false)⟩::
 ⟨some 36,.rd (.load none (.t 35)),some (34,false)⟩::
 ⟨some 37,.rd (.bin .gtr (.t 36) (.c (.int .i64 2))),some (34,false)⟩::
 ⟨some 38,.rd (.pick (.t 34) (.c (.bool true)) (.t 37)),none⟩::
 ⟨some 39,.rd (.mv (.t 38)),none⟩::
 ⟨some 40,.rd (.fa 4 (.t 6)),some (39,false)⟩::
 ⟨some 41,.rd (.load none (.t 40)),some (39,false)⟩::
 ⟨some 42,.rd (.bin .eql (.t 41) (.c (.int .i64 2))),some (39,false)⟩::
 ⟨some 43,.rd (.mv (.t 42)),some (39,false)⟩::
 ⟨some 44,.rd (.mv (.t 0)),some (43,true)⟩::
 ⟨some 45,.rd (.bin .eql (.t 44) (.c (.int .i64 0))),some (43,true)⟩::
 ⟨some 46,.rd (.pick (.t 43) (.t 45) (.c (.bool false))),some (39,false)⟩::
 ⟨some 47,.rd (.pick (.t 39) (.c (.bool true)) (.t 46)),none⟩::
  []
def F69.r5 : List ROper :=
 ⟨some 4,.rd (.mv (.c (.bool false))),none⟩::
  []
def F69.c14 : RCode := .seq (.reg F69.r5) .ret
def F69.c13 : RCode := .cond (.t 47) F69.c14 .skip
def F69.c12 : RCode := .seq (.reg F69.r4) F69.c13
def F69.r6 : List ROper :=
 ⟨some 48,.rd (.fa 4 (.t 6)),none⟩::
 ⟨some 49,.rd (.load none (.t 48)),none⟩::
 ⟨some 50,.rd (.bin .eql (.t 49) (.c (.int .i64 0))),none⟩::
 ⟨some 51,.rd (.mv (.t 50)),none⟩::
 ⟨some 52,.rd (.fa 1 (.t 6)),some (51,true)⟩::
 ⟨some 53,.rd (.fa 1 (.t 52)),some (51,true)⟩::
 ⟨some 54,.rd (.load none (.t 53)),some (51,true)⟩::
 ⟨some 55,.rd (.bin .neq (.t 54) (.c (.int .i64 0))),some (51,true)⟩::
 ⟨some 56,.rd (.mv (.t 55)),some (51,true)⟩::
 ⟨some 57,.rd (.fa 1 (.t 6)),some (56,false)⟩::
 ⟨some 58,.rd (.fa 0 (.t 57)),some (56,false)⟩::
 ⟨some 59,.rd (.load none (.t 58)),some (56,false)⟩::
 ⟨some 60,.rd (.bin .eql (.t 59) (.c (.int .i64 4))),some (56,false)⟩::
 ⟨some 61,.rd (.pick (.t 56) (.c (.bool true)) (.t 60)),some (51,true)⟩::
 ⟨some 62,.rd (.pick (.t 51) (.t 61) (.c (.bool false))),none⟩::
 ⟨some 63,.rd (.mv (.t 62)),none⟩::
 ⟨some 64,.rd (.fa 4 (.t 6)),some (63,false)⟩::
 ⟨some 65,.rd (.load none (.t 64)),some (63,false)⟩::
 ⟨some 66,.rd (.bin .neq (.t 65) (.c (.int .i64 2))),some (63,false)⟩::
 ⟨some 67,.rd (.mv (.t 66)),some (63,false)⟩::
 ⟨some 68,.rd (.mv (.t 5)),some (67,true)⟩::
 ⟨some 69,.rd (.bin .gtr (.t 68) (.c (.int .i64 0))),some (67,true)⟩::
 ⟨some 70,.rd (.pick (.t 67) (.t 69) (.c (.bool false))),some (63,false)⟩::
 ⟨some 71,.rd (.mv (.t 70)),some (63,false)⟩::
 ⟨some 72,.rd (.mv (.t 1)),some (71,true)⟩::
 ⟨some 73,.rd (.mv (.t 5)),some (71,true)⟩::
 ⟨some 74,.rd (.bin .sub (.t 73) (.c (.int .i64 1))),some (71,true)⟩::
 ⟨some 75,.rd (.ia 5 (.t 72) (.t 74)),some (71,true)⟩::
 ⟨some 76,.rd (.fa 4 (.t 75)),some (71,true)⟩::
 ⟨some 77,.rd (.load none (.t 76)),some (71,true)⟩::
 ⟨some 78,.rd (.bin .eql (.t 77) (.c (.int .i64 2))),some (71,true)⟩::
 ⟨some 79,.rd (.pick (.t 71) (.t 78) (.c (.bool false))),some (63,false)⟩::
 ⟨some 80,.rd (.pick (.t 63) (.c (.bool true)) (.t 79)),none⟩::
  []
def F69.r7 : List ROper :=
 ⟨some 4,.rd (.mv (.c (.bool false))),none⟩::
  []
def F69.c17 : RCode := .seq (.reg F69.r7) .ret
def F69.c16 : RCode := .cond (.t 80) F69.c17 .skip
def F69.c15 : RCode := .seq (.reg F69.r6) F69.c16
def F69.c11 : RCode := .seq F69.c12 F69.c15
def F69.c10 : RCode := .seq (.reg F69.r3) F69.c11
def F69.c9 : RCode := .block 1 F69.c10
def F69.r8 : List ROper :=
 ⟨some 11,.rd (.mv (.t 5)),none⟩::
 ⟨some 12,.rd (.bin .add (.t 11) (.c (.int .i64 1))),none⟩::
 ⟨some 5,.rd (.mv (.t 12)),none⟩::
  []
def F69.c8 : RCode := .seq F69.c9 (.reg F69.r8)
def F69.c5 : RCode := .seq F69.c6 F69.c8
def F69.c4 : RCode := .loop F69.c5
def F69.c3 : RCode := .block 0 F69.c4
def F69.c2 : RCode := .seq (.reg F69.r1) F69.c3
def F69.r9 : List ROper :=
 ⟨some 81,.rd (.mv (.t 1)),none⟩::
 ⟨some 82,.rd (.len 1 (.t 81)),none⟩::
 ⟨some 83,.rd (.bin .leq (.t 82) (.c (.int .i64 512))),none⟩::
 ⟨some 4,.rd (.mv (.t 83)),none⟩::
  []
def F69.c18 : RCode := .seq (.reg F69.r9) .ret
def F69.c1 : RCode := .seq F69.c2 F69.c18
def F69.c0 : RCode := .seq (.reg F69.r0) F69.c1
theorem F69.calls {args : List AV} {h : AHeap} {K : AV → AHeap → Prop} (hn : args.length ≤ 84) (k : wT .go Go.Proofs.Try.prog 84 F69.c0 (fun x e h t => atEndT t [.tmp 4] (EndW K) x e h) (envOf 0 args) h) : ACalls Go.Proofs.Try.prog 69 args h K :=
  acallsT [] [6] 84 Go.Proofs.Try.func69 Go.Proofs.Try.ntmps69 (by kernel_rfl) (by kernel_rfl) hn k
/-- pantograph/pantographref07.vars -/
def F33.r0 : List ROper :=
 ⟨some 4,.rd (.mv (.c (.bool false))),none⟩::
  []
def F33.r1 : List ROper :=
 ⟨some 5,.rd (.mv (.c (.int .i64 0))),none⟩::
  []
def F33.r2 : List ROper :=
 ⟨some 6,.rd (.mv (.t 5)),none⟩::
 ⟨some 7,.rd (.mv (.t 1)),none⟩::
 ⟨some 8,.rd (.len 1 (.t 7)),none⟩::
 ⟨some 9,.rd (.bin .lss (.t 6) (.t 8)),none⟩::
  []
def F33.c7 : RCode := .cond (.t 9) .skip (.exit 0)
def F33.c6 : RCode := .seq (.reg F33.r2) F33.c7
def F33.r3 : List ROper :=
 ⟨some 12,.rd (.mv (.t 1)),none⟩::
 ⟨some 13,.rd (.mv (.t 5)),none⟩::
 ⟨some 14,.rd (.ia 6 (.t 12) (.t 13)),none⟩::
 ⟨some 15,.rd (.fa 0 (.t 14)),none⟩::
 ⟨some 16,.rd (.load (some 2) (.t 15)),none⟩::
 ⟨some 17,.ef (.call 32 [(.t 16)]),none⟩::
 ⟨some 18,.rd (.un .not (.t 17)),none⟩::
 ⟨some 19,.rd (.mv (.t 18)),none⟩::
 ⟨some 20,.rd (.mv (.t 0)),some (19,false)⟩::
 ⟨some 21,.rd (.mv (.t 1)),some (19,false)⟩::
 ⟨some 22,.rd (.mv (.t 5)),some (19,false)⟩::
 ⟨some 23,.rd (.ia 6 (.t 21) (.t 22)),some (19,false)⟩::
 ⟨some 24,.rd (.fa 2 (.t 23)),some (19,false)⟩::
 ⟨some 25,.rd (.load none (.t 24)),some (19,false)⟩::
 ⟨some 26,.ef (.call 30 [(.t 20),(.t 25)]),some (19,false)⟩::
 ⟨some 27,.rd (.un .not (.t 26)),some (19,false)⟩::
 ⟨some 28,.rd (.pick (.t 19) (.c (.bool true)) (.t 27)),none⟩::
 ⟨some 29,.rd (.mv (.t 28)),none⟩::
 ⟨some 30,.rd (.mv (.t 0)),some (29,false)⟩::
 ⟨some 31,.rd (.mv (.t 1)),some (29,false)⟩::
 ⟨some 32,.rd (.mv (.t 5)),some (29,false)⟩::
 ⟨some 33,.rd (.ia 6 (.t 31) (.t 32)),some (29,false)⟩::
 ⟨some 34,.rd (.fa 3 (.t 33)),some (29,false)⟩::
 ⟨some 35,.rd (.load (some 3) (.t 34)),some (29,false)⟩::
 ⟨some 36,.ef (.call 67 [(.t 30),(.t 35)]),some (29,false)⟩::
 ⟨some 37,.rd (.un .not (.t 36)),some (29,false)⟩::
 ⟨some 38,.rd (.pick (.t 29) (.c (.bool true)) (.t 37)),none⟩::
  []
def F33.r4 : List ROper :=
 ⟨some 4,.rd (.mv (.c (.bool false))),none⟩::
  []
def F33.c12 : RCode := .seq (.reg F33.r4) .ret
def F33.c11 : RCode := .cond (.t 38) F33.c12 .skip
def F33.c10 : RCode := .seq (.reg F33.r3) F33.c11
def F33.c9 : RCode := .block 1 F33.c10
def F33.r5 : List ROper :=
 ⟨some 10,.rd (.mv (.t 5)),none⟩::
 ⟨some 11,.rd (.bin .add (.t 10) (.c (.int .i64 1))),none⟩::
 ⟨some 5,.rd (.mv (.t 11)),none⟩::
  []
def F33.c8 : RCode := .seq F33.c9 (.reg F33.r5)
def F33.c5 : RCode := .seq F33.c6 F33.c8
def F33.c4 : RCode := .loop F33.c5
def F33.c3 : RCode := .block 0 F33.c4
def F33.c2 : RCode := .seq (.reg F33.r1) F33.c3
def F33.r6 : List ROper :=
 ⟨some 39,.rd (.mv (.t 1)),none⟩::
 ⟨some 40,.rd (.len 1 (.t 39)),none⟩::
 ⟨some 41,.rd (.bin .leq (.t 40) (.c (.int .i64 512))),none⟩::
 ⟨some 4,.rd (.mv (.t 41)),none⟩::
  []
def F33.c13 : RCode := .seq (.reg F33.r6) .ret
def F33.c1 : RCode := .seq F33.c2 F33.c13
def F33.c0 : RCode := .seq (.reg F33.r0) F33.c1
theorem F33.calls {args : List AV} {h : AHeap} {K : AV → AHeap → Prop} (hn : args.length ≤ 42) (k : wT .go Go.Proofs.Try.prog 42 F33.c0 (fun x e h t => atEndT t [.tmp 4] (EndW K) x e h) (envOf 0 args) h) : ACalls Go.Proofs.Try.prog 33 args h K :=
  acallsT [] [] 42 Go.Proofs.Try.func33 Go.Proofs.Try.ntmps33 (by kernel_rfl) (by kernel_rfl) hn k
/-- pantograph/pantographref07.routines -/
def F34.r0 : List ROper :=
 ⟨some 6,.rd (.mv (.c (.bool false))),none⟩::
  []
def F34.r1 : List ROper :=
 ⟨some 7,.rd (.mv (.c (.int .i64 0))),none⟩::
  []
def F34.r2 : List ROper :=
 ⟨some 10,.rd (.mv (.t 7)),none⟩::
 ⟨some 11,.rd (.mv (.t 1)),none⟩::
 ⟨some 12,.rd (.len 1 (.t 11)),none⟩::
 ⟨some 13,.rd (.bin .lss (.t 10) (.t 12)),none⟩::
  []
def F34.c7 : RCode := .cond (.t 13) .skip (.exit 0)
def F34.c6 : RCode := .seq (.reg F34.r2) F34.c7
def F34.r3 : List ROper :=
 ⟨some 16,.rd (.mv (.t 1)),none⟩::
 ⟨some 17,.rd (.mv (.t 7)),none⟩::
 ⟨some 18,.rd (.ia 9 (.t 16) (.t 17)),none⟩::
 ⟨some 19,.rd (.load (some 9) (.t 18)),none⟩::
 ⟨some 8,.rd (.bx (some 9) (.t 19)),none⟩::
  []
def F34.r4 : List ROper :=
 ⟨some 20,.rd (.mv (.t 2)),none⟩::
 ⟨some 21,.rd (.bin .gtr (.t 20) (.c (.int .i64 48))),none⟩::
 ⟨some 22,.rd (.mv (.t 21)),none⟩::
 ⟨some 23,.rd (.fa 0 (.t 8)),some (22,false)⟩::
 ⟨some 24,.rd (.load (some 2) (.t 23)),some (22,false)⟩::
 ⟨some 25,.ef (.call 32 [(.t 24)]),some (22,false)⟩::
 ⟨some 26,.rd (.un .not (.t 25)),some (22,false)⟩::
 ⟨some 27,.rd (.pick (.t 22) (.c (.bool true)) (.t 26)),none⟩::
 ⟨some 28,.rd (.mv (.t 27)),none⟩::
 ⟨some 29,.rd (.fa 8 (.t 8)),some (28,false)⟩::
 ⟨some 30,.rd (.load none (.t 29)),some (28,false)⟩::
 ⟨some 31,.ef (.call 31 [(.t 30)]),some (28,false)⟩::
 ⟨some 32,.rd (.un .not (.t 31)),some (28,false)⟩::
 ⟨some 33,.rd (.pick (.t 28) (.c (.bool true)) (.t 32)),none⟩::
 ⟨some 34,.rd (.mv (.t 33)),none⟩::
 ⟨some 35,.rd (.mv (.t 0)),some (34,false)⟩::
 ⟨some 36,.rd (.fa 2 (.t 8)),some (34,false)⟩::
 ⟨some 37,.rd (.load none (.t 36)),some (34,false)⟩::
 ⟨some 38,.ef (.call 68 [(.t 35),(.t 37)]),some (34,false)⟩::
 ⟨some 39,.rd (.un .not (.t 38)),some (34,false)⟩::
 ⟨some 40,.rd (.pick (.t 34) (.c (.bool true)) (.t 39)),none⟩::
 ⟨some 41,.rd (.mv (.t 40)),none⟩::
 ⟨some 42,.rd (.fa 3 (.t 8)),some (41,false)⟩::
 ⟨some 43,.rd (.load none (.t 42)),some (41,false)⟩::
 ⟨some 44,.rd (.bin .lss (.t 43) (.c (.int .i64 0))),some (41,false)⟩::
 ⟨some 45,.rd (.pick (.t 41) (.c (.bool true)) (.t 44)),none⟩::
 ⟨some 46,.rd (.mv (.t 45)),none⟩::
 ⟨some 47,.rd (.fa 3 (.t 8)),some (46,false)⟩::
 ⟨some 48,.rd (.load none (.t 47)),some (46,false)⟩::
 ⟨some 49,.rd (.bin .gtr (.t 48) (.c (.int .i64 3))),some (46,false)⟩::
 ⟨some 50,.rd (.pick (.t 46) (.c (.bool true)) (.t 49)),none⟩::
  []
def F34.r5 : List ROper :=
 ⟨some 6,.rd (.mv (.c (.bool false))),none⟩::
  []
def F34.c14 : RCode := .seq (.reg F34.r5) .ret
def F34.c13 : RCode := .cond (.t 50) F34.c14 .skip
def F34.c12 : RCode := .seq (.reg F34.r4) F34.c13
def F34.r6 : List ROper :=
 ⟨some 9,.rd (.mv (.c (.int .i64 0))),none⟩::
  []
def F34.r7 : List ROper :=
 ⟨some 51,.rd (.mv (.t 9)),none⟩::
 ⟨some 52,.rd (.mv (.t 7)),none⟩::
 ⟨some 53,.rd (.bin .lss (.t 51) (.t 52)),none⟩::
  []
def F34.c21 : RCode := .cond (.t 53) .skip (.exit 2)
def F34.c20 : RCode := .seq (.reg F34.r7) F34.c21
def F34.r8 : List ROper :=
 ⟨some 56,.rd (.mv (.t 1)),none⟩::
 ⟨some 57,.rd (.mv (.t 9)),none⟩::
 ⟨some 58,.rd (.ia 9 (.t 56) (.t 57)),none⟩::
 ⟨some 59,.rd (.fa 2 (.t 58)),none⟩::
 ⟨some 60,.rd (.load none (.t 59)),none⟩::
 ⟨some 61,.rd (.fa 2 (.t 8)),none⟩::
 ⟨some 62,.rd (.load none (.t 61)),none⟩::
 ⟨some 63,.rd (.bin .eql (.t 60) (.t 62)),none⟩::
  []
def F34.r9 : List ROper :=
 ⟨some 6,.rd (.mv (.c (.bool false))),none⟩::
  []
def F34.c26 : RCode := .seq (.reg F34.r9) .ret
def F34.c25 : RCode := .cond (.t 63) F34.c26 .skip
def F34.c24 : RCode := .seq (.dreg F34.r8) F34.c25
def F34.c23 : RCode := .block 3 F34.c24
def F34.r10 : List ROper :=
 ⟨some 54,.rd (.mv (.t 9)),none⟩::
 ⟨some 55,.rd (.bin .add (.t 54) (.c (.int .i64 1))),none⟩::
 ⟨some 9,.rd (.mv (.t 55)),none⟩::
  []
def F34.c22 : RCode := .seq F34.c23 (.reg F34.r10)
def F34.c19 : RCode := .seq F34.c20 F34.c22
def F34.c18 : RCode := .loop F34.c19
def F34.c17 : RCode := .block 2 F34.c18
def F34.c16 : RCode := .seq (.reg F34.r6) F34.c17
def F34.r11 : List ROper :=
 ⟨some 64,.rd (.mv (.t 0)),none⟩::
 ⟨some 65,.rd (.bin .eql (.t 64) (.c (.int .i64 1))),none⟩::
 ⟨some 66,.rd (.mv (.t 65)),none⟩::
 ⟨some 67,.rd (.fa 6 (.t 8)),some (66,true)⟩::
 ⟨some 68,.rd (.load none (.t 67)),some (66,true)⟩::
 ⟨some 69,.rd (.len 1 (.t 68)),some (66,true)⟩::
 ⟨some 70,.rd (.bin .gtr (.t 69) (.c (.int .i64 0))),some (66,true)⟩::
 ⟨some 71,.rd (.pick (.t 66) (.t 70) (.c (.bool false))),none⟩::
 ⟨some 72,.rd (.mv (.t 71)),none⟩::
 ⟨some 73,.rd (.mv (.t 0)),some (72,false)⟩::
 ⟨some 74,.rd (.fa 4 (.t 8)),some (72,false)⟩::
 ⟨some 75,.rd (.load none (.t 74)),some (72,false)⟩::
 ⟨some 76,.ef (.call 69 [(.t 73),(.t 75)]),some (72,false)⟩::
 ⟨some 77,.rd (.un .not (.t 76)),some (72,false)⟩::
 ⟨some 78,.rd (.pick (.t 72) (.c (.bool true)) (.t 77)),none⟩::
 ⟨some 79,.rd (.mv (.t 78)),none⟩::
 ⟨some 80,.rd (.mv (.t 0)),some (79,false)⟩::
 ⟨some 81,.rd (.fa 5 (.t 8)),some (79,false)⟩::
 ⟨some 82,.rd (.load none (.t 81)),some (79,false)⟩::
 ⟨some 83,.ef (.call 33 [(.t 80),(.t 82)]),some (79,false)⟩::
 ⟨some 84,.rd (.un .not (.t 83)),some (79,false)⟩::
 ⟨some 85,.rd (.pick (.t 79) (.c (.bool true)) (.t 84)),none⟩::
 ⟨some 86,.rd (.mv (.t 85)),none⟩::
 ⟨some 87,.rd (.mv (.t 0)),some (86,false)⟩::
 ⟨some 88,.rd (.fa 6 (.t 8)),some (86,false)⟩::
 ⟨some 89,.rd (.load none (.t 88)),some (86,false)⟩::
 ⟨some 90,.rd (.mv (.t 2)),some (86,false)⟩::
 ⟨some 91,.rd (.bin .add (.t 90) (.c (.int .i64 1))),some (86,false)⟩::
 ⟨some 92,.ef (.call 34 [(.t 87),(.t 89),(.t 91)]),some (86,false)⟩::
 ⟨some 93,.rd (.un .not (.t 92)),some (86,false)⟩::
 ⟨some 94,.rd (.pick (.t 86) (.c (.bool true)) (.t 93)),none⟩::
 ⟨some 95,.rd (.mv (.t 94)),none⟩::
 ⟨some 96,.rd (.mv (.t 0)),some (95,false)⟩::
 ⟨some 97,.rd (.fa 7 (.t 8)),some (95,false)⟩::
 ⟨some 98,.rd (.load none (.t 97)),some (95,false)⟩::
 ⟨some 99,.ef (.call 35 [(.t 96),(.t 98),(.c (.int .i64 1))]),some (95,false)⟩::
 ⟨some 100,.rd (.un .not (.t 99)),some (95,false)⟩::
 ⟨some 101,.rd (.pick (.t 95) (.c (.bool true)) (.t 100)),none⟩::
  []
def F34.r12 : List ROper :=
 ⟨some 6,.rd (.mv (.c (.bool false))),none⟩::
  []
def F34.c29 : RCode := .seq (.reg F34.r12) .ret
def F34.c28 : RCode := .cond (.t 101) F34.c29 .skip
def F34.c27 : RCode := .seq (.reg F34.r11) F34.c28
def F34.c15 : RCode := .seq F34.c16 F34.c27
def F34.c11 : RCode := .seq F34.c12 F34.c15
def F34.c10 : RCode := .seq (.reg F34.r3) F34.c11
def F34.c9 : RCode := .block 1 F34.c10
def F34.r13 : List ROper :=
 ⟨some 14,.rd (.mv (.t 7)),none⟩::
 ⟨some 15,.rd (.bin .add (.t 14) (.c (.int .i64 1))),none⟩::
 ⟨some 7,.rd (.mv (.t 15)),none⟩::
  []
def F34.c8 : RCode := .seq F34.c9 (.reg F34.r13)
def F34.c5 : RCode := .seq F34.c6 F34.c8
def F34.c4 : RCode := .loop F34.c5
def F34.c3 : RCode := .block 0 F34.c4
def F34.c2 : RCode := .seq (.reg F34.r1) F34.c3
def F34.r14 : List ROper :=
 ⟨some 102,.rd (.mv (.t 1)),none⟩::
 ⟨some 103,.rd (.len 1 (.t 102)),none⟩::
 ⟨some 104,.rd (.bin .leq (.t 103) (.c (.int .i64 512))),none⟩::
 ⟨some 6,.rd (.mv (.t 104)),none⟩::
  []
def F34.c30 : RCode := .seq (.reg F34.r14) .ret
def F34.c1 : RCode := .seq F34.c2 F34.c30
def F34.c0 : RCode := .seq (.reg F34.r0) F34.c1
theorem F34.calls {args : List AV} {h : AHeap} {K : AV → AHeap → Prop} (hn : args.length ≤ 105) (k : wT .go Go.Proofs.Try.prog 105 F34.c0 (fun x e h t => atEndT t [.tmp 6] (EndW K) x e h) (envOf 0 args) h) : ACalls Go.Proofs.Try.prog 34 args h K :=
  acallsT [] [8] 105 Go.Proofs.Try.func34 Go.Proofs.Try.ntmps34 (by kernel_rfl) (by kernel_rfl) hn k
/-- pantograph/pantographref07.Routine -/
def F68.r0 : List ROper :=
 ⟨some 4,.rd (.mv (.c (.bool false))),none⟩::
  []
def F68.r1 : List ROper :=
 ⟨some 7,.rd (.mv (.t 0)),none⟩::
 ⟨some 8,.rd (.bin .eql (.t 7) (.c (.int .i64 0))),none⟩::
  []
def F68.r2 : List ROper :=
 ⟨some 9,.rd (.mv (.t 1)),none⟩::
 ⟨some 10,.ef (.call 30 [(.c (.int .i64 0)),(.t 9)]),none⟩::
 ⟨some 4,.rd (.mv (.t 10)),none⟩::
  []
def F68.c4 : RCode := .seq (.reg F68.r2) .ret
def F68.c3 : RCode := .cond (.t 8) F68.c4 .skip
def F68.c2 : RCode := .seq (.reg F68.r1) F68.c3
def F68.r3 : List ROper :=
 ⟨some 11,.rd (.mv (.t 1)),none⟩::
 ⟨some 12,.ef (.call 36 [(.t 11)]),none⟩::
 ⟨some 5,.rd (.mv (.t 12)),none⟩::
  []
def F68.r4 : List ROper :=
 ⟨some 6,.rd (.mv (.c (.int .i64 0))),none⟩::
  []
def F68.r5 : List ROper :=
 ⟨some 13,.rd (.mv (.t 6)),none⟩::
 ⟨some 14,.rd (.mv (.t 5)),none⟩::
 ⟨some 15,.rd (.len 1 (.t 14)),none⟩::
 ⟨some 16,.rd (.bin .lss (.t 13) (.t 15)),none⟩::
  []
def F68.c12 : RCode := .cond (.t 16) .skip (.exit 0)
def F68.c11 : RCode := .seq (.reg F68.r5) F68.c12
def F68.r6 : List ROper :=
 ⟨some 19,.rd (.mv (.t 5)),none⟩::
 ⟨some 20,.rd (.mv (.t 6)),none⟩::
 ⟨some 21,.rd (.ia 1 (.t 19) (.t 20)),none⟩::
 ⟨some 22,.rd (.load none (.t 21)),none⟩::
 ⟨some 23,.ef (.call 30 [(.c (.int .i64 1)),(.t 22)]),none⟩::
 ⟨some 24,.rd (.un .not (.t 23)),none⟩::
  []
def F68.r7 : List ROper :=
 ⟨some 4,.rd (.mv (.c (.bool false))),none⟩::
  []
def F68.c17 : RCode := .seq (.reg F68.r7) .ret
def F68.c16 : RCode := .cond (.t 24) F68.c17 .skip
def F68.c15 : RCode := .seq (.reg F68.r6) F68.c16
def F68.c14 : RCode := .block 1 F68.c15
def F68.r8 : List ROper :=
 ⟨some 17,.rd (.mv (.t 6)),none⟩::
 ⟨some 18,.rd (.bin .add (.t 17) (.c (.int .i64 1))),none⟩::
 ⟨some 6,.rd (.mv (.t 18)),none⟩::
  []
def F68.c13 : RCode := .seq F68.c14 (.reg F68.r8)
def F68.c10 : RCode := .seq F68.c11 F68.c13
def F68.c9 : RCode := .loop F68.c10
def F68.c8 : RCode := .block 0 F68.c9
def F68.c7 : RCode := .seq (.reg F68.r4) F68.c8
def F68.r9 : List ROper :=
 ⟨some 4,.rd (.mv (.c (.bool true))),none⟩::
  []
def F68.c18 : RCode := .seq (.reg F68.r9) .ret
def F68.c6 : RCode := .seq F68.c7 F68.c18
def F68.c5 : RCode := .seq (.reg F68.r3) F68.c6
def F68.c1 : RCode := .seq F68.c2 F68.c5
def F68.c0 : RCode := .seq (.reg F68.r0) F68.c1
theorem F68.calls {args : List AV} {h : AHeap} {K : AV → AHeap → Prop} (hn : args.length ≤ 25) (k : wT .go Go.Proofs.Try.prog 25 F68.c0 (fun x e h t => atEndT t [.tmp 4] (EndW K) x e h) (envOf 0 args) h) : ACalls Go.Proofs.Try.prog 68 args h K :=
  acallsT [] [] 25 Go.Proofs.Try.func68 Go.Proofs.Try.ntmps68 (by kernel_rfl) (by kernel_rfl) hn k
/-- pantograph/pantographref07.Stmts -/
def F35.r0 : List ROper :=
 ⟨some 6,.rd (.mv (.c (.bool false))),none⟩::
  []
def F35.r1 : List ROper :=
 ⟨some 7,.rd (.mv (.c (.int .i64 0))),none⟩::
  []
def F35.r2 : List ROper :=
 ⟨some 8,.rd (.mv (.t 7)),none⟩::
 ⟨some 9,.rd (.mv (.t 1)),none⟩::
 ⟨some 10,.rd (.len 1 (.t 9)),none⟩::
 ⟨some 11,.rd (.bin .lss (.t 8) (.t 10)),none⟩::
  []
def F35.c7 : RCode := .cond (.t 11) .skip (.exit 0)
def F35.c6 : RCode := .seq (.reg F35.r2) F35.c7
def F35.r3 : List ROper :=
 ⟨some 14,.rd (.mv (.t 0)),none⟩::
 ⟨some 15,.rd (.mv (.t 1)),none⟩::
 ⟨some 16,.rd (.mv (.t 7)),none⟩::
 ⟨some 17,.rd (.ia 16 (.t 15) (.t 16)),none⟩::
 ⟨some 18,.rd (.load (some 16) (.t 17)),none⟩::
 ⟨some 19,.rd (.mv (.t 2)),none⟩::
 ⟨some 20,.ef (.call 70 [(.t 14),(.t 18),(.t 19)]),none⟩::
 ⟨some 21,.rd (.un .not (.t 20)),none⟩::
  []
def F35.r4 : List ROper :=
 ⟨some 6,.rd (.mv (.c (.bool false))),none⟩::
  []
def F35.c12 : RCode := .seq (.reg F35.r4) .ret
def F35.c11 : RCode := .cond (.t 21) F35.c12 .skip
def F35.c10 : RCode := .seq (.reg F35.r3) F35.c11
def F35.c9 : RCode := .block 1 F35.c10
def F35.r5 : List ROper :=
 ⟨some 12,.rd (.mv (.t 7)),none⟩::
 ⟨some 13,.rd (.bin .add (.t 12) (.c (.int .i64 1))),none⟩::
 ⟨some 7,.rd (.mv (.t 13)),none⟩::
  []
def F35.c8 : RCode := .seq F35.c9 (.reg F35.r5)
def F35.c5 : RCode := .seq F35.c6 F35.c8
def F35.c4 : RCode := .loop F35.c5
def F35.c3 : RCode := .block 0 F35.c4
def F35.c2 : RCode := .seq (.reg F35.r1) F35.c3
def F35.r6 : List ROper :=
 ⟨some 22,.rd (.mv (.t 1)),none⟩::
 ⟨some 23,.rd (.len 1 (.t 22)),none⟩::
 ⟨some 24,.rd (.bin .leq (.t 23) (.c (.int .i64 512))),none⟩::
 ⟨some 6,.rd (.mv (.t 24)),none⟩::
  []
def F35.c13 : RCode := .seq (.reg F35.r6) .ret
def F35.c1 : RCode := .seq F35.c2 F35.c13
def F35.c0 : RCode := .seq (.reg F35.r0) F35.c1
theorem F35.calls {args : List AV} {h : AHeap} {K : AV → AHeap → Prop} (hn : args.length ≤ 25) (k : wT .go Go.Proofs.Try.prog 25 F35.c0 (fun x e h t => atEndT t [.tmp 6] (EndW K) x e h) (envOf 0 args) h) : ACalls Go.Proofs.Try.prog 35 args h K :=
  acallsT [] [] 25 Go.Proofs.Try.func35 Go.Proofs.Try.ntmps35 (by kernel_rfl) (by kernel_rfl) hn k
/-- pantograph/pantographref07.Stmt -/
def F70.r0 : List ROper :=
 ⟨some 4,.rd (.bx none (.t 1)),none⟩::
 ⟨some 6,.rd (.mv (.c (.bool false))),none⟩::
  []
def F70.r1 : List ROper :=
 ⟨some 10,.rd (.mv (.t 2)),none⟩::
 ⟨some 11,.rd (.bin .gtr (.t 10) (.c (.int .i64 48))),none⟩::
 ⟨some 12,.rd (.mv (.t 11)),none⟩::
 ⟨some 13,.rd (.fa 0 (.t 4)),some (12,false)⟩::
 ⟨some 14,.rd (.load (some 2) (.t 13)),some (12,false)⟩::
 ⟨some 15,.ef (.call 32 [(.t 14)]),some (12,false)⟩::
 ⟨some 16,.rd (.un .not (.t 15)),some (12,false)⟩::
 ⟨some 17,.rd (.pick (.t 12) (.c (.bool true)) (.t 16)),none⟩::
 ⟨some 18,.rd (.mv (.t 17)),none⟩::
 ⟨some 19,.rd (.fa 14 (.t 4)),some (18,false)⟩::
 ⟨some 20,.rd (.load none (.t 19)),some (18,false)⟩::
 ⟨some 21,.ef (.call 31 [(.t 20)]),some (18,false)⟩::
 ⟨some 22,.rd (.un .not (.t 21)),some (18,false)⟩::
 ⟨some 23,.rd (.pick (.t 18) (.c (.bool true)) (.t 22)),none⟩::
 ⟨some 24,.rd (.mv (.t 23)),none⟩::
 ⟨some 25,.rd (.fa 15 (.t 4)),some (24,false)⟩::
 ⟨some 26,.rd (.load none (.t 25)),some (24,false)⟩::
 ⟨some 27,.ef (.call 31 [(.t 26)]),some (24,false)⟩::
 ⟨some 28,.rd (.un .not (.t 27)),some (24,false)⟩::
 ⟨some 29,.rd (.pick (.t 24) (.c (.bool true)) (.t 28)),none⟩::
 ⟨some 30,.rd (.mv (.t 29)),none⟩::
 ⟨some 31,.rd (.fa 2 (.t 4)),some (30,false)⟩::
 ⟨some 32,.rd (.load none (.t 31)),some (30,false)⟩::
 ⟨some 33,.rd (.bin .lss (.t 32) (.c (.int .i64 1))),some (30,false)⟩::
 ⟨some 34,.rd (.pick (.t 30) (.c (.bool true)) (.t 33)),none⟩::
 ⟨some 35,.rd (.mv (.t 34)),none⟩::
 ⟨some 36,.rd (.fa 2 (.t 4)),some (35,false)⟩::
 ⟨some 37,.rd (.load none (.t 36)),some (35,false)⟩::
 ⟨some 38,.rd (.bin .gtr (.t 37) (.c (.int .i64 9))),some (35,false)⟩::
 ⟨some 39,.rd (.pick (.t 35) (.c (.bool true)) (.t 38)),none⟩::
  []
def F70.r2 : List ROper :=
 ⟨some 6,.rd (.mv (.c (.bool false))),none⟩::
  []
def F70.c4 : RCode := .seq (.reg F70.r2) .ret
def F70.c3 : RCode := .cond (.t 39) F70.c4 .skip
def F70.c2 : RCode := .seq (.reg F70.r1) F70.c3
def F70.r3 : List ROper :=
 ⟨some 7,.rd (.mv (.c (.int .i64 1))),none⟩::
 ⟨some 8,.rd (.mv (.c (.int .i64 1))),none⟩::
  []
def F70.r4 : List ROper :=
 ⟨some 40,.rd (.fa 2 (.t 4)),none⟩::
 ⟨some 41,.rd (.load none (.t 40)),none⟩::
  []
def F70.r5 : List ROper :=
 ⟨some 43,.rd (.bin .eql (.t 41) (.c (.int .i64 6))),none⟩::
 ⟨some 42,.rd (.mv (.t 43)),none⟩::
  []
def F70.r6 : List ROper :=
 ⟨some 7,.rd (.mv (.c (.int .i64 2))),none⟩::
 ⟨some 8,.rd (.mv (.c (.int .i64 2))),none⟩::
  []
def F70.r7 : List ROper :=
 ⟨some 45,.rd (.bin .eql (.t 41) (.c (.int .i64 7))),none⟩::
 ⟨some 44,.rd (.mv (.t 45)),none⟩::
  []
def F70.r8 : List ROper :=
 ⟨some 7,.rd (.mv (.c (.int .i64 0))),none⟩::
 ⟨some 8,.rd (.mv (.c (.int .i64 0))),none⟩::
  []
def F70.r9 : List ROper :=
 ⟨some 47,.rd (.bin .eql (.t 41) (.c (.int .i64 9))),none⟩::
 ⟨some 46,.rd (.mv (.t 47)),none⟩::
  []
def F70.r10 : List ROper :=
 ⟨some 7,.rd (.mv (.c (.int .i64 0))),none⟩::
  []
def F70.c14 : RCode := .cond (.t 46) (.reg F70.r10) .skip
def F70.c13 : RCode := .seq (.reg F70.r9) F70.c14
def F70.c12 : RCode := .cond (.t 44) (.reg F70.r8) F70.c13
def F70.c11 : RCode := .seq (.reg F70.r7) F70.c12
def F70.c10 : RCode := .cond (.t 42) (.reg F70.r6) F70.c11
def F70.c9 : RCode := .seq (.reg F70.r5) F70.c10
def F70.c8 : RCode := .block 0 F70.c9
def F70.c7 : RCode := .seq (.reg F70.r4) F70.c8
def F70.r11 : List ROper :=
 ⟨some 48,.rd (.fa 9 (.t 4)),none⟩::
 ⟨some 49,.rd (.load none (.t 48)),none⟩::
 ⟨some 50,.rd (.len 1 (.t 49)),none⟩::
 ⟨some 51,.rd (.mv (.t 7)),none⟩::
 ⟨some 52,.rd (.bin .lss (.t 50) (.t 51)),none⟩::
 ⟨some 53,.rd (.mv (.t 52)),none⟩::
 ⟨some 54,.rd (.fa 9 (.t 4)),some (53,false)⟩::
 ⟨some 55,.rd (.load none (.t 54)),some (53,false)⟩::
 ⟨some 56,.rd (.len 1 (.t 55)),some (53,false)⟩::
 ⟨some 57,.rd (.mv (.t 8)),some (53,false)⟩::
 ⟨some 58,.rd (.bin .gtr (.t 56) (.t 57)),some (53,false)⟩::
 ⟨some 59,.rd (.pick (.t 53) (.c (.bool true)) (.t 58)),none⟩::
  []
def F70.r12 : List ROper :=
 ⟨some 6,.rd (.mv (.c (.bool false))),none⟩::
  []
def F70.c18 : RCode := .seq (.reg F70.r12) .ret
def F70.c17 : RCode := .cond (.t 59) F70.c18 .skip
def F70.c16 : RCode := .seq (.reg F70.r11) F70.c17
def F70.r13 : List ROper :=
 ⟨some 9,.rd (.mv (.c (.int .i64 0))),none⟩::
  []
def F70.r14 : List ROper :=
 ⟨some 60,.rd (.mv (.t 9)),none⟩::
 ⟨some 61,.rd (.fa 9 (.t 4)),none⟩::
 ⟨some 62,.rd (.load none (.t 61)),none⟩::
 ⟨some 63,.rd (.len 1 (.t 62)),none⟩::
 ⟨some 64,.rd (.bin .lss (.t 60) (.t 63)),none⟩::
  []
def F70.c25 : RCode := .cond (.t 64) .skip (.exit 1)
def F70.c24 : RCode := .seq (.reg F70.r14) F70.c25
def F70.r15 : List ROper :=
 ⟨some 67,.rd (.mv (.t 0)),none⟩::
 ⟨some 68,.rd (.fa 9 (.t 4)),none⟩::
 ⟨some 69,.rd (.load none (.t 68)),none⟩::
 ⟨some 70,.rd (.mv (.t 9)),none⟩::
 ⟨some 71,.rd (.ia 5 (.t 69) (.t 70)),none⟩::
 ⟨some 72,.rd (.load (some 5) (.t 71)),none⟩::
 ⟨some 73,.ef (.call 87 [(.t 67),(.t 72)]),none⟩::
 ⟨some 74,.rd (.un .not (.t 73)),none⟩::
 ⟨some 75,.rd (.mv (.t 74)),none⟩::
 ⟨some 76,.rd (.fa 2 (.t 4)),some (75,false)⟩::
 ⟨some 77,.rd (.load none (.t 76)),some (75,false)⟩::
 ⟨some 78,.rd (.bin .eql (.t 77) (.c (.int .i64 2))),some (75,false)⟩::
 ⟨some 79,.rd (.mv (.t 78)),some (75,false)⟩::
 ⟨some 80,.rd (.fa 9 (.t 4)),some (79,true)⟩::
 ⟨some 81,.rd (.load none (.t 80)),some (79,true)⟩::
 ⟨some 82,.rd (.mv (.t 9)),some (79,true)⟩::
 ⟨some 83,.rd (.ia 5 (.t 81) (.t 82)),some (79,true)⟩::
 ⟨some 84,.rd (.fa 0 (.t 83)),some (79,true)⟩::
 ⟨some 85,.rd (.load none (.t 84)),some (79,true)⟩::
 ⟨some 86,.rd (.bin .neq (.t 85) (.c (.int .i64 7))),some (79,true)⟩::
 ⟨some 87,.rd (.pick (.t 79) (.t 86) (.c (.bool false))),some (75,false)⟩::
 ⟨some 88,.rd (.pick (.t 75) (.c (.bool true)) (.t 87)),none⟩::
  []
def F70.r16 : List ROper :=
 ⟨some 6,.rd (.mv (.c (.bool false))),none⟩::
  []
def F70.c30 : RCode := .seq (.reg F70.r16) .ret
def F70.c29 : RCode := .cond (.t 88) F70.c30 .skip
def F70.c28 : RCode := .seq (.reg F70.r15) F70.c29
def F70.c27 : RCode := .block 2 F70.c28
def F70.r17 : List ROper :=
 ⟨some 65,.rd (.mv (.t 9)),none⟩::
 ⟨some 66,.rd (.bin .add (.t 65) (.c (.int .i64 1))),none⟩::
 ⟨some 9,.rd (.mv (.t 66)),none⟩::
  []
def F70.c26 : RCode := .seq F70.c27 (.reg F70.r17)
def F70.c23 : RCode := .seq F70.c24 F70.c26
def F70.c22 : RCode := .loop F70.c23
def F70.c21 : RCode := .block 1 F70.c22
def F70.c20 : RCode := .seq (.reg F70.r13) F70.c21
def F70.r18 : List ROper :=
 ⟨some 89,.rd (.fa 2 (.t 4)),none⟩::
 ⟨some 90,.rd (.load none (.t 89)),none⟩::
 ⟨some 91,.rd (.bin .eql (.t 90) (.c (.int .i64 1))),none⟩::
 ⟨some 92,.rd (.mv (.t 91)),none⟩::
 ⟨some 93,.rd (.fa 2 (.t 4)),some (92,false)⟩::
 ⟨some 94,.rd (.load none (.t 93)),some (92,false)⟩::
 ⟨some 95,.rd (.bin .eql (.t 94) (.c (.int .i64 7))),some (92,false)⟩::
 ⟨some 96,.rd (.pick (.t 92) (.c (.bool true)) (.t 95)),none⟩::
  []
def F70.r19 : List ROper :=
 ⟨some 97,.rd (.mv (.t 0)),none⟩::
 ⟨some 98,.rd (.fa 4 (.t 4)),none⟩::
 ⟨some 99,.rd (.load (some 5) (.t 98)),none⟩::
 ⟨some 100,.ef (.call 88 [(.t 97),(.t 99)]),none⟩::
 ⟨some 101,.rd (.un .not (.t 100)),none⟩::
  []
def F70.r20 : List ROper :=
 ⟨some 6,.rd (.mv (.c (.bool false))),none⟩::
  []
def F70.c36 : RCode := .seq (.reg F70.r20) .ret
def F70.c35 : RCode := .cond (.t 101) F70.c36 .skip
def F70.c34 : RCode := .seq (.reg F70.r19) F70.c35
def F70.r21 : List ROper :=
 ⟨some 102,.rd (.fa 4 (.t 4)),none⟩::
 ⟨some 103,.rd (.load (some 5) (.t 102)),none⟩::
 ⟨some 104,.ef (.call 89 [(.t 103)]),none⟩::
 ⟨some 105,.rd (.un .not (.t 104)),none⟩::
  []
def F70.r22 : List ROper :=
 ⟨some 6,.rd (.mv (.c (.bool false))),none⟩::
  []
def F70.c39 : RCode := .seq (.reg F70.r22) .ret
def F70.c38 : RCode := .cond (.t 105) F70.c39 .skip
def F70.c37 : RCode := .seq (.reg F70.r21) F70.c38
def F70.c33 : RCode := .cond (.t 96) F70.c34 F70.c37
def F70.c32 : RCode := .seq (.reg F70.r18) F70.c33
def F70.r23 : List ROper :=
 ⟨some 106,.rd (.fa 2 (.t 4)),none⟩::
 ⟨some 107,.rd (.load none (.t 106)),none⟩::
 ⟨some 108,.rd (.bin .eql (.t 107) (.c (.int .i64 6))),none⟩::
  []
def F70.r24 : List ROper :=
 ⟨some 109,.rd (.mv (.t 0)),none⟩::
 ⟨some 110,.rd (.fa 3 (.t 4)),none⟩::
 ⟨some 111,.rd (.load none (.t 110)),none⟩::
 ⟨some 112,.ef (.call 30 [(.t 109),(.t 111)]),none⟩::
 ⟨some 113,.rd (.un .not (.t 112)),none⟩::
  []
def F70.r25 : List ROper :=
 ⟨some 6,.rd (.mv (.c (.bool false))),none⟩::
  []
def F70.c45 : RCode := .seq (.reg F70.r25) .ret
def F70.c44 : RCode := .cond (.t 113) F70.c45 .skip
def F70.c43 : RCode := .seq (.reg F70.r24) F70.c44
def F70.r26 : List ROper :=
 ⟨some 114,.rd (.fa 3 (.t 4)),none⟩::
 ⟨some 115,.rd (.load none (.t 114)),none⟩::
 ⟨some 116,.rd (.bin .neq (.t 115) (.c (.str (⟨#[]⟩ : ByteArray)))),none⟩::
 ⟨some 117,.rd (.mv (.t 116)),none⟩::
 ⟨some 118,.rd (.fa 10 (.t 4)),some (117,false)⟩::
 ⟨some 119,.rd (.load none (.t 118)),some (117,false)⟩::
 ⟨some 120,.rd (.pick (.t 117) (.c (.bool true)) (.t 119)),none⟩::
  []
def F70.r27 : List ROper :=
 ⟨some 6,.rd (.mv (.c (.bool false))),none⟩::
  []
def F70.c48 : RCode := .seq (.reg F70.r27) .ret
def F70.c47 : RCode := .cond (.t 120) F70.c48 .skip
def F70.c46 : RCode := .seq (.reg F70.r26) F70.c47
def F70.c42 : RCode := .cond (.t 108) F70.c43 F70.c46
def F70.c41 : RCode := .seq (.reg F70.r23) F70.c42
def F70.r28 : List ROper :=
 ⟨some 121,.rd (.fa 11 (.t 4)),none⟩::
 ⟨some 122,.rd (.load none (.t 121)),none⟩::
 ⟨some 123,.rd (.mv (.t 122)),none⟩::
 ⟨some 124,.rd (.fa 2 (.t 4)),some (123,true)⟩::
 ⟨some 125,.rd (.load none (.t 124)),some (123,true)⟩::
 ⟨some 126,.rd (.bin .neq (.t 125) (.c (.int .i64 3))),some (123,true)⟩::
 ⟨some 127,.rd (.pick (.t 123) (.t 126) (.c (.bool false))),none⟩::
 ⟨some 128,.rd (.mv (.t 127)),none⟩::
 ⟨some 129,.rd (.fa 11 (.t 4)),some (128,false)⟩::
 ⟨some 130,.rd (.load none (.t 129)),some (128,false)⟩::
 ⟨some 131,.rd (.un .not (.t 130)),some (128,false)⟩::
 ⟨some 132,.rd (.mv (.t 131)),some (128,false)⟩::
 ⟨some 133,.rd (.fa 13 (.t 4)),some (132,true)⟩::
 ⟨some 134,.rd (.load none (.t 133)),some (132,true)⟩::
 ⟨some 135,.rd (.len 1 (.t 134)),some (132,true)⟩::
 ⟨some 136,.rd (.bin .gtr (.t 135) (.c (.int .i64 0))),some (132,true)⟩::
 ⟨some 137,.rd (.mv (.t 136)),some (132,true)⟩::
 ⟨some 138,.rd (.fa 15 (.t 4)),some (137,false)⟩::
 ⟨some 139,.rd (.load none (.t 138)),some (137,false)⟩::
 ⟨some 140,.rd (.len 1 (.t 139)),some (137,false)⟩::
 ⟨some 141,.rd (.bin .gtr (.t 140) (.c (.int .i64 0))),some (137,false)⟩::
 ⟨some 142,.rd (.pick (.t 137) (.c (.bool true)) (.t 141)),some (132,true)⟩::
 ⟨some 143,.rd (.pick (.t 132) (.t 142) (.c (.bool false))),some (128,false)⟩::
 ⟨some 144,.rd (.pick (.t 128) (.c (.bool true)) (.t 143)),none⟩::
  []
def F70.r29 : List ROper :=
 ⟨some 6,.rd (.mv (.c (.bool false))),none⟩::
  []
def F70.c52 : RCode := .seq (.reg F70.r29) .ret
def F70.c51 : RCode := .cond (.t 144) F70.c52 .skip
def F70.c50 : RCode := .seq (.reg F70.r28) F70.c51
def F70.r30 : List ROper :=
 ⟨some 145,.rd (.fa 2 (.t 4)),none⟩::
 ⟨some 146,.rd (.load none (.t 145)),none⟩::
 ⟨some 147,.rd (.bin .lss (.t 146) (.c (.int .i64 3))),none⟩::
 ⟨some 148,.rd (.mv (.t 147)),none⟩::
 ⟨some 149,.rd (.fa 2 (.t 4)),some (148,false)⟩::
 ⟨some 150,.rd (.load none (.t 149)),some (148,false)⟩::
 ⟨some 151,.rd (.bin .gtr (.t 150) (.c (.int .i64 6))),some (148,false)⟩::
 ⟨some 152,.rd (.pick (.t 148) (.c (.bool true)) (.t 151)),none⟩::
 ⟨some 153,.rd (.mv (.t 152)),none⟩::
 ⟨some 154,.rd (.fa 12 (.t 4)),some (153,true)⟩::
 ⟨some 155,.rd (.load none (.t 154)),some (153,true)⟩::
 ⟨some 156,.rd (.len 1 (.t 155)),some (153,true)⟩::
 ⟨some 157,.rd (.bin .gtr (.t 156) (.c (.int .i64 0))),some (153,true)⟩::
 ⟨some 158,.rd (.mv (.t 157)),some (153,true)⟩::
 ⟨some 159,.rd (.fa 14 (.t 4)),some (158,false)⟩::
 ⟨some 160,.rd (.load none (.t 159)),some (158,false)⟩::
 ⟨some 161,.rd (.len 1 (.t 160)),some (158,false)⟩::
 ⟨some 162,.rd (.bin .gtr (.t 161) (.c (.int .i64 0))),some (158,false)⟩::
 ⟨some 163,.rd (.pick (.t 158) (.c (.bool true)) (.t 162)),some (153,true)⟩::
 ⟨some 164,.rd (.pick (.t 153) (.t 163) (.c (.bool false))),none⟩::
  []
def F70.r31 : List ROper :=
 ⟨some 6,.rd (.mv (.c (.bool false))),none⟩::
  []
def F70.c56 : RCode := .seq (.reg F70.r31) .ret
def F70.c55 : RCode := .cond (.t 164) F70.c56 .skip
def F70.c54 : RCode := .seq (.reg F70.r30) F70.c55
def F70.r32 : List ROper :=
 ⟨some 165,.rd (.mv (.t 0)),none⟩::
 ⟨some 166,.rd (.fa 12 (.t 4)),none⟩::
 ⟨some 167,.rd (.load none (.t 166)),none⟩::
 ⟨some 168,.rd (.mv (.t 2)),none⟩::
 ⟨some 169,.rd (.bin .add (.t 168) (.c (.int .i64 1))),none⟩::
 ⟨some 170,.ef (.call 35 [(.t 165),(.t 167),(.t 169)]),none⟩::
 ⟨some 171,.rd (.mv (.t 170)),none⟩::
 ⟨some 172,.rd (.mv (.t 0)),some (171,true)⟩::
 ⟨some 173,.rd (.fa 13 (.t 4)),some (171,true)⟩::
 ⟨some 174,.rd (.load none (.t 173)),some (171,true)⟩::
 ⟨some 175,.rd (.mv (.t 2)),some (171,true)⟩::
 ⟨some 176,.rd (.bin .add (.t 175) (.c (.int .i64 1))),some (171,true)⟩::
 ⟨some 177,.ef (.call 35 [(.t 172),(.t 174),(.t 176)]),some (171,true)⟩::
 ⟨some 178,.rd (.pick (.t 171) (.t 177) (.c (.bool false))),none⟩::
 ⟨some 6,.rd (.mv (.t 178)),none⟩::
  []
def F70.c57 : RCode := .seq (.reg F70.r32) .ret
def F70.c53 : RCode := .seq F70.c54 F70.c57
def F70.c49 : RCode := .seq F70.c50 F70.c53
def F70.c40 : RCode := .seq F70.c41 F70.c49
def F70.c31 : RCode := .seq F70.c32 F70.c40
def F70.c19 : RCode := .seq F70.c20 F70.c31
def F70.c15 : RCode := .seq F70.c16 F70.c19
def F70.c6 : RCode := .seq F70.c7 F70.c15
def F70.c5 : RCode := .seq (.reg F70.r3) F70.c6
def F70.c1 : RCode := .seq F70.c2 F70.c5
def F70.c0 : RCode := .seq (.reg F70.r0) F70.c1
theorem F70.calls {args : List AV} {h : AHeap} {K : AV → AHeap → Prop} (hn : args.length ≤ 179) (k : wT .go Go.Proofs.Try.prog 179 F70.c0 (fun x e h t => atEndT t [.tmp 6] (EndW K) x e h) (envOf 0 args) h) : ACalls Go.Proofs.Try.prog 70 args h K :=
  acallsT [4] [] 179 Go.Proofs.Try.func70 Go.Proofs.Try.ntmps70 (by kernel_rfl) (by kernel_rfl) hn k
/-- pantograph/pantographref07.Expr -/
def F87.r0 : List ROper :=
 ⟨some 3,.rd (.bx none (.t 1)),none⟩::
 ⟨some 4,.rd (.mv (.c (.bool false))),none⟩::
  []
def F87.r1 : List ROper :=
 ⟨some 5,.rd (.mv (.t 0)),none⟩::
 ⟨some 6,.rd (.bin .neq (.t 5) (.c (.int .i64 0))),none⟩::
 ⟨some 7,.rd (.mv (.t 6)),none⟩::
 ⟨some 8,.rd (.mv (.t 0)),some (7,true)⟩::
 ⟨some 9,.rd (.bin .neq (.t 8) (.c (.int .i64 1))),some (7,true)⟩::
 ⟨some 10,.rd (.pick (.t 7) (.t 9) (.c (.bool false))),none⟩::
  []
def F87.r2 : List ROper :=
 ⟨some 4,.rd (.mv (.c (.bool false))),none⟩::
  []
def F87.c4 : RCode := .seq (.reg F87.r2) .ret
def F87.c3 : RCode := .cond (.t 10) F87.c4 .skip
def F87.c2 : RCode := .seq (.reg F87.r1) F87.c3
def F87.r3 : List ROper :=
 ⟨some 11,.rd (.mv (.t 0)),none⟩::
 ⟨some 12,.rd (.load (some 5) (.t 3)),none⟩::
 ⟨some 13,.ef (.call 105 [(.t 11),(.t 12),(.c (.int .i64 48))]),none⟩::
 ⟨some 14,.rd (.mv (.t 13)),none⟩::
 ⟨some 15,.rd (.load (some 5) (.t 3)),some (14,true)⟩::
 ⟨some 16,.ef (.call 106 [(.t 15),(.c (.int .i64 99))]),some (14,true)⟩::
 ⟨some 17,.rd (.bin .leq (.t 16) (.c (.int .i64 48))),some (14,true)⟩::
 ⟨some 18,.rd (.pick (.t 14) (.t 17) (.c (.bool false))),none⟩::
 ⟨some 4,.rd (.mv (.t 18)),none⟩::
  []
def F87.c5 : RCode := .seq (.reg F87.r3) .ret
def F87.c1 : RCode := .seq F87.c2 F87.c5
def F87.c0 : RCode := .seq (.reg F87.r0) F87.c1
theorem F87.calls {args : List AV} {h : AHeap} {K : AV → AHeap → Prop} (hn : args.length ≤ 19) (k : wT .go Go.Proofs.Try.prog 19 F87.c0 (fun x e h t => atEndT t [.tmp 4] (EndW K) x e h) (envOf 0 args) h) : ACalls Go.Proofs.Try.prog 87 args h K :=
  acallsT [3] [] 19 Go.Proofs.Try.func87 Go.Proofs.Try.ntmps87 (by kernel_rfl) (by kernel_rfl) hn k
/-- pantograph/pantographref07.form -/
def F105.r0 : List ROper :=
 ⟨some 4,.rd (.bx none (.t 1)),none⟩::
 ⟨some 6,.rd (.mv (.c (.bool false))),none⟩::
  []
def F105.r1 : List ROper :=
 ⟨some 14,.rd (.mv (.t 2)),none⟩::
 ⟨some 15,.rd (.bin .eql (.t 14) (.c (.int .i64 0))),none⟩::
 ⟨some 16,.rd (.mv (.t 15)),none⟩::
 ⟨some 17,.rd (.fa 4 (.t 4)),some (16,false)⟩::
 ⟨some 18,.rd (.load none (.t 17)),some (16,false)⟩::
 ⟨some 19,.rd (.len 1 (.t 18)),some (16,false)⟩::
 ⟨some 20,.rd (.bin .gtr (.t 19) (.c (.int .i64 512))),some (16,false)⟩::
 ⟨some 21,.rd (.pick (.t 16) (.c (.bool true)) (.t 20)),none⟩::
  []
def F105.r2 : List ROper :=
 ⟨some 6,.rd (.mv (.c (.bool false))),none⟩::
  []
def F105.c4 : RCode := .seq (.reg F105.r2) .ret
def F105.c3 : RCode := .cond (.t 21) F105.c4 .skip
def F105.c2 : RCode := .seq (.reg F105.r1) F105.c3
def F105.r3 : List ROper :=
 ⟨some 7,.rd (.mv (.c (.int .i64 0))),none⟩::
  []
def F105.r4 : List ROper :=
 ⟨some 22,.rd (.fa 1 (.t 4)),none⟩::
 ⟨some 23,.rd (.load none (.t 22)),none⟩::
 ⟨some 24,.rd (.bin .eql (.t 23) (.c (.int .i64 0))),none⟩::
 ⟨some 25,.rd (.fa 2 (.t 4)),none⟩::
 ⟨some 26,.rd (.load none (.t 25)),none⟩::
 ⟨some 27,.rd (.bin .eql (.t 26) (.c (.str (⟨#[]⟩ : ByteArray)))),none⟩::
 ⟨some 28,.rd (.fa 3 (.t 4)),none⟩::
 ⟨some 29,.rd (.load none (.t 28)),none⟩::
 ⟨some 30,.rd (.bin .eql (.t 29) (.c (.str (⟨#[]⟩ : ByteArray)))),none⟩::
 ⟨some 8,.rd (.mv (.t 24)),none⟩::
 ⟨some 9,.rd (.mv (.t 27)),none⟩::
 ⟨some 10,.rd (.mv (.t 30)),none⟩::
  []
def F105.r5 : List ROper :=
 ⟨some 31,.rd (.fa 0 (.t 4)),none⟩::
 ⟨some 32,.rd (.load none (.t 31)),none⟩::
  []
def F105.r6 : List ROper :=
 ⟨some 34,.rd (.bin .eql (.t 32) (.c (.int .i64 1))),none⟩::
 ⟨some 33,.rd (.mv (.t 34)),none⟩::
  []
def F105.r7 : List ROper :=
 ⟨some 35,.rd (.fa 1 (.t 4)),none⟩::
 ⟨some 36,.rd (.load none (.t 35)),none⟩::
 ⟨some 37,.rd (.bin .geq (.t 36) (.c (.int .i64 0))),none⟩::
 ⟨some 8,.rd (.mv (.t 37)),none⟩::
  []
def F105.r8 : List ROper :=
 ⟨some 39,.rd (.bin .eql (.t 32) (.c (.int .i64 2))),none⟩::
 ⟨some 38,.rd (.mv (.t 39)),none⟩::
  []
def F105.r9 : List ROper :=
 ⟨some 40,.rd (.fa 1 (.t 4)),none⟩::
 ⟨some 41,.rd (.load none (.t 40)),none⟩::
 ⟨some 42,.rd (.bin .eql (.t 41) (.c (.int .i64 0))),none⟩::
 ⟨some 43,.rd (.mv (.t 42)),none⟩::
 ⟨some 44,.rd (.fa 1 (.t 4)),some (43,false)⟩::
 ⟨some 45,.rd (.load none (.t 44)),some (43,false)⟩::
 ⟨some 46,.rd (.bin .eql (.t 45) (.c (.int .i64 1))),some (43,false)⟩::
 ⟨some 47,.rd (.pick (.t 43) (.c (.bool true)) (.t 46)),none⟩::
 ⟨some 8,.rd (.mv (.t 47)),none⟩::
  []
def F105.r10 : List ROper :=
 ⟨some 49,.rd (.bin .eql (.t 32) (.c (.int .i64 3))),none⟩::
 ⟨some 48,.rd (.mv (.t 49)),none⟩::
  []
def F105.r11 : List ROper :=
 ⟨some 50,.rd (.fa 1 (.t 4)),none⟩::
 ⟨some 51,.rd (.load none (.t 50)),none⟩::
 ⟨some 52,.rd (.bin .geq (.t 51) (.c (.int .i64 0))),none⟩::
 ⟨some 53,.rd (.mv (.t 52)),none⟩::
 ⟨some 54,.rd (.fa 1 (.t 4)),some (53,true)⟩::
 ⟨some 55,.rd (.load none (.t 54)),some (53,true)⟩::
 ⟨some 56,.rd (.bin .leq (.t 55) (.c (.int .i64 255))),some (53,true)⟩::
 ⟨some 57,.rd (.pick (.t 53) (.t 56) (.c (.bool false))),none⟩::
 ⟨some 8,.rd (.mv (.t 57)),none⟩::
  []
def F105.r12 : List ROper :=
 ⟨some 59,.rd (.bin .eql (.t 32) (.c (.int .i64 4))),none⟩::
 ⟨some 58,.rd (.mv (.t 59)),none⟩::
  []
def F105.r13 : List ROper :=
 ⟨some 60,.rd (.mv (.t 0)),none⟩::
 ⟨some 61,.rd (.fa 2 (.t 4)),none⟩::
 ⟨some 62,.rd (.load none (.t 61)),none⟩::
 ⟨some 63,.ef (.call 30 [(.t 60),(.t 62)]),none⟩::
 ⟨some 9,.rd (.mv (.t 63)),none⟩::
  []
def F105.r14 : List ROper :=
 ⟨some 65,.rd (.bin .eql (.t 32) (.c (.int .i64 5))),none⟩::
 ⟨some 64,.rd (.mv (.t 65)),none⟩::
  []
def F105.r15 : List ROper :=
 ⟨some 66,.rd (.mv (.t 0)),none⟩::
 ⟨some 67,.rd (.fa 2 (.t 4)),none⟩::
 ⟨some 68,.rd (.load none (.t 67)),none⟩::
 ⟨some 69,.ef (.call 30 [(.t 66),(.t 68)]),none⟩::
 ⟨some 9,.rd (.mv (.t 69)),none⟩::
  []
def F105.r16 : List ROper :=
 ⟨some 7,.rd (.mv (.c (.int .i64 1))),none⟩::
  []
def F105.c20 : RCode := .seq (.reg F105.r15) (.reg F105.r16)
def F105.r17 : List ROper :=
 ⟨some 71,.rd (.bin .eql (.t 32) (.c (.int .i64 6))),none⟩::
 ⟨some 70,.rd (.mv (.t 71)),none⟩::
  []
def F105.r18 : List ROper :=
 ⟨some 72,.rd (.mv (.t 0)),none⟩::
 ⟨some 73,.rd (.fa 2 (.t 4)),none⟩::
 ⟨some 74,.rd (.load none (.t 73)),none⟩::
 ⟨some 75,.ef (.call 30 [(.t 72),(.t 74)]),none⟩::
 ⟨some 9,.rd (.mv (.t 75)),none⟩::
  []
def F105.r19 : List ROper :=
 ⟨some 76,.rd (.mv (.t 0)),none⟩::
 ⟨some 77,.rd (.fa 3 (.t 4)),none⟩::
 ⟨some 78,.rd (.load none (.t 77)),none⟩::
 ⟨some 79,.ef (.call 30 [(.t 76),(.t 78)]),none⟩::
 ⟨some 10,.rd (.mv (.t 79)),none⟩::
  []
def F105.c23 : RCode := .seq (.reg F105.r18) (.reg F105.r19)
def F105.r20 : List ROper :=
 ⟨some 81,.rd (.bin .eql (.t 32) (.c (.int .i64 7))),none⟩::
 ⟨some 80,.rd (.mv (.t 81)),none⟩::
  []
def F105.r21 : List ROper :=
 ⟨some 82,.rd (.mv (.t 0)),none⟩::
 ⟨some 83,.rd (.fa 2 (.t 4)),none⟩::
 ⟨some 84,.rd (.load none (.t 83)),none⟩::
 ⟨some 85,.ef (.call 68 [(.t 82),(.t 84)]),none⟩::
 ⟨some 9,.rd (.mv (.t 85)),none⟩::
  []
def F105.r22 : List ROper :=
 ⟨some 86,.rd (.fa 4 (.t 4)),none⟩::
 ⟨some 87,.rd (.load none (.t 86)),none⟩::
 ⟨some 88,.rd (.len 1 (.t 87)),none⟩::
 ⟨some 7,.rd (.mv (.t 88)),none⟩::
  []
def F105.c26 : RCode := .seq (.reg F105.r21) (.reg F105.r22)
def F105.r23 : List ROper :=
 ⟨some 90,.rd (.bin .eql (.t 32) (.c (.int .i64 8))),none⟩::
 ⟨some 89,.rd (.mv (.t 90)),none⟩::
  []
def F105.r24 : List ROper :=
 ⟨some 91,.rd (.bin .eql (.t 32) (.c (.int .i64 9))),none⟩::
 ⟨some 89,.rd (.mv (.t 91)),none⟩::
  []
def F105.c29 : RCode := .cond (.t 89) .skip (.reg F105.r24)
def F105.c28 : RCode := .seq (.reg F105.r23) F105.c29
def F105.r25 : List ROper :=
 ⟨some 7,.rd (.mv (.c (.int .i64 1))),none⟩::
  []
def F105.r26 : List ROper :=
 ⟨some 93,.rd (.bin .eql (.t 32) (.c (.int .i64 10))),none⟩::
 ⟨some 92,.rd (.mv (.t 93)),none⟩::
  []
def F105.r27 : List ROper :=
 ⟨some 94,.rd (.bin .eql (.t 32) (.c (.int .i64 11))),none⟩::
 ⟨some 92,.rd (.mv (.t 94)),none⟩::
  []
def F105.r28 : List ROper :=
 ⟨some 95,.rd (.bin .eql (.t 32) (.c (.int .i64 12))),none⟩::
 ⟨some 92,.rd (.mv (.t 95)),none⟩::
  []
def F105.r29 : List ROper :=
 ⟨some 96,.rd (.bin .eql (.t 32) (.c (.int .i64 13))),none⟩::
 ⟨some 92,.rd (.mv (.t 96)),none⟩::
  []
def F105.r30 : List ROper :=
 ⟨some 97,.rd (.bin .eql (.t 32) (.c (.int .i64 14))),none⟩::
 ⟨some 92,.rd (.mv (.t 97)),none⟩::
  []
def F105.r31 : List ROper :=
 ⟨some 98,.rd (.bin .eql (.t 32) (.c (.int .i64 15))),none⟩::
 ⟨some 92,.rd (.mv (.t 98)),none⟩::
  []
def F105.r32 : List ROper :=
 ⟨some 99,.rd (.bin .eql (.t 32) (.c (.int .i64 16))),none⟩::
 ⟨some 92,.rd (.mv (.t 99)),none⟩::
  []
def F105.r33 : List ROper :=
 ⟨some 100,.rd (.bin .eql (.t 32) (.c (.int .i64 17))),none⟩::
 ⟨some 92,.rd (.mv (.t 100)),none⟩::
  []
def F105.r34 : List ROper :=
 ⟨some 101,.rd (.bin .eql (.t 32) (.c (.int .i64 18))),none⟩::
 ⟨some 92,.rd (.mv (.t 101)),none⟩::
  []
def F105.r35 : List ROper :=
 ⟨some 102,.rd (.bin .eql (.t 32) (.c (.int .i64 19))),none⟩::
 ⟨some 92,.rd (.mv (.t 102)),none⟩::
  []
def F105.r36 : List ROper :=
 ⟨some 103,.rd (.bin .eql (.t 32) (.c (.int .i64 20))),none⟩::
 ⟨some 92,.rd (.mv (.t 103)),none⟩::
  []
def F105.r37 : List ROper :=
 ⟨some 104,.rd (.bin .eql (.t 32) (.c (.int .i64 21))),none⟩::
 ⟨some 92,.rd (.mv (.t 104)),none⟩::
  []
def F105.r38 : List ROper :=
 ⟨some 105,.rd (.bin .eql (.t 32) (.c (.int .i64 22))),none⟩::
 ⟨some 92,.rd (.mv (.t 105)),none⟩::
  []
def F105.r39 : List ROper :=
 ⟨some 106,.rd (.bin .eql (.t 32) (.c (.int .i64 23))),none⟩::
 ⟨some 92,.rd (.mv (.t 106)),none⟩::
  []
def F105.r40 : List ROper :=
 ⟨some 107,.rd (.bin .eql (.t 32) (.c (.int .i64 24))),none⟩::
 ⟨some 92,.rd (.mv (.t 107)),none⟩::
  []
def F105.c59 : RCode := .cond (.t 92) .skip (.reg F105.r40)
def F105.c58 : RCode := .seq (.reg F105.r39) F105.c59
def F105.c57 : RCode := .cond (.t 92) .skip F105.c58
def F105.c56 : RCode := .seq (.reg F105.r38) F105.c57
def F105.c55 : RCode := .cond (.t 92) .skip F105.c56
def F105.c54 : RCode := .seq (.reg F105.r37) F105.c55
def F105.c53 : RCode := .cond (.t 92) .skip F105.c54
def F105.c52 : RCode := .seq (.reg F105.r36) F105.c53
def F105.c51 : RCode := .cond (.t 92) .skip F105.c52
def F105.c50 : RCode := .seq (.reg F105.r35) F105.c51
def F105.c49 : RCode := .cond (.t 92) .skip F105.c50
def F105.c48 : RCode := .seq (.reg F105.r34) F105.c49
def F105.c47 : RCode := .cond (.t 92) .skip F105.c48
def F105.c46 : RCode := .seq (.reg F105.r33) F105.c47
def F105.c45 : RCode := .cond (.t 92) .skip F105.c46
def F105.c44 : RCode := .seq (.reg F105.r32) F105.c45
def F105.c43 : RCode := .cond (.t 92) .skip F105.c44
def F105.c42 : RCode := .seq (.reg F105.r31) F105.c43
def F105.c41 : RCode := .cond (.t 92) .skip F105.c42
def F105.c40 : RCode := .seq (.reg F105.r30) F105.c41
def F105.c39 : RCode := .cond (.t 92) .skip F105.c40
def F105.c38 : RCode := .seq (.reg F105.r29) F105.c39
def F105.c37 : RCode := .cond (.t 92) .skip F105.c38
def F105.c36 : RCode := .seq (.reg F105.r28) F105.c37
def F105.c35 : RCode := .cond (.t 92) .skip F105.c36
def F105.c34 : RCode := .seq (.reg F105.r27) F105.c35
def F105.c33 : RCode := .cond (.t 92) .skip F105.c34
def F105.c32 : RCode := .seq (.reg F105.r26) F105.c33
def F105.r41 : List ROper :=
 ⟨some 7,.rd (.mv (.c (.int .i64 2))),none⟩::
  []
def F105.r42 : List ROper :=
 ⟨some 6,.rd (.mv (.c (.bool false))),none⟩::
  []
def F105.c61 : RCode := .seq (.reg F105.r42) .ret
def F105.c60 : RCode := .cond (.t 92) (.reg F105.r41) F105.c61
def F105.c31 : RCode := .seq F105.c32 F105.c60
def F105.c30 : RCode := .cond (.t 89) (.reg F105.r25) F105.c31
def F105.c27 : RCode := .seq F105.c28 F105.c30
def F105.c25 : RCode := .cond (.t 80) F105.c26 F105.c27
def F105.c24 : RCode := .seq (.reg F105.r20) F105.c25
def F105.c22 : RCode := .cond (.t 70) F105.c23 F105.c24
def F105.c21 : RCode := .seq (.reg F105.r17) F105.c22
def F105.c19 : RCode := .cond (.t 64) F105.c20 F105.c21
def F105.c18 : RCode := .seq (.reg F105.r14) F105.c19
def F105.c17 : RCode := .cond (.t 58) (.reg F105.r13) F105.c18
def F105.c16 : RCode := .seq (.reg F105.r12) F105.c17
def F105.c15 : RCode := .cond (.t 48) (.reg F105.r11) F105.c16
def F105.c14 : RCode := .seq (.reg F105.r10) F105.c15
def F105.c13 : RCode := .cond (.t 38) (.reg F105.r9) F105.c14
def F105.c12 : RCode := .seq (.reg F105.r8) F105.c13
def F105.c11 : RCode := .cond (.t 33) (.reg F105.r7) F105.c12
def F105.c10 : RCode := .seq (.reg F105.r6) F105.c11
def F105.c9 : RCode := .block 0 F105.c10
def F105.c8 : RCode := .seq (.reg F105.r5) F105.c9
def F105.r43 : List ROper :=
 ⟨some 108,.rd (.mv (.t 8)),none⟩::
 ⟨some 109,.rd (.un .not (.t 108)),none⟩::
 ⟨some 110,.rd (.mv (.t 109)),none⟩::
 ⟨some 111,.rd (.mv (.t 9)),some (110,false)⟩::
 ⟨some 112,.rd (.un .not (.t 111)),some (110,false)⟩::
 ⟨some 113,.rd (.pick (.t 110) (.c (.bool true)) (.t 112)),none⟩::
 ⟨some 114,.rd (.mv (.t 113)),none⟩::
 ⟨some 115,.rd (.mv (.t 10)),some (114,false)⟩::
 ⟨some 116,.rd (.un .not (.t 115)),some (114,false)⟩::
 ⟨some 117,.rd (.pick (.t 114) (.c (.bool true)) (.t 116)),none⟩::
 ⟨some 118,.rd (.mv (.t 117)),none⟩::
 ⟨some 119,.rd (.fa 4 (.t 4)),some (118,false)⟩::
 ⟨some 120,.rd (.load none (.t 119)),some (118,false)⟩::
 ⟨some 121,.rd (.len 1 (.t 120)),some (118,false)⟩::
 ⟨some 122,.rd (.mv (.t 7)),some (118,false)⟩::
 ⟨some 123,.rd (.bin .neq (.t 121) (.t 122)),some (118,false)⟩::
 ⟨some 124,.rd (.pick (.t 118) (.c (.bool true)) (.t 123)),none⟩::
  []
def F105.r44 : List ROper :=
 ⟨some 6,.rd (.mv (.c (.bool false))),none⟩::
  []
def F105.c65 : RCode := .seq (.reg F105.r44) .ret
def F105.c64 : RCode := .cond (.t 124) F105.c65 .skip
def F105.c63 : RCode := .seq (.reg F105.r43) F105.c64
def F105.r45 : List ROper :=
 ⟨some 11,.rd (.mv (.c (.bool false))),none⟩::
  []
def F105.r46 : List ROper :=
 ⟨some 12,.rd (.mv (.c (.int .i64 0))),none⟩::
  []
def F105.r47 : List ROper :=
 ⟨some 125,.rd (.mv (.t 12)),none⟩::
 ⟨some 126,.rd (.fa 4 (.t 4)),none⟩::
 ⟨some 127,.rd (.load none (.t 126)),none⟩::
 ⟨some 128,.rd (.len 1 (.t 127)),none⟩::
 ⟨some 129,.rd (.bin .lss (.t 125) (.t 128)),none⟩::
  []
def F105.c73 : RCode := .cond (.t 129) .skip (.exit 1)
def F105.c72 : RCode := .seq (.reg F105.r47) F105.c73
def F105.r48 : List ROper :=
 ⟨some 132,.rd (.fa 4 (.t 4)),none⟩::
 ⟨some 133,.rd (.load none (.t 132)),none⟩::
 ⟨some 134,.rd (.mv (.t 12)),none⟩::
 ⟨some 135,.rd (.ia 5 (.t 133) (.t 134)),none⟩::
 ⟨some 136,.rd (.load (some 5) (.t 135)),none⟩::
 ⟨some 13,.rd (.bx (some 5) (.t 136)),none⟩::
  []
def F105.r49 : List ROper :=
 ⟨some 137,.rd (.fa 0 (.t 13)),none⟩::
 ⟨some 138,.rd (.load none (.t 137)),none⟩::
 ⟨some 139,.rd (.bin .eql (.t 138) (.c (.int .i64 25))),none⟩::
  []
def F105.r50 : List ROper :=
 ⟨some 11,.rd (.mv (.c (.bool true))),none⟩::
  []
def F105.r51 : List ROper :=
 ⟨some 140,.rd (.mv (.t 0)),none⟩::
 ⟨some 141,.rd (.bin .neq (.t 140) (.c (.int .i64 1))),none⟩::
 ⟨some 142,.rd (.mv (.t 141)),none⟩::
 ⟨some 143,.rd (.fa 0 (.t 4)),some (142,false)⟩::
 ⟨some 144,.rd (.load none (.t 143)),some (142,false)⟩::
 ⟨some 145,.rd (.bin .neq (.t 144) (.c (.int .i64 7))),some (142,false)⟩::
 ⟨some 146,.rd (.pick (.t 142) (.c (.bool true)) (.t 145)),none⟩::
 ⟨some 147,.rd (.mv (.t 146)),none⟩::
 ⟨some 148,.rd (.fa 2 (.t 13)),some (147,false)⟩::
 ⟨some 149,.rd (.load none (.t 148)),some (147,false)⟩::
 ⟨some 150,.ef (.call 30 [(.c (.int .i64 1)),(.t 149)]),some (147,false)⟩::
 ⟨some 151,.rd (.un .not (.t 150)),some (147,false)⟩::
 ⟨some 152,.rd (.pick (.t 147) (.c (.bool true)) (.t 151)),none⟩::
 ⟨some 153,.rd (.mv (.t 152)),none⟩::
 ⟨some 154,.rd (.fa 1 (.t 13)),some (153,false)⟩::
 ⟨some 155,.rd (.load none (.t 154)),some (153,false)⟩::
 ⟨some 156,.rd (.bin .neq (.t 155) (.c (.int .i64 0))),some (153,false)⟩::
 ⟨some 157,.rd (.pick (.t 153) (.c (.bool true)) (.t 156)),none⟩::
 ⟨some 158,.rd (.mv (.t 157)),none⟩::
 ⟨some 159,.rd (.fa 3 (.t 13)),some (158,false)⟩::
 ⟨some 160,.rd (.load none (.t 159)),some (158,false)⟩::
 ⟨some 161,.rd (.bin .neq (.t 160) (.c (.str (⟨#[]⟩ : ByteArray)))),some (158,false)⟩::
 ⟨some 162,.rd (.pick (.t 158) (.c (.bool true)) (.t 161)),none⟩::
 ⟨some 163,.rd (.mv (.t 162)),none⟩::
 ⟨some 164,.rd (.fa 4 (.t 13)),some (163,false)⟩::
 ⟨some 165,.rd (.load none (.t 164)),some (163,false)⟩::
 ⟨some 166,.rd (.len 1 (.t 165)),some (163,false)⟩::
 ⟨some 167,.rd (.bin .neq (.t 166) (.c (.int .i64 0))),some (163,false)⟩::
 ⟨some 168,.rd (.pick (.t 163) (.c (.bool true)) (.t 167)),none⟩::
  []
def F105.r52 : List ROper :=
 ⟨some 6,.rd (.mv (.c (.bool false))),none⟩::
  []
def F105.c84 : RCode := .seq (.reg F105.r52) .ret
def F105.c83 : RCode := .cond (.t 168) F105.c84 .skip
def F105.c82 : RCode := .seq (.reg F105.r51) F105.c83
def F105.c81 : RCode := .seq F105.c82 (.exit 2)
def F105.c80 : RCode := .seq (.reg F105.r50) F105.c81
def F105.c79 : RCode := .cond (.t 139) F105.c80 .skip
def F105.c78 : RCode := .seq (.reg F105.r49) F105.c79
def F105.r53 : List ROper :=
 ⟨some 169,.rd (.mv (.t 11)),none⟩::
 ⟨some 170,.rd (.mv (.t 169)),none⟩::
 ⟨some 171,.rd (.mv (.t 0)),some (170,false)⟩::
 ⟨some 172,.rd (.load (some 5) (.t 13)),some (170,false)⟩::
 ⟨some 173,.rd (.mv (.t 2)),some (170,false)⟩::
 ⟨some 174,.rd (.bin .sub (.t 173) (.c (.int .i64 1))),some (170,false)⟩::
 ⟨some 175,.ef (.call 105 [(.t 171),(.t 172),(.t 174)]),some (170,false)⟩::
 ⟨some 176,.rd (.un .not (.t 175)),some (170,false)⟩::
 ⟨some 177,.rd (.pick (.t 170) (.c (.bool true)) (.t 176)),none⟩::
  []
def F105.r54 : List ROper :=
 ⟨some 6,.rd (.mv (.c (.bool false))),none⟩::
  []
def F105.c87 : RCode := .seq (.reg F105.r54) .ret
def F105.c86 : RCode := .cond (.t 177) F105.c87 .skip
def F105.c85 : RCode := .seq (.reg F105.r53) F105.c86
def F105.c77 : RCode := .seq F105.c78 F105.c85
def F105.c76 : RCode := .seq (.reg F105.r48) F105.c77
def F105.c75 : RCode := .block 2 F105.c76
def F105.r55 : List ROper :=
 ⟨some 130,.rd (.mv (.t 12)),none⟩::
 ⟨some 131,.rd (.bin .add (.t 130) (.c (.int .i64 1))),none⟩::
 ⟨some 12,.rd (.mv (.t 131)),none⟩::
  []
def F105.c74 : RCode := .seq F105.c75 (.reg F105.r55)
def F105.c71 : RCode := .seq F105.c72 F105.c74
def F105.c70 : RCode := .loop F105.c71
def F105.c69 : RCode := .block 1 F105.c70
def F105.c68 : RCode := .seq (.reg F105.r46) F105.c69
def F105.r56 : List ROper :=
 ⟨some 6,.rd (.mv (.c (.bool true))),none⟩::
  []
def F105.c88 : RCode := .seq (.reg F105.r56) .ret
def F105.c67 : RCode := .seq F105.c68 F105.c88
def F105.c66 : RCode := .seq (.reg F105.r45) F105.c67
def F105.c62 : RCode := .seq F105.c63 F105.c66
def F105.c7 : RCode := .seq F105.c8 F105.c62
def F105.c6 : RCode := .seq (.dreg F105.r4) F105.c7
def F105.c5 : RCode := .seq (.reg F105.r3) F105.c6
def F105.c1 : RCode := .seq F105.c2 F105.c5
def F105.c0 : RCode := .seq (.reg F105.r0) F105.c1
theorem F105.calls {args : List AV} {h : AHeap} {K : AV → AHeap → Prop} (hn : args.length ≤ 178) (k : wT .go Go.Proofs.Try.prog 178 F105.c0 (fun x e h t => atEndT t [.tmp 6] (EndW K) x e h) (envOf 0 args) h) : ACalls Go.Proofs.Try.prog 105 args h K :=
  acallsT [4] [13] 178 Go.Proofs.Try.func105 Go.Proofs.Try.ntmps105 (by kernel_rfl) (by kernel_rfl) hn k
/-- pantograph/pantographref07.Deep -/
def F106.r0 : List ROper :=
 ⟨some 2,.rd (.bx none (.t 0)),none⟩::
 ⟨some 4,.rd (.mv (.c (.int .i64 0))),none⟩::
  []
def F106.r1 : List ROper :=
 ⟨some 5,.rd (.mv (.c (.int .i64 0))),none⟩::
  []
def F106.r2 : List ROper :=
 ⟨some 6,.rd (.mv (.c (.int .i64 0))),none⟩::
  []
def F106.r3 : List ROper :=
 ⟨some 7,.rd (.mv (.t 6)),none⟩::
 ⟨some 8,.rd (.fa 4 (.t 2)),none⟩::
 ⟨some 9,.rd (.load none (.t 8)),none⟩::
 ⟨some 10,.rd (.len 1 (.t 9)),none⟩::
 ⟨some 11,.rd (.bin .lss (.t 7) (.t 10)),none⟩::
 ⟨some 12,.rd (.mv (.t 11)),none⟩::
 ⟨some 13,.rd (.mv (.t 1)),some (12,true)⟩::
 ⟨some 14,.rd (.bin .gtr (.t 13) (.c (.int .i64 0))),some (12,true)⟩::
 ⟨some 15,.rd (.pick (.t 12) (.t 14) (.c (.bool false))),none⟩::
  []
def F106.c8 : RCode := .cond (.t 15) .skip (.exit 0)
def F106.c7 : RCode := .seq (.reg F106.r3) F106.c8
def F106.r4 : List ROper :=
 ⟨some 18,.rd (.fa 4 (.t 2)),none⟩::
 ⟨some 19,.rd (.load none (.t 18)),none⟩::
 ⟨some 20,.rd (.mv (.t 6)),none⟩::
 ⟨some 21,.rd (.ia 5 (.t 19) (.t 20)),none⟩::
 ⟨some 22,.rd (.fa 0 (.t 21)),none⟩::
 ⟨some 23,.rd (.load none (.t 22)),none⟩::
 ⟨some 24,.rd (.bin .neq (.t 23) (.c (.int .i64 25))),none⟩::
  []
def F106.r5 : List ROper :=
 ⟨some 25,.rd (.mv (.t 5)),none⟩::
 ⟨some 26,.rd (.fa 4 (.t 2)),none⟩::
 ⟨some 27,.rd (.load none (.t 26)),none⟩::
 ⟨some 28,.rd (.mv (.t 6)),none⟩::
 ⟨some 29,.rd (.ia 5 (.t 27) (.t 28)),none⟩::
 ⟨some 30,.rd (.load (some 5) (.t 29)),none⟩::
 ⟨some 31,.rd (.mv (.t 1)),none⟩::
 ⟨some 32,.rd (.bin .sub (.t 31) (.c (.int .i64 1))),none⟩::
 ⟨some 33,.ef (.call 106 [(.t 30),(.t 32)]),none⟩::
 ⟨some 34,.rd (.mx (.t 25) (.t 33)),none⟩::
 ⟨some 5,.rd (.mv (.t 34)),none⟩::
  []
def F106.c12 : RCode := .cond (.t 24) (.reg F106.r5) .skip
def F106.c11 : RCode := .seq (.reg F106.r4) F106.c12
def F106.c10 : RCode := .block 1 F106.c11
def F106.r6 : List ROper :=
 ⟨some 16,.rd (.mv (.t 6)),none⟩::
 ⟨some 17,.rd (.bin .add (.t 16) (.c (.int .i64 1))),none⟩::
 ⟨some 6,.rd (.mv (.t 17)),none⟩::
  []
def F106.c9 : RCode := .seq F106.c10 (.reg F106.r6)
def F106.c6 : RCode := .seq F106.c7 F106.c9
def F106.c5 : RCode := .loop F106.c6
def F106.c4 : RCode := .block 0 F106.c5
def F106.c3 : RCode := .seq (.reg F106.r2) F106.c4
def F106.r7 : List ROper :=
 ⟨some 35,.rd (.mv (.t 5)),none⟩::
 ⟨some 36,.rd (.bin .add (.t 35) (.c (.int .i64 1))),none⟩::
 ⟨some 4,.rd (.mv (.t 36)),none⟩::
  []
def F106.c13 : RCode := .seq (.reg F106.r7) .ret
def F106.c2 : RCode := .seq F106.c3 F106.c13
def F106.c1 : RCode := .seq (.reg F106.r1) F106.c2
def F106.c0 : RCode := .seq (.reg F106.r0) F106.c1
theorem F106.calls {args : List AV} {h : AHeap} {K : AV → AHeap → Prop} (hn : args.length ≤ 37) (k : wT .go Go.Proofs.Try.prog 37 F106.c0 (fun x e h t => atEndT t [.tmp 4] (EndW K) x e h) (envOf 0 args) h) : ACalls Go.Proofs.Try.prog 106 args h K :=
  acallsT [2] [] 37 Go.Proofs.Try.func106 Go.Proofs.Try.ntmps106 (by kernel_rfl) (by kernel_rfl) hn k
/-- pantograph/pantographref07.place -/
def F88.r0 : List ROper :=
 ⟨some 3,.rd (.bx none (.t 1)),none⟩::
 ⟨some 4,.rd (.mv (.c (.bool false))),none⟩::
  []
def F88.r1 : List ROper :=
 ⟨some 5,.rd (.fa 0 (.t 3)),none⟩::
 ⟨some 6,.rd (.load none (.t 5)),none⟩::
 ⟨some 7,.rd (.bin .geq (.t 6) (.c (.int .i64 4))),none⟩::
 ⟨some 8,.rd (.mv (.t 7)),none⟩::
 ⟨some 9,.rd (.fa 0 (.t 3)),some (8,true)⟩::
 ⟨some 10,.rd (.load none (.t 9)),some (8,true)⟩::
 ⟨some 11,.rd (.bin .leq (.t 10) (.c (.int .i64 6))),some (8,true)⟩::
 ⟨some 12,.rd (.pick (.t 8) (.t 11) (.c (.bool false))),none⟩::
 ⟨some 13,.rd (.mv (.t 12)),none⟩::
 ⟨some 14,.rd (.mv (.t 0)),some (13,true)⟩::
 ⟨some 15,.rd (.load (some 5) (.t 3)),some (13,true)⟩::
 ⟨some 16,.ef (.call 87 [(.t 14),(.t 15)]),some (13,true)⟩::
 ⟨some 17,.rd (.pick (.t 13) (.t 16) (.c (.bool false))),none⟩::
 ⟨some 4,.rd (.mv (.t 17)),none⟩::
  []
def F88.c1 : RCode := .seq (.reg F88.r1) .ret
def F88.c0 : RCode := .seq (.reg F88.r0) F88.c1
theorem F88.calls {args : List AV} {h : AHeap} {K : AV → AHeap → Prop} (hn : args.length ≤ 18) (k : wT .go Go.Proofs.Try.prog 18 F88.c0 (fun x e h t => atEndT t [.tmp 4] (EndW K) x e h) (envOf 0 args) h) : ACalls Go.Proofs.Try.prog 88 args h K :=
  acallsT [3] [] 18 Go.Proofs.Try.func88 Go.Proofs.Try.ntmps88 (by kernel_rfl) (by kernel_rfl) hn k
/-- pantograph/pantographref07.none -/
def F89.r0 : List ROper :=
 ⟨some 1,.rd (.bx none (.t 0)),none⟩::
 ⟨some 2,.rd (.mv (.c (.bool false))),none⟩::
  []
def F89.r1 : List ROper :=
 ⟨some 3,.rd (.fa 0 (.t 1)),none⟩::
 ⟨some 4,.rd (.load none (.t 3)),none⟩::
 ⟨some 5,.rd (.bin .eql (.t 4) (.c (.int .i64 0))),none⟩::
 ⟨some 6,.rd (.mv (.t 5)),none⟩::
 ⟨some 7,.rd (.fa 1 (.t 1)),some (6,true)⟩::
 ⟨some 8,.rd (.load none (.t 7)),some (6,true)⟩::
 ⟨some 9,.rd (.bin .eql (.t 8) (.c (.int .i64 0))),some (6,true)⟩::
 ⟨some 10,.rd (.pick (.t 6) (.t 9) (.c (.bool false))),none⟩::
 ⟨some 11,.rd (.mv (.t 10)),none⟩::
 ⟨some 12,.rd (.fa 2 (.t 1)),some (11,true)⟩::
 ⟨some 13,.rd (.load none (.t 12)),some (11,true)⟩::
 ⟨some 14,.rd (.bin .eql (.t 13) (.c (.str (⟨#[]⟩ : ByteArray)))),some (11,true)⟩::
 ⟨some 15,.rd (.pick (.t 11) (.t 14) (.c (.bool false))),none⟩::
 ⟨some 16,.rd (.mv (.t 15)),none⟩::
 ⟨some 17,.rd (.fa 3 (.t 1)),some (16,true)⟩::
 ⟨some 18,.rd (.load none (.t 17)),some (16,true)⟩::
 ⟨some 19,.rd (.bin .eql (.t 18) (.c (.str (⟨#[]⟩ : ByteArray)))),some (16,true)⟩::
 ⟨some 20,.rd (.pick (.t 16) (.t 19) (.c (.bool false))),none⟩::
 ⟨some 21,.rd (.mv (.t 20)),none⟩::
 ⟨some 22,.rd (.fa 4 (.t 1)),some (21,true)⟩::
 ⟨some 23,.rd (.load none (.t 22)),some (21,true)⟩::
 ⟨some 24,.rd (.len 1 (.t 23)),some (21,true)⟩::
 ⟨some 25,.rd (.bin .eql (.t 24) (.c (.int .i64 0))),some (21,true)⟩::
 ⟨some 26,.rd (.pick (.t 21) (.t 25) (.c (.bool false))),none⟩::
 ⟨some 2,.rd (.mv (.t 26)),none⟩::
  []
def F89.c1 : RCode := .seq (.reg F89.r1) .ret
def F89.c0 : RCode := .seq (.reg F89.r0) F89.c1
theorem F89.calls {args : List AV} {h : AHeap} {K : AV → AHeap → Prop} (hn : args.length ≤ 27) (k : wT .go Go.Proofs.Try.prog 27 F89.c0 (fun x e h t => atEndT t [.tmp 2] (EndW K) x e h) (envOf 0 args) h) : ACalls Go.Proofs.Try.prog 89 args h K :=
  acallsT [1] [] 27 Go.Proofs.Try.func89 Go.Proofs.Try.ntmps89 (by kernel_rfl) (by kernel_rfl) hn k
/-- pantograph/pantographref07.Check -/
def F11.r0 : List ROper :=
 ⟨some 3,.rd (.bx none (.t 1)),none⟩::
 ⟨some 4,.rd (.mv (.c (.bool false))),none⟩::
  []
def F11.r1 : List ROper :=
 ⟨some 9,.rd (.mv (.t 0)),none⟩::
 ⟨some 10,.rd (.bin .neq (.t 9) (.c (.int .i64 0))),none⟩::
 ⟨some 11,.rd (.mv (.t 10)),none⟩::
 ⟨some 12,.rd (.mv (.t 0)),some (11,true)⟩::
 ⟨some 13,.rd (.bin .neq (.t 12) (.c (.int .i64 1))),some (11,true)⟩::
 ⟨some 14,.rd (.pick (.t 11) (.t 13) (.c (.bool false))),none⟩::
 ⟨some 15,.rd (.mv (.t 14)),none⟩::
 ⟨some 16,.rd (.mv (.t 0)),some (15,false)⟩::
 ⟨some 17,.rd (.fa 0 (.t 3)),some (15,false)⟩::
 ⟨some 18,.rd (.load none (.t 17)),some (15,false)⟩::
 ⟨some 19,.ef (.call 30 [(.t 16),(.t 18)]),some (15,false)⟩::
 ⟨some 20,.rd (.un .not (.t 19)),some (15,false)⟩::
 ⟨some 21,.rd (.pick (.t 15) (.c (.bool true)) (.t 20)),none⟩::
 ⟨some 22,.rd (.mv (.t 21)),none⟩::
 ⟨some 23,.rd (.fa 1 (.t 3)),some (22,false)⟩::
 ⟨some 24,.rd (.load none (.t 23)),some (22,false)⟩::
 ⟨some 25,.ef (.call 31 [(.t 24)]),some (22,false)⟩::
 ⟨some 26,.rd (.un .not (.t 25)),some (22,false)⟩::
 ⟨some 27,.rd (.pick (.t 22) (.c (.bool true)) (.t 26)),none⟩::
 ⟨some 28,.rd (.mv (.t 27)),none⟩::
 ⟨some 29,.rd (.fa 2 (.t 3)),some (28,false)⟩::
 ⟨some 30,.rd (.load none (.t 29)),some (28,false)⟩::
 ⟨some 31,.ef (.call 31 [(.t 30)]),some (28,false)⟩::
 ⟨some 32,.rd (.un .not (.t 31)),some (28,false)⟩::
 ⟨some 33,.rd (.pick (.t 28) (.c (.bool true)) (.t 32)),none⟩::
 ⟨some 34,.rd (.mv (.t 33)),none⟩::
 ⟨some 35,.rd (.fa 3 (.t 3)),some (34,false)⟩::
 ⟨some 36,.rd (.load none (.t 35)),some (34,false)⟩::
 ⟨some 37,.ef (.call 31 [(.t 36)]),some (34,false)⟩::
 ⟨some 38,.rd (.un .not (.t 37)),some (34,false)⟩::
 ⟨some 39,.rd (.pick (.t 34) (.c (.bool true)) (.t 38)),none⟩::
 ⟨some 40,.rd (.mv (.t 39)),none⟩::
 ⟨some 41,.rd (.fa 8 (.t 3)),some (40,false)⟩::
 ⟨some 42,.rd (.load none (.t 41)),some (40,false)⟩::
 ⟨some 43,.ef (.call 31 [(.t 42)]),some (40,false)⟩::
 ⟨some 44,.rd (.un .not (.t 43)),some (40,false)⟩::
 ⟨some 45,.rd (.pick (.t 40) (.c (.bool true)) (.t 44)),none⟩::
 ⟨some 46,.rd (.mv (.t 45)),none⟩::
 ⟨some 47,.rd (.fa 4 (.t 3)),some (46,false)⟩::
 ⟨some 48,.rd (.load none (.t 47)),some (46,false)⟩::
 ⟨some 49,.rd (.len 1 (.t 48)),some (46,false)⟩::
 ⟨some 50,.rd (.bin .gtr (.t 49) (.c (.int .i64 512))),some (46,false)⟩::
 ⟨some 51,.rd (.pick (.t 46) (.c (.bool true)) (.t 50)),none⟩::
  []
def F11.r2 : List ROper :=
 ⟨some 4,.rd (.mv (.c (.bool false))),none⟩::
  []
def F11.c4 : RCode := .seq (.reg F11.r2) .ret
def F11.c3 : RCode := .cond (.t 51) F11.c4 .skip
def F11.c2 : RCode := .seq (.reg F11.r1) F11.c3
def F11.r3 : List ROper :=
 ⟨some 5,.rd (.mv (.c (.int .i64 0))),none⟩::
  []
def F11.r4 : List ROper :=
 ⟨some 52,.rd (.mv (.t 5)),none⟩::
 ⟨some 53,.rd (.fa 4 (.t 3)),none⟩::
 ⟨some 54,.rd (.load none (.t 53)),none⟩::
 ⟨some 55,.rd (.len 1 (.t 54)),none⟩::
 ⟨some 56,.rd (.bin .lss (.t 52) (.t 55)),none⟩::
  []
def F11.c11 : RCode := .cond (.t 56) .skip (.exit 0)
def F11.c10 : RCode := .seq (.reg F11.r4) F11.c11
def F11.r5 : List ROper :=
 ⟨some 59,.rd (.fa 4 (.t 3)),none⟩::
 ⟨some 60,.rd (.load none (.t 59)),none⟩::
 ⟨some 61,.rd (.mv (.t 5)),none⟩::
 ⟨some 62,.rd (.ia 5 (.t 60) (.t 61)),none⟩::
 ⟨some 63,.rd (.load (some 5) (.t 62)),none⟩::
 ⟨some 6,.rd (.bx (some 5) (.t 63)),none⟩::
  []
def F11.r6 : List ROper :=
 ⟨some 64,.rd (.fa 0 (.t 6)),none⟩::
 ⟨some 65,.rd (.load (some 2) (.t 64)),none⟩::
 ⟨some 66,.ef (.call 32 [(.t 65)]),none⟩::
 ⟨some 67,.rd (.un .not (.t 66)),none⟩::
 ⟨some 68,.rd (.mv (.t 67)),none⟩::
 ⟨some 69,.rd (.fa 4 (.t 6)),some (68,false)⟩::
 ⟨some 70,.rd (.load none (.t 69)),some (68,false)⟩::
 ⟨some 71,.ef (.call 31 [(.t 70)]),some (68,false)⟩::
 ⟨some 72,.rd (.un .not (.t 71)),some (68,false)⟩::
 ⟨some 73,.rd (.pick (.t 68) (.c (.bool true)) (.t 72)),none⟩::
 ⟨some 74,.rd (.mv (.t 73)),none⟩::
 ⟨some 75,.rd (.mv (.t 0)),some (74,false)⟩::
 ⟨some 76,.rd (.fa 2 (.t 6)),some (74,false)⟩::
 ⟨some 77,.rd (.load none (.t 76)),some (74,false)⟩::
 ⟨some 78,.ef (.call 30 [(.t 75),(.t 77)]),some (74,false)⟩::
 ⟨some 79,.rd (.un .not (.t 78)),some (74,false)⟩::
 ⟨some 80,.rd (.pick (.t 74) (.c (.bool true)) (.t 79)),none⟩::
 ⟨some 81,.rd (.mv (.t 80)),none⟩::
 ⟨some 82,.rd (.fa 3 (.t 6)),some (81,false)⟩::
 ⟨some 83,.rd (.load none (.t 82)),some (81,false)⟩::
 ⟨some 84,.rd (.len 1 (.t 83)),some (81,false)⟩::
 ⟨some 85,.rd (.bin .eql (.t 84) (.c (.int .i64 0))),some (81,false)⟩::
 ⟨some 86,.rd (.pick (.t 81) (.c (.bool true)) (.t 85)),none⟩::
 ⟨some 87,.rd (.mv (.t 86)),none⟩::
 ⟨some 88,.rd (.fa 3 (.t 6)),some (87,false)⟩::
 ⟨some 89,.rd (.load none (.t 88)),some (87,false)⟩::
 ⟨some 90,.rd (.len 1 (.t 89)),some (87,false)⟩::
 ⟨some 91,.rd (.bin .gtr (.t 90) (.c (.int .i64 512))),some (87,false)⟩::
 ⟨some 92,.rd (.pick (.t 87) (.c (.bool true)) (.t 91)),none⟩::
  []
def F11.r7 : List ROper :=
 ⟨some 4,.rd (.mv (.c (.bool false))),none⟩::
  []
def F11.c18 : RCode := .seq (.reg F11.r7) .ret
def F11.c17 : RCode := .cond (.t 92) F11.c18 .skip
def F11.c16 : RCode := .seq (.reg F11.r6) F11.c17
def F11.r8 : List ROper :=
 ⟨some 7,.rd (.mv (.c (.int .i64 0))),none⟩::
  []
def F11.r9 : List ROper :=
 ⟨some 93,.rd (.mv (.t 7)),none⟩::
 ⟨some 94,.rd (.fa 3 (.t 6)),none⟩::
 ⟨some 95,.rd (.load none (.t 94)),none⟩::
 ⟨some 96,.rd (.len 1 (.t 95)),none⟩::
 ⟨some 97,.rd (.bin .lss (.t 93) (.t 96)),none⟩::
  []
def F11.c24 : RCode := .cond (.t 97) .skip (.exit 2)
def F11.c23 : RCode := .seq (.reg F11.r9) F11.c24
def F11.r10 : List ROper :=
 ⟨some 100,.rd (.fa 3 (.t 6)),none⟩::
 ⟨some 101,.rd (.load none (.t 100)),none⟩::
 ⟨some 102,.rd (.mv (.t 7)),none⟩::
 ⟨some 103,.rd (.ia 4 (.t 101) (.t 102)),none⟩::
 ⟨some 104,.rd (.load (some 4) (.t 103)),none⟩::
 ⟨some 8,.rd (.bx (some 4) (.t 104)),none⟩::
  []
def F11.r11 : List ROper :=
 ⟨some 105,.rd (.fa 0 (.t 8)),none⟩::
 ⟨some 106,.rd (.load (some 2) (.t 105)),none⟩::
 ⟨some 107,.ef (.call 32 [(.t 106)]),none⟩::
 ⟨some 108,.rd (.un .not (.t 107)),none⟩::
 ⟨some 109,.rd (.mv (.t 108)),none⟩::
 ⟨some 110,.rd (.mv (.t 0)),some (109,false)⟩::
 ⟨some 111,.rd (.fa 2 (.t 8)),some (109,false)⟩::
 ⟨some 112,.rd (.load none (.t 111)),some (109,false)⟩::
 ⟨some 113,.ef (.call 30 [(.t 110),(.t 112)]),some (109,false)⟩::
 ⟨some 114,.rd (.un .not (.t 113)),some (109,false)⟩::
 ⟨some 115,.rd (.pick (.t 109) (.c (.bool true)) (.t 114)),none⟩::
 ⟨some 116,.rd (.mv (.t 115)),none⟩::
 ⟨some 117,.rd (.fa 3 (.t 8)),some (116,false)⟩::
 ⟨some 118,.rd (.load none (.t 117)),some (116,false)⟩::
 ⟨some 119,.rd (.bin .lss (.t 118) (.c (.int .i64 1))),some (116,false)⟩::
 ⟨some 120,.rd (.pick (.t 116) (.c (.bool true)) (.t 119)),none⟩::
 ⟨some 121,.rd (.mv (.t 120)),none⟩::
 ⟨some 122,.rd (.fa 3 (.t 8)),some (121,false)⟩::
 ⟨some 123,.rd (.load none (.t 122)),some (121,false)⟩::
 ⟨some 124,.rd (.bin .gtr (.t 123) (.c (.int .i64 3))),some (121,false)⟩::
 ⟨some 125,.rd (.pick (.t 121) (.c (.bool true)) (.t 124)),none⟩::
  []
def F11.r12 : List ROper :=
 ⟨some 4,.rd (.mv (.c (.bool false))),none⟩::
  []
def F11.c30 : RCode := .seq (.reg F11.r12) .ret
def F11.c29 : RCode := .cond (.t 125) F11.c30 .skip
def F11.c28 : RCode := .seq (.reg F11.r11) F11.c29
def F11.c27 : RCode := .seq (.reg F11.r10) F11.c28
def F11.c26 : RCode := .block 3 F11.c27
def F11.r13 : List ROper :=
 ⟨some 98,.rd (.mv (.t 7)),none⟩::
 ⟨some 99,.rd (.bin .add (.t 98) (.c (.int .i64 1))),none⟩::
 ⟨some 7,.rd (.mv (.t 99)),none⟩::
  []
def F11.c25 : RCode := .seq F11.c26 (.reg F11.r13)
def F11.c22 : RCode := .seq F11.c23 F11.c25
def F11.c21 : RCode := .loop F11.c22
def F11.c20 : RCode := .block 2 F11.c21
def F11.c19 : RCode := .seq (.reg F11.r8) F11.c20
def F11.c15 : RCode := .seq F11.c16 F11.c19
def F11.c14 : RCode := .seq (.reg F11.r5) F11.c15
def F11.c13 : RCode := .block 1 F11.c14
def F11.r14 : List ROper :=
 ⟨some 57,.rd (.mv (.t 5)),none⟩::
 ⟨some 58,.rd (.bin .add (.t 57) (.c (.int .i64 1))),none⟩::
 ⟨some 5,.rd (.mv (.t 58)),none⟩::
  []
def F11.c12 : RCode := .seq F11.c13 (.reg F11.r14)
def F11.c9 : RCode := .seq F11.c10 F11.c12
def F11.c8 : RCode := .loop F11.c9
def F11.c7 : RCode := .block 0 F11.c8
def F11.c6 : RCode := .seq (.reg F11.r3) F11.c7
def F11.r15 : List ROper :=
 ⟨some 126,.rd (.mv (.t 0)),none⟩::
 ⟨some 127,.rd (.fa 5 (.t 3)),none⟩::
 ⟨some 128,.rd (.load none (.t 127)),none⟩::
 ⟨some 129,.ef (.call 33 [(.t 126),(.t 128)]),none⟩::
 ⟨some 130,.rd (.mv (.t 129)),none⟩::
 ⟨some 131,.rd (.mv (.t 0)),some (130,true)⟩::
 ⟨some 132,.rd (.fa 6 (.t 3)),some (130,true)⟩::
 ⟨some 133,.rd (.load none (.t 132)),some (130,true)⟩::
 ⟨some 134,.ef (.call 34 [(.t 131),(.t 133),(.c (.int .i64 1))]),some (130,true)⟩::
 ⟨some 135,.rd (.pick (.t 130) (.t 134) (.c (.bool false))),none⟩::
 ⟨some 136,.rd (.mv (.t 135)),none⟩::
 ⟨some 137,.rd (.mv (.t 0)),some (136,true)⟩::
 ⟨some 138,.rd (.fa 7 (.t 3)),some (136,true)⟩::
 ⟨some 139,.rd (.load none (.t 138)),some (136,true)⟩::
 ⟨some 140,.ef (.call 35 [(.t 137),(.t 139),(.c (.int .i64 1))]),some (136,true)⟩::
 ⟨some 141,.rd (.pick (.t 136) (.t 140) (.c (.bool false))),none⟩::
 ⟨some 4,.rd (.mv (.t 141)),none⟩::
  []
def F11.c31 : RCode := .seq (.reg F11.r15) .ret
def F11.c5 : RCode := .seq F11.c6 F11.c31
def F11.c1 : RCode := .seq F11.c2 F11.c5
def F11.c0 : RCode := .seq (.reg F11.r0) F11.c1
theorem F11.calls {args : List AV} {h : AHeap} {K : AV → AHeap → Prop} (hn : args.length ≤ 142) (k : wT .go Go.Proofs.Try.prog 142 F11.c0 (fun x e h t => atEndT t [.tmp 4] (EndW K) x e h) (envOf 0 args) h) : ACalls Go.Proofs.Try.prog 11 args h K :=
  acallsT [3] [6,8] 142 Go.Proofs.Try.func11 Go.Proofs.Try.ntmps11 (by kernel_rfl) (by kernel_rfl) hn k
/-- pantograph/pantographlaw12.CheckMore -/
def F6.r0 : List ROper :=
 ⟨some 1,.rd (.bx none (.t 0)),none⟩::
 ⟨some 2,.rd (.mv (.c (.bool false))),none⟩::
  []
def F6.r1 : List ROper :=
 ⟨some 8,.rd (.load (some 9) (.t 1)),none⟩::
 ⟨some 9,.ef (.call 11 [(.c (.int .i64 0)),(.t 8)]),none⟩::
 ⟨some 10,.rd (.un .not (.t 9)),none⟩::
 ⟨some 11,.rd (.mv (.t 10)),none⟩::
 ⟨some 12,.rd (.fa 7 (.t 1)),some (11,false)⟩::
 ⟨some 13,.rd (.load none (.t 12)),some (11,false)⟩::
 ⟨some 14,.rd (.len 1 (.t 13)),some (11,false)⟩::
 ⟨some 15,.rd (.bin .geq (.t 14) (.c (.int .i64 512))),some (11,false)⟩::
 ⟨some 16,.rd (.pick (.t 11) (.c (.bool true)) (.t 15)),none⟩::
  []
def F6.r2 : List ROper :=
 ⟨some 17,.ef (.call 12 []),none⟩::
 ⟨some 2,.rd (.mv (.t 17)),none⟩::
  []
def F6.c4 : RCode := .seq (.reg F6.r2) .ret
def F6.c3 : RCode := .cond (.t 16) F6.c4 .skip
def F6.c2 : RCode := .seq (.reg F6.r1) F6.c3
def F6.r3 : List ROper :=
 ⟨some 19,.rd (.load (some 9) (.t 1)),none⟩::
 ⟨some 20,.ef (.call 15 [(.t 19)]),none⟩::
 ⟨some 18,.rd (.mv (.t 20)),none⟩::
 ⟨some 21,.rd (.ext (.t 18) 0),none⟩::
 ⟨some 22,.rd (.ext (.t 18) 1),none⟩::
 ⟨some 3,.rd (.mv (.t 21)),none⟩::
 ⟨some 4,.rd (.mv (.t 22)),none⟩::
  []
def F6.r4 : List ROper :=
 ⟨some 23,.rd (.load (some 9) (.t 1)),none⟩::
 ⟨some 5,.ef (.alloc 28 [(.str (⟨#[]⟩ : ByteArray)),(.sl [] true),(.sl [] true),(.sl [] true),(.sl [] true),(.sl [] true),(.sl [] true),(.sl [] true),(.sl [] true)]),none⟩::
 ⟨none,.ef (.store 9 (.t 5) (.t 23)),none⟩::
  []
def F6.r5 : List ROper :=
 ⟨some 24,.rd (.bsl 16 0 [] []),none⟩::
 ⟨some 25,.rd (.fa 7 (.t 1)),none⟩::
 ⟨some 26,.rd (.load none (.t 25)),none⟩::
 ⟨some 27,.ef (.append 55 16 272 (.t 24) (.t 26)),none⟩::
 ⟨some 28,.rd (.build [(.int .i64 0),(.int .i64 0),(.str (⟨#[]⟩ : ByteArray)),(.str (⟨#[]⟩ : ByteArray)),(.sl [] true)] [(0,1,(.c (.int .i64 1)))]),none⟩::
 ⟨some 29,.rd (.bsl 5 1 [(.int .i64 0),(.int .i64 0),(.str (⟨#[]⟩ : ByteArray)),(.str (⟨#[]⟩ : ByteArray)),(.sl [] true)] [(0,5,(.t 28))]),none⟩::
 ⟨some 30,.rd (.build [(.sl [] true),(.sl [] true),(.int .i64 0),(.str (⟨#[]⟩ : ByteArray)),(.int .i64 0),(.int .i64 0),(.str (⟨#[]⟩ : ByteArray)),(.str (⟨#[]⟩ : ByteArray)),(.sl [] true),(.sl [] true),(.bool false),(.bool false),(.sl [] true),(.sl [] true),(.sl [] true),(.sl [] true)] [(2,1,(.c (.int .i64 9))),(9,1,(.t 29))]),none⟩::
 ⟨some 31,.rd (.bsl 16 1 [(.sl [] true),(.sl [] true),(.int .i64 0),(.str (⟨#[]⟩ : ByteArray)),(.int .i64 0),(.int .i64 0),(.str (⟨#[]⟩ : ByteArray)),(.str (⟨#[]⟩ : ByteArray)),(.sl [] true),(.sl [] true),(.bool false),(.bool false),(.sl [] true),(.sl [] true),(.sl [] true),(.sl [] true)] [(0,16,(.t 30))]),none⟩::
 ⟨some 32,.ef (.append 55 16 272 (.t 27) (.t 31)),none⟩::
 ⟨some 33,.rd (.fa 7 (.t 5)),none⟩::
 ⟨none,.ef (.store 1 (.t 33) (.t 32)),none⟩::
  []
def F6.r6 : List ROper :=
 ⟨some 35,.rd (.load (some 9) (.t 5)),none⟩::
 ⟨some 36,.ef (.call 15 [(.t 35)]),none⟩::
 ⟨some 34,.rd (.mv (.t 36)),none⟩::
 ⟨some 37,.rd (.ext (.t 34) 0),none⟩::
 ⟨some 38,.rd (.ext (.t 34) 1),none⟩::
 ⟨some 6,.rd (.mv (.t 37)),none⟩::
 ⟨some 7,.rd (.mv (.t 38)),none⟩::
  []
def F6.r7 : List ROper :=
 ⟨some 39,.rd (.mv (.t 4)),none⟩::
 ⟨some 40,.rd (.bin .neq (.t 39) (.c (.int .i64 0))),none⟩::
  []
def F6.r8 : List ROper :=
 ⟨some 41,.rd (.mv (.t 3)),none⟩::
 ⟨some 42,.rd (.mv (.t 6)),none⟩::
 ⟨some 43,.rd (.bin .eql (.t 41) (.t 42)),none⟩::
 ⟨some 44,.rd (.mv (.t 43)),none⟩::
 ⟨some 45,.rd (.mv (.t 4)),some (44,true)⟩::
 ⟨some 46,.rd (.mv (.t 7)),some (44,true)⟩::
 ⟨some 47,.rd (.bin .eql (.t 45) (.t 46)),some (44,true)⟩::
 ⟨some 48,.rd (.pick (.t 44) (.t 47) (.c (.bool false))),none⟩::
 ⟨some 49,.rd (.mv (.t 48)),none⟩::
 ⟨some 50,.ef (.call 12 []),some (49,true)⟩::
 ⟨some 51,.rd (.pick (.t 49) (.t 50) (.c (.bool false))),none⟩::
 ⟨some 2,.rd (.mv (.t 51)),none⟩::
  []
def F6.c12 : RCode := .seq (.reg F6.r8) .ret
def F6.c11 : RCode := .cond (.t 40) F6.c12 .skip
def F6.c10 : RCode := .seq (.reg F6.r7) F6.c11
def F6.r9 : List ROper :=
 ⟨some 52,.rd (.mv (.t 7)),none⟩::
 ⟨some 53,.rd (.bin .eql (.t 52) (.c (.int .i64 16))),none⟩::
 ⟨some 54,.rd (.mv (.t 53)),none⟩::
 ⟨some 55,.rd (.mv (.t 6)),some (54,true)⟩::
 ⟨some 56,.rd (.load (some 9) (.t 1)),some (54,true)⟩::
 ⟨some 57,.ef (.call 20 [(.t 56)]),some (54,true)⟩::
 ⟨some 58,.rd (.bin .eql (.t 55) (.t 57)),some (54,true)⟩::
 ⟨some 59,.rd (.pick (.t 54) (.t 58) (.c (.bool false))),none⟩::
 ⟨some 60,.rd (.mv (.t 59)),none⟩::
 ⟨some 61,.ef (.call 12 []),some (60,true)⟩::
 ⟨some 62,.rd (.pick (.t 60) (.t 61) (.c (.bool false))),none⟩::
 ⟨some 2,.rd (.mv (.t 62)),none⟩::
  []
def F6.c13 : RCode := .seq (.reg F6.r9) .ret
def F6.c9 : RCode := .seq F6.c10 F6.c13
def F6.c8 : RCode := .seq (.reg F6.r6) F6.c9
def F6.c7 : RCode := .seq (.reg F6.r5) F6.c8
def F6.c6 : RCode := .seq (.reg F6.r4) F6.c7
def F6.c5 : RCode := .seq (.reg F6.r3) F6.c6
def F6.c1 : RCode := .seq F6.c2 F6.c5
def F6.c0 : RCode := .seq (.reg F6.r0) F6.c1
theorem F6.calls {args : List AV} {h : AHeap} {K : AV → AHeap → Prop} (hn : args.length ≤ 63) (k : wT .go Go.Proofs.Try.prog 63 F6.c0 (fun x e h t => atEndT t [.tmp 2] (EndW K) x e h) (envOf 0 args) h) : ACalls Go.Proofs.Try.prog 6 args h K :=
  acallsT [1] [] 63 Go.Proofs.Try.func6 Go.Proofs.Try.ntmps6 (by kernel_rfl) (by kernel_rfl) hn k
end Pg
