import Derived.Test.YtlflapoljegmoaaGreatDoorWeighJE
namespace Pg
open Go
set_option linter.all false
def dollar : ByteArray := ⟨#[36]⟩
def locs (r : Routine) : List Param := r.params.map (fun p => ⟨p.name, p.t, 2⟩) ++ r.vars.map (fun v => ⟨v.name, v.t, 2⟩)
def mapIn (n : ByteArray) (k : Nat) : List (ByteArray × Nat) → List (ByteArray × Nat)
 | [] => [(n, k)]
 | (x, u) :: r => if n = x then (n, k) :: r else (x, u) :: mapIn n k r
mutual
def rcnt : Routine → Nat
 | ⟨before, trail, name, result, params, vars, inner, body, endd⟩ => 1 + rcnts inner
def rcnts : List Routine → Nat
 | [] => 0
 | x :: r => rcnt x + rcnts r
end
theorem rcnt_eq (x : Routine) : rcnt x = 1 + rcnts x.inner := by obtain ⟨before, trail, name, result, params, vars, inner, body, endd⟩ := x; rfl
def capMap : Nat → List (ByteArray × Nat) → List Routine → List (ByteArray × Nat)
 | k, m, [] => m
 | k, m, r :: l => capMap (k + rcnt r) (mapIn r.name k m) l
structure CN where
 path : ByteArray
 around : Int
 list : List Routine
 r : Routine
 inner : List (ByteArray × Nat)
mutual
def capR (k : Nat) (whole : List Routine) (around : Int) (path : ByteArray) : Routine → List CN
 | ⟨before, trail, name, result, params, vars, inner, body, endd⟩ =>
  ⟨path ++ name, around, whole, ⟨before, trail, name, result, params, vars, inner, body, endd⟩, capMap (k + 1) [] inner⟩ :: capL (k + 1) inner k (path ++ name ++ dollar) inner
def capL (k : Nat) (whole : List Routine) (around : Int) (path : ByteArray) : List Routine → List CN
 | [] => []
 | r :: l => capR k whole around path r ++ capL (k + rcnt r) whole around path l
end
theorem capR_eq (k : Nat) (whole : List Routine) (around : Int) (path : ByteArray) (x : Routine) : capR k whole around path x = ⟨path ++ x.name, around, whole, x, capMap (k + 1) [] x.inner⟩ :: capL (k + 1) x.inner k (path ++ x.name ++ dollar) x.inner := by
 obtain ⟨before, trail, name, result, params, vars, inner, body, endd⟩ := x; rfl
mutual
theorem capR_len : ∀ (x : Routine) (k : Nat) (whole : List Routine) (around : Int) (path : ByteArray), (capR k whole around path x).length = rcnt x
 | ⟨before, trail, name, result, params, vars, inner, body, endd⟩, k, whole, around, path => by
  simp only [capR, rcnt, List.length_cons]
  rw [capL_len inner]; omega
theorem capL_len : ∀ (l : List Routine) (k : Nat) (whole : List Routine) (around : Int) (path : ByteArray), (capL k whole around path l).length = rcnts l
 | [], k, whole, around, path => rfl
 | r :: l, k, whole, around, path => by
  simp only [capL, rcnts, List.length_append]
  rw [capR_len r, capL_len l]
end
mutual
def nwR : Routine → Nat
 | ⟨before, trail, name, result, params, vars, inner, body, endd⟩ => name.size + 1 + nwRs inner
def nwRs : List Routine → Nat
 | [] => 0
 | x :: r => nwR x + nwRs r
end
theorem nwR_eq (x : Routine) : nwR x = x.name.size + 1 + nwRs x.inner := by obtain ⟨before, trail, name, result, params, vars, inner, body, endd⟩ := x; rfl
mutual
def useE : Expr → List ByteArray
 | ⟨op, n, name, field, l⟩ => (if op = 4 ∨ op = 5 ∨ op = 6 then [name] else []) ++ useEs l
def useEs : List Expr → List ByteArray
 | [] => []
 | x :: r => useE x ++ useEs r
end
mutual
def callE : Expr → List ByteArray
 | ⟨op, n, name, field, l⟩ => (if op = 7 then [name] else []) ++ callEs l
def callEs : List Expr → List ByteArray
 | [] => []
 | x :: r => callE x ++ callEs r
end
theorem useE_eq (x : Expr) : useE x = (if x.op = 4 ∨ x.op = 5 ∨ x.op = 6 then [x.name] else []) ++ useEs x.l := by
 obtain ⟨op, n, name, field, l⟩ := x; rfl
theorem callE_eq (x : Expr) : callE x = (if x.op = 7 then [x.name] else []) ++ callEs x.l := by
 obtain ⟨op, n, name, field, l⟩ := x; rfl
mutual
def useS : Stmt → List ByteArray
 | ⟨before, trail, op, name, p, e, down, more, body, els, end1, end2⟩ => (if op = 6 then [name] else []) ++ useE p ++ useEs e ++ useSs body ++ useSs els
def useSs : List Stmt → List ByteArray
 | [] => []
 | x :: r => useS x ++ useSs r
end
mutual
def callS : Stmt → List ByteArray
 | ⟨before, trail, op, name, p, e, down, more, body, els, end1, end2⟩ => callE p ++ callEs e ++ callSs body ++ callSs els
def callSs : List Stmt → List ByteArray
 | [] => []
 | x :: r => callS x ++ callSs r
end
theorem useS_eq (x : Stmt) : useS x = (if x.op = 6 then [x.name] else []) ++ useE x.p ++ useEs x.e ++ useSs x.body ++ useSs x.els := by
 obtain ⟨before, trail, op, name, p, e, down, more, body, els, end1, end2⟩ := x; rfl
theorem callS_eq (x : Stmt) : callS x = callE x.p ++ callEs x.e ++ callSs x.body ++ callSs x.els := by
 obtain ⟨before, trail, op, name, p, e, down, more, body, els, end1, end2⟩ := x; rfl
def nameAt (ns : List CN) (name : ByteArray) : Nat → Int → Option (Nat × Nat)
 | 0, _ => none
 | f + 1, i => if i < 0 then none else match ns[i.toNat]? with
  | none => none
  | some n => match (locs n.r).findIdx? (fun p => decide (p.name = name)) with
   | some k => some (i.toNat, k)
   | none => nameAt ns name f n.around
def lookN (name : ByteArray) (m : List (ByteArray × Nat)) : Option Nat := (m.find? fun p => decide (name = p.1)).map (·.2)
def routAt (ns : List CN) (top : List (ByteArray × Nat)) (name : ByteArray) : Nat → Int → Option Nat
 | 0, _ => lookN name top
 | f + 1, i => if i < 0 then lookN name top else match ns[i.toNat]? with
  | none => none
  | some n => match lookN name n.inner with
   | some k => some k
   | none => routAt ns top name f n.around
abbrev Pairs := List (Nat × Nat)
def hadd (hs : Pairs) (x : Nat × Nat) : Pairs := if x ∈ hs then hs else hs ++ [x]
def useAt (ns : List CN) (j : Nat) (hs : Pairs) (name : ByteArray) : Pairs := match nameAt ns name (j + 1) j with
 | some x => if x.1 = j then hs else hadd hs x
 | none => hs
def hasAt (ns : List CN) (j : Nat) (l : List ByteArray) (hs : Pairs) : Pairs := l.foldl (useAt ns j) hs
def callAt (ns : List CN) (top : List (ByteArray × Nat)) (j : Nat) (l : List ByteArray) : List Nat := l.filterMap fun name => routAt ns top name (j + 1) j
end Pg

namespace Pg
open Go
set_option linter.all false
def upE (u : Param) : Expr := ⟨25, 0, u.name, noBytes, []⟩
mutual
def liftE (f : ByteArray → Option (ByteArray × List Param)) : Expr → Expr
 | ⟨op, n, name, field, l⟩ => if op = 7 then match f name with
   | some (path, us) => ⟨op, n, path, field, liftEs f l ++ us.map upE⟩
   | none => ⟨op, n, name, field, liftEs f l⟩
  else ⟨op, n, name, field, liftEs f l⟩
def liftEs (f : ByteArray → Option (ByteArray × List Param)) : List Expr → List Expr
 | [] => []
 | x :: r => liftE f x :: liftEs f r
end
theorem liftE_eq (f : ByteArray → Option (ByteArray × List Param)) (x : Expr) : liftE f x = if x.op = 7 then match f x.name with
   | some (path, us) => ⟨x.op, x.n, path, x.field, liftEs f x.l ++ us.map upE⟩
   | none => { x with l := liftEs f x.l }
  else { x with l := liftEs f x.l } := by
 obtain ⟨op, n, name, field, l⟩ := x; rfl
theorem liftEs_map (f : ByteArray → Option (ByteArray × List Param)) : ∀ l, liftEs f l = l.map (liftE f)
 | [] => rfl
 | x :: r => by simp [liftEs, liftEs_map f r]
mutual
def liftS (f : ByteArray → Option (ByteArray × List Param)) : Stmt → Stmt
 | ⟨before, trail, op, name, p, e, down, more, body, els, end1, end2⟩ => ⟨before, trail, op, name, { p with l := liftEs f p.l }, liftEs f e, down, more, liftSs f body, liftSs f els, end1, end2⟩
def liftSs (f : ByteArray → Option (ByteArray × List Param)) : List Stmt → List Stmt
 | [] => []
 | x :: r => liftS f x :: liftSs f r
end
theorem liftS_eq (f : ByteArray → Option (ByteArray × List Param)) (x : Stmt) : liftS f x = ⟨x.before, x.trail, x.op, x.name, { x.p with l := liftEs f x.p.l }, liftEs f x.e, x.down, x.more, liftSs f x.body, liftSs f x.els, x.end1, x.end2⟩ := by
 obtain ⟨before, trail, op, name, p, e, down, more, body, els, end1, end2⟩ := x; rfl
theorem liftSs_map (f : ByteArray → Option (ByteArray × List Param)) : ∀ l, liftSs f l = l.map (liftS f)
 | [] => rfl
 | x :: r => by simp [liftSs, liftSs_map f r]
end Pg
