/- An abstract interpreter of the loaded code: values, memory, one operation. · An abstract interpreter of the loaded code: references, calls, operations, code. · An abstract interpreter of the loaded code: regions, control, functions. -/
import Derived.Calls
import Derived.Orders
section
set_option linter.unusedVariables false
set_option linter.unusedSimpArgs false
set_option linter.constructorNameAsVariable false
namespace Go.Proofs.YtkenjojkpdeooaaGreatDoor.AI

/-- A cell's value that never changes. -/
inductive PV where
  | int (x : Int) | bool (b : Bool) | str (s : ByteArray) | sl (n : Nat) (get : Nat → Nat → PV) | bad
def PV.i : PV → Int | .int x => x | _ => 0
def PV.b : PV → Bool | .bool b => b | _ => false
def PV.s : PV → ByteArray | .str s => s | _ => ⟨#[]⟩
def PV.n : PV → Nat | .sl n _ => n | _ => 0
def PV.get : PV → Nat → Nat → PV | .sl _ g => g | _ => fun _ _ => .bad
/-- A cell's kind. -/
inductive CK where | int (k : IntKind) | bool | str | sl (E : TypeId) | ptr | func | oth
  deriving DecidableEq
inductive TK where
  | int (k : IntKind) | bool | str | slice (E : TypeId) | ptr (E : TypeId) | struct (fs : List (Nat × TypeId)) | func | oth
structure TyD where
  k : TK
  cks : List CK
  bytes : Nat
  eq : Bool
abbrev Ty := TypeId → TyD

/-- A value of a frame. -/
inductive AV where
  | undef
  | int (k : IntKind) (x : Int) | bool (b : Bool) | str (s : ByteArray)
  | nils
  | psl (E : TypeId) (n : Nat) (get : Nat → Nat → PV)
  | agg (cs : List AV)
  | tup (cs : List AV)
  | adr (o i off : Nat)
  | padr (E : TypeId) (off : Nat) (cell : Nat → PV)
  | row (o : Nat)
  | rowv (o lo hi : Nat)
  | fn (f : FuncId) (cap : List AV)
  | nilp | nilf

inductive Ob where
  | box (cs : List AV)
  | prow (E : TypeId) (n : Nat) (get : Nat → Nat → PV)
  | arow (E : TypeId) (n : Nat) (cs : List AV)
  | iter (s : ByteArray) (pos : Nat)

abbrev Mem := List (Nat × Ob)
def Mem.get : Mem → Nat → Option Ob
  | [], _ => none
  | (a, x) :: r, o => bif Nat.beq a o then some x else Mem.get r o
def Mem.del : Mem → Nat → Mem
  | [], _ => []
  | (a, x) :: r, o => bif Nat.beq a o then Mem.del r o else (a, x) :: Mem.del r o
def Mem.dels (m : Mem) : List Nat → Mem
  | [] => m
  | o :: r => Mem.dels (m.del o) r
def Mem.set : Mem → Nat → Ob → Mem
  | [], _, _ => []
  | (a, x) :: r, o, y => bif Nat.beq a o then (a, y) :: r else (a, x) :: Mem.set r o y
def Mem.add (m : Mem) (o : Nat) (x : Ob) : Mem := (o, x) :: m

def zeroCK : CK → AV
  | .int k => .int k 0 | .bool => .bool false | .str => .str ⟨#[]⟩ | .sl _ => .nils | .ptr => .nilp | .func => .nilf | .oth => .undef
def ofPV : CK → PV → AV
  | .int k, p => .int k p.i | .bool, p => .bool p.b | .str, p => .str p.s | .sl E, p => .psl E p.n p.get | _, _ => .undef
def zeroPV : CK → PV
  | .int _ => .int 0 | .bool => .bool false | .str => .str ⟨#[]⟩ | .sl _ => .sl 0 (fun _ _ => .bad) | _ => .bad

def pureCK : CK → Bool | .int _ | .bool | .str | .sl _ => true | _ => false
def slCK : CK → Bool | .sl _ => true | _ => false
def frzList (go : CK → Mem → AV → Option (PV × Mem)) (ck : Nat → CK) : List AV → Nat → Mem → Option (List PV × Mem)
  | [], _, m => some ([], m)
  | v :: r, i, m =>
    match go (ck i) m v with
    | some (p, m) => match frzList go ck r (i + 1) m with
      | some (ps, m) => some (p :: ps, m)
      | none => none
    | none => none
/-- cells freeze: a row that is stored in what doesn't change is no row of the frame's any more. -/
def frz (TY : Ty) : Nat → CK → Mem → AV → Option (PV × Mem)
  | 0, _, _, _ => none
  | d + 1, c, m, v =>
    match v with
    | .int k x => match c with | .int k' => if k = k' then some (.int x, m) else none | _ => none
    | .bool b => match c with | .bool => some (.bool b, m) | _ => none
    | .str s => match c with | .str => some (.str s, m) | _ => none
    | .nils => match c with | .sl _ => some (.sl 0 (fun _ _ => .bad), m) | _ => none
    | .psl E n g => match c with | .sl E' => if Nat.beq E E' then some (.sl n g, m) else none | _ => none
    | .row o =>
      match c with
      | .sl E' =>
        match m.get o with
        | some (.prow E n g) => if Nat.beq E E' then some (.sl n g, m.del o) else none
        | some (.arow E n cs) =>
          if Nat.beq E E' then
            match frzList (frz TY d) (fun i => (TY E).cks.getD (i % (TY E).cks.length) .oth) cs 0 (m.del o) with
            | some (ps, m) => some (.sl n (fun i j => ps.getD (i * (TY E).cks.length + j) .bad), m)
            | none => none
          else none
        | _ => none
      | _ => none
    | _ => none
def depth : Nat := 8
def frzs (TY : Ty) : List CK → Mem → List AV → Option (List PV × Mem)
  | [], m, [] => some ([], m)
  | c :: cs, m, v :: vs => match frz TY depth c m v with
    | some (p, m) => match frzs TY cs m vs with
      | some (ps, m) => some (p :: ps, m)
      | none => none
    | none => none
  | _, _, _ => none

def ofConst : Value → AV
  | .int k x => .int k x | .bool b => .bool b | .string s => .str s | .slice none 0 0 => .nils | .pointer none => .nilp | .nilFunc => .nilf | _ => .undef
/-- What a frame's places hold: the newest first. -/
abbrev Env := List (Nat × AV)
def Env.get : Env → Nat → AV
  | [], _ => .undef
  | (a, x) :: r, t => bif Nat.beq a t then x else Env.get r t
def eval (tmps : Env) : Operand → AV
  | .tmp t => tmps.get t
  | .const v => ofConst v
  | .func f => .fn f []
  | .global _ => .undef

def TK.oth? : TK → Bool | .oth => true | _ => false
/-- What is known of a type; of some nothing is. -/
def tyd {α : Type} (TY : Ty) (T : TypeId) (k : TyD → Option α) : Option α :=
  match (TY T).k.oth? with
  | true => none
  | false => k (TY T)
/-- A value that is one cell. -/
def AV.cellOk : AV → Bool
  | .undef | .agg _ | .tup _ => false | _ => true
def AV.cells : AV → List AV
  | .agg cs => cs | v => [v]
def AV.known : AV → Bool
  | .undef | .tup _ => false | _ => true
def isAggK : TK → Bool | .struct _ => true | _ => false
/-- One value out of its cells. -/
def pack (t : TyD) (cs : List AV) : AV := if isAggK t.k then .agg cs else cs.getD 0 .undef
def setRange (cs : List AV) (off : Nat) (vs : List AV) : List AV := cs.take off ++ vs ++ cs.drop (off + vs.length)
def pcells (cks : List CK) (cell : Nat → PV) (off : Nat) : List AV :=
  match cks with
  | [] => []
  | c :: r => ofPV c (cell off) :: pcells r cell (off + 1)
def sub (l : List CK) (off len : Nat) : List CK := (l.drop off).take len

section
variable {α : Type} (TY : Ty)

def loadK (T : TypeId) (m : Mem) (a : AV) (k : AV → Option α) : Option α :=
  tyd TY T fun t =>
  match a with
  | .adr o i off =>
    match m.get o with
    | some (.box cs) => if Nat.ble (off + t.cks.length) cs.length then k (pack t ((cs.drop off).take t.cks.length)) else none
    | some (.prow E n g) => if sub (TY E).cks off t.cks.length = t.cks then k (pack t (pcells t.cks (g i) off)) else none
    | some (.arow E n cs) => if Nat.ble ((i * (TY E).cks.length + off) + t.cks.length) cs.length then k (pack t ((cs.drop (i * (TY E).cks.length + off)).take t.cks.length)) else none
    | _ => none
  | .padr E off cell => if sub (TY E).cks off t.cks.length = t.cks then k (pack t (pcells t.cks cell off)) else none
  | _ => none

def setRow (g : Nat → Nat → PV) (i off : Nat) (ps : List PV) : Nat → Nat → PV :=
  fun i' j => if i' = i then (if Nat.ble off j && Nat.blt j (off + ps.length) then ps.getD (j - off) .bad else g i' j) else g i' j
def storeK (T : TypeId) (m : Mem) (a v : AV) (k : Mem → Option α) : Option α :=
  tyd TY T fun t =>
  if v.cells.all AV.cellOk && Nat.beq v.cells.length t.cks.length then
    match a with
    | .adr o i off =>
      match m.get o with
      | some (.box cs) => if Nat.ble (off + t.cks.length) cs.length then k (m.set o (.box (setRange cs off v.cells))) else none
      | some (.prow E n g) =>
        if Nat.ble (off + t.cks.length) (TY E).cks.length then
          if sub (TY E).cks off t.cks.length = t.cks then
            match frzs TY t.cks m v.cells with
            | some (ps, m') => match m'.get o with
              | some _ => k (m'.set o (.prow E n (setRow g i off ps)))
              | none => none
            | none => none
          else none
        else none
      | some (.arow E n cs) =>
        let p := i * (TY E).cks.length + off
        if Nat.ble (p + t.cks.length) cs.length then k (m.set o (.arow E n (setRange cs p v.cells))) else none
      | _ => none
    | _ => none
  else none

def bits (op : BinOp) (k : IntKind) (x y : Int) : Option Int :=
  let a := BitVec.ofInt k.bits x
  let b := BitVec.ofInt k.bits y
  match op with
  | .and => some (k.wrap (a &&& b).toNat)
  | .or => some (k.wrap (a ||| b).toNat)
  | .xor => some (k.wrap (a ^^^ b).toNat)
  | .andNot => some (k.wrap (a &&& ~~~b).toNat)
  | _ => none
def intK (op : BinOp) (k : IntKind) (x y : Int) (c : AV → Option α) : Option α :=
  match op with
  | .add => c (.int k (k.wrap (x + y)))
  | .sub => c (.int k (k.wrap (x - y)))
  | .mul => c (.int k (k.wrap (x * y)))
  | .quo => if y = 0 then none else c (.int k (k.wrap (x.tdiv y)))
  | .rem => if y = 0 then none else c (.int k (x.tmod y))
  | .eql => c (.bool (x == y))
  | .neq => c (.bool (x != y))
  | .lss => c (.bool (decide (x < y)))
  | .leq => c (.bool (decide (x ≤ y)))
  | .gtr => c (.bool (decide (x > y)))
  | .geq => c (.bool (decide (x ≥ y)))
  | op => match bits op k x y with | some z => c (.int k z) | none => none
def strK (op : BinOp) (x y : ByteArray) (c : AV → Option α) : Option α :=
  match op with
  | .add => if x.size + y.size ≤ 140737488355328 then c (.str (x ++ y)) else none
  | .eql => c (.bool (x.toList == y.toList))
  | .neq => c (.bool (!(x.toList == y.toList)))
  | .lss => c (.bool (Op.bytesLess x.toList y.toList))
  | .leq => c (.bool (Op.bytesLess x.toList y.toList || x.toList == y.toList))
  | .gtr => c (.bool (!(Op.bytesLess x.toList y.toList || x.toList == y.toList)))
  | .geq => c (.bool (!Op.bytesLess x.toList y.toList))
  | _ => none
/-- Equal cell by cell, for cells that can be compared. -/
def eqCells : List CK → List AV → List AV → Option Bool
  | [], [], [] => some true
  | .int _ :: cs, .int _ x :: xs, .int _ y :: ys => match eqCells cs xs ys with | some b => some ((x == y) && b) | none => none
  | .bool :: cs, .bool x :: xs, .bool y :: ys => match eqCells cs xs ys with | some b => some ((x == y) && b) | none => none
  | .str :: cs, .str x :: xs, .str y :: ys => match eqCells cs xs ys with | some b => some ((x == y) && b) | none => none
  | _, _, _ => none
def binK (op : BinOp) (T : TypeId) (x y : AV) (c : AV → Option α) : Option α :=
  match x, y with
  | .int k a, .int k' b =>
    match op with
    | .shl => if b < 0 then none else c (.int k (k.wrap (a * 2 ^ (min b.toNat k.bits))))
    | .shr => if b < 0 then none else c (.int k (a.fdiv (2 ^ (min b.toNat k.bits))))
    | op => if k = k' then intK op k a b c else none
  | .str a, .str b => strK op a b c
  | .bool a, .bool b => (match (TY T).k with | .bool => (match op with | .eql => c (.bool (a == b)) | .neq => c (.bool (!(a == b))) | _ => none) | _ => none)
  | .agg xs, .agg ys =>
    match (TY T).eq with
    | true => (match eqCells (TY T).cks xs ys with
      | some b => match op with | .eql => c (.bool b) | .neq => c (.bool (!b)) | _ => none
      | none => none)
    | false => none
  | _, _ => none
def unK (op : UnOp) (x : AV) (c : AV → Option α) : Option α :=
  match op, x with
  | .not, .bool b => c (.bool (!b))
  | .neg, .int k n => c (.int k (k.wrap (0 - n)))
  | _, _ => none

/-- A slice of an element type, read: its length, its elements. -/
def seen (E : TypeId) (m : Mem) : AV → Option (Nat × (Nat → Nat → PV))
  | .psl E' n g => if Nat.beq E E' then some (n, g) else none
  | .nils => some (0, fun _ _ => .bad)
  | .row o => match m.get o with | some (.prow E' n g) => if Nat.beq E E' then some (n, g) else none | _ => none
  | .rowv o lo hi => match m.get o with | some (.prow E' n g) => if Nat.beq E E' then some (hi - lo, fun i j => g (lo + i) j) else none | _ => none
  | _ => none
def lenOf (m : Mem) : AV → Option Nat
  | .psl _ n _ => some n
  | .nils => some 0
  | .str s => some s.size
  | .row o => match m.get o with | some (.prow _ n _) => some n | some (.arow _ n _) => some n | _ => none
  | .rowv o lo hi => match m.get o with | some (.prow ..) | some (.arow ..) => some (hi - lo) | _ => none
  | _ => none
def cat (n : Nat) (g h : Nat → Nat → PV) : Nat → Nat → PV := fun i j => if i < n then g i j else h (i - n) j
def strGet (s : ByteArray) : Nat → Nat → PV := fun i _ => .int ((s.get! i).toNat : Int)
end
end Go.Proofs.YtkenjojkpdeooaaGreatDoor.AI
end
section
set_option linter.unusedVariables false
set_option linter.unusedSimpArgs false
set_option linter.constructorNameAsVariable false
namespace Go.Proofs.YtkenjojkpdeooaaGreatDoor.AI

mutual
def AV.refs : AV → List Nat
  | .adr o _ _ => [o] | .row o => [o] | .rowv o _ _ => [o]
  | .agg cs => refsL cs | .tup cs => refsL cs | .fn _ cs => refsL cs
  | _ => []
def refsL : List AV → List Nat
  | [] => []
  | v :: r => v.refs ++ refsL r
end
mutual
/-- References get new names; those that have none are forgotten. -/
def AV.ren (f : Nat → Option Nat) : AV → AV
  | .adr o i off => match f o with | some p => .adr p i off | none => .undef
  | .row o => match f o with | some p => .row p | none => .undef
  | .rowv o lo hi => match f o with | some p => .rowv p lo hi | none => .undef
  | .agg cs => .agg (renL f cs) | .tup cs => .tup (renL f cs) | .fn g cs => .fn g (renL f cs)
  | v => v
def renL (f : Nat → Option Nat) : List AV → List AV
  | [] => []
  | v :: r => v.ren f :: renL f r
end
def Ob.refs : Ob → List Nat
  | .box cs => refsL cs | .arow _ _ cs => refsL cs | _ => []
def Ob.ren (f : Nat → Option Nat) : Ob → Ob
  | .box cs => .box (renL f cs) | .arow E n cs => .arow E n (renL f cs) | x => x
/-- What is reached, in order of the first meeting. -/
def reach (m : Mem) : Nat → List Nat → List Nat → List Nat
  | 0, _, seen => seen
  | _ + 1, [], seen => seen
  | d + 1, o :: r, seen =>
    if seen.any (Nat.beq o) then reach m d r seen
    else match m.get o with
      | some x => reach m d (r ++ x.refs) (seen ++ [o])
      | none => reach m d r seen
def reachFuel : Nat := 400
def idx (o : Nat) : List Nat → Nat → Option Nat
  | [], _ => none
  | a :: r, i => bif Nat.beq a o then some i else idx o r (i + 1)
def pick_ (f : Nat → Option Nat) (m : Mem) : List Nat → Mem
  | [] => []
  | o :: r => match f o, m.get o with
    | some p, some x => (p, x.ren f) :: pick_ f m r
    | _, _ => pick_ f m r

structure FS where
  tmps : Env
  mem : Mem
  nx : Nat
def FS.put (s : FS) (dst : Option Nat) (v : AV) (m : Mem) : FS :=
  match dst with
  | some d => { tmps := (d, v) :: s.tmps, mem := m, nx := s.nx }
  | none => { tmps := s.tmps, mem := m, nx := s.nx }

structure Hint where
  keep : List Nat
  own : List (Nat × Nat × TypeId)
inductive Ex where | normal | exit (id : Nat) | goto (l : Nat) | ret
structure Own where
  params : List Nat
  results : List Nat
structure Ctx where
  TY : Ty
  ft : FuncId → Option Func
  hint : FuncId → Nat → Option Hint
  own : FuncId → Own
  nat : FuncId → Option (List AV → Option AV)

/-- What whole loops do: from a loop's head's state to its end's, of which no more is kept than is said. -/
abbrev Loops := FuncId → Nat → Option (Hint × (Nat → FS → Option (Ex × FS)))
section
variable (C : Ctx) {α : Type}

/-- What is no more. -/
def gone (m m' : Mem) : List Nat := (m.map (·.1)).filter fun o => (m'.get o).isNone
/-- An argument as the callee sees it: a row is looked at; and the rows so lent. -/
def snapCell (m : Mem) (c : CK) (v : AV) : Option (AV × List Nat) :=
  match c with
  | .sl E =>
    match v with
    | .nils => some (.psl E 0 (fun _ _ => .bad), [])
    | .psl E' n g => some (.psl E' n g, [])
    | .row o => match frz C.TY depth c m v with
      | some (p, m') => some (.psl E p.n p.get, gone m m')
      | none => none
    | .rowv o lo hi => match m.get o with
      | some (.prow E' n g) => if Nat.beq E E' then some (.psl E (hi - lo) (fun i j => g (lo + i) j), [o]) else none
      | _ => none
    | _ => none
  | _ => some (v, [])
def snapCells (m : Mem) : List CK → List AV → Option (List AV × List Nat)
  | [], [] => some ([], [])
  | c :: cs, v :: vs => match snapCell C m c v with
    | some (x, l) => match snapCells m cs vs with
      | some (xs, ls) => some (x :: xs, l ++ ls)
      | none => none
    | none => none
  | _, _ => none
def snapArg (m : Mem) (T : TypeId) (v : AV) : Option (AV × List Nat) :=
  match v with
  | .agg cs => match snapCells C m (C.TY T).cks cs with
    | some (xs, l) => some (.agg xs, l)
    | none => none
  | v => snapCell C m ((C.TY T).cks.getD 0 .oth) v
/-- The arguments: own ones (a nil slice becomes an empty row), others as they are seen. -/
def snapArgs (own : List Nat) (id : Nat) : Nat → List TypeId → List AV → Mem → Option (List AV × List Nat × Mem)
  | _, [], vs, m => some (vs, [], m)
  | i, T :: Ts, v :: vs, m =>
    if own.any (Nat.beq i) && Nat.blt i 8 then
      match v with
      | .nils => match snapArgs own id (i + 1) Ts vs (m.add (id + 8 + i) (.prow (match (C.TY T).k with | .slice E => E | _ => 0) 0 (fun _ _ => .bad))) with
        | some (xs, l, m) => some (.row (id + 8 + i) :: xs, l, m)
        | none => none
      | v => match snapArgs own id (i + 1) Ts vs m with
        | some (xs, l, m) => some (v :: xs, l, m)
        | none => none
    else match snapArg C m T v with
      | some (x, l1) => match snapArgs own id (i + 1) Ts vs m with
        | some (xs, l, m) => some (x :: xs, l1 ++ l, m)
        | none => none
      | none => none
  | _, _, [], _ => none
def meets (a b : List Nat) : Bool := a.any fun x => b.any fun y => Nat.beq x y
def AV.plain1 : AV → Bool | .int .. | .bool _ | .str _ => true | _ => false
/-- A value that leads nowhere. -/
def AV.plain : AV → Bool | .agg cs => cs.all AV.plain1 | .tup cs => cs.all AV.plain1 | v => v.plain1

/-- A call: what the callee is given, and what it leaves. 'ro': of what there was nothing but these may be written. -/
def callK (call : FuncId → List AV → Mem → Option (AV × Mem)) (ro : Option (List Nat)) (f : FuncId) (args : List AV) (id : Nat) (m : Mem) (k : AV → Mem → Option α) : Option α :=
  match C.ft f with
  | none => none
  | some fn =>
    match snapArgs C (C.own f).params id 0 fn.params.toList args m with
    | none => none
    | some (xs, lent, m) =>
      let ids := reach m reachFuel (refsL xs) []
      let fin := fun o => idx o ids 0
      let mc := pick_ fin m ids
      if Nat.beq mc.length ids.length && !meets ids lent then
        match call f (renL fin xs) mc with
        | none => none
        | some (r, m') =>
          if r.plain && ids.isEmpty then k r m
          else if ro.isSome then none
          else
            let n := ids.length
            let fout := fun o => if Nat.blt o n then ids[o]? else (if Nat.blt (o - n) 7 then some (id + 1 + (o - n)) else none)
            k (r.ren fout) (pick_ fout m' (m'.map (·.1)) ++ (m.dels ids).dels lent)
      else none

def tyElem (T : TypeId) : TypeId := match (C.TY T).k with | .slice E => E | _ => 0

/-- A slice type's element type, of which something is known. -/
def elemK (S : TypeId) (k : TypeId → TyD → Option α) : Option α :=
  match (C.TY S).k with
  | .slice E => tyd C.TY E (fun t => k E t)
  | _ => none
/-- What is appended: a slice that is read, or a string's bytes. -/
def srcK (E Ts : TypeId) (m : Mem) (s : AV) : Option (Nat × (Nat → Nat → PV)) :=
  match s with
  | .str b => (match (C.TY Ts).k with
    | .str => (match (C.TY E).k with | .int .u8 => some (b.size, strGet b) | _ => none)
    | _ => none)
  | s => (match (C.TY Ts).k with
    | .slice _ => seen E m s
    | _ => none)
/-- A row's cells, as values. -/
def rowCells (cks : List CK) (n : Nat) (g : Nat → Nat → PV) : List AV := (List.range (n * cks.length)).map fun q => ofPV (cks.getD (q % cks.length) .oth) (g (q / cks.length) (q % cks.length))
def arowOf (m : Mem) : AV → Option (Nat × TypeId × Nat × List AV)
  | .row p => (match m.get p with | some (.arow E n cs) => if cs.all AV.cellOk then some (p, E, n, cs) else none | _ => none)
  | _ => none
/-- append onto a row of values that don't change (or onto nil); 'del': the row that gives its place up. -/
def appP (E Ts : TypeId) (t : TyD) (id : Nat) (m : Mem) (del : List Nat) (n : Nat) (g : Nat → Nat → PV) (s : AV) (k : AV → Mem → Option α) : Option α :=
  match arowOf m s with
  | some (p, E2, n2, cs2) =>
    if Nat.beq n 0 && Nat.beq E E2 && Nat.ble (n2 * (t.bytes + 1)) 140737488355328 && slice? Ts then k (.row id) (((m.del p).dels del).add id (.arow E n2 cs2)) else none
  | none =>
    match srcK C E Ts m s with
    | some (n2, g2) => if (n + n2) * (t.bytes + 1) ≤ 140737488355328 then k (.row id) ((m.dels del).add id (.prow E (n + n2) (cat n g g2))) else none
    | none => none
where slice? (Ts : TypeId) : Bool := match (C.TY Ts).k with | .slice _ => true | _ => false
/-- append's result: the old row gives its place up. -/
def appendK (T Ts : TypeId) (id : Nat) (m : Mem) (d s : AV) (k : AV → Mem → Option α) : Option α :=
  elemK C T fun E t =>
  match d with
  | .nils => appP C E Ts t id m [] 0 (fun _ _ => .bad) s k
  | .row o =>
    match m.get o with
    | some (.prow E' n g) => if Nat.beq E E' then appP C E Ts t id m [o] n g s k else none
    | some (.arow E' n cs) =>
      if Nat.beq E E' then
        match arowOf m s with
        | some (p, E2, n2, cs2) => if Nat.beq E E2 && !Nat.beq o p && appP.slice? C Ts && Nat.ble ((n + n2) * (t.bytes + 1)) 140737488355328 then k (.row id) (((m.del p).dels [o]).add id (.arow E (n + n2) (cs ++ cs2))) else none
        | none => match srcK C E Ts m s with
          | some (n2, g2) => if Nat.ble ((n + n2) * (t.bytes + 1)) 140737488355328 then k (.row id) ((m.dels [o]).add id (.arow E (n + n2) (cs ++ rowCells t.cks n2 g2))) else none
          | none => none
      else none
    | _ => none
  | _ => none
def copyRow (n : Nat) (g : Nat → Nat → PV) (lo len : Nat) (g2 : Nat → Nat → PV) : Nat → Nat → PV := fun i j => if lo ≤ i ∧ i < lo + len then g2 (i - lo) j else g i j
def copyTo (E : TypeId) (m : Mem) (o lo len : Nat) (s : AV) (k : AV → Mem → Option α) : Option α :=
  match m.get o with
  | some (.prow E' n g) =>
    if Nat.beq E E' then
      match seen E m s with
      | some (n2, g2) => k (.int .i64 ((min n2 len : Nat) : Int)) (m.set o (.prow E n (copyRow n g lo (min n2 len) g2)))
      | none => none
    else none
  | _ => none
def copyK (T Ts : TypeId) (m : Mem) (d s : AV) (k : AV → Mem → Option α) : Option α :=
  elemK C T fun E _ =>
  match d with
  | .row o => match lenOf m (.row o) with | some n => copyTo E m o 0 n s k | none => none
  | .rowv o lo hi => copyTo E m o lo (hi - lo) s k
  | _ => none
def fillAV (cs : List AV) : List (Nat × Nat × AV) → Option (List AV)
  | [] => some cs
  | (off, n, v) :: r => if v.known && Nat.beq v.cells.length n && Nat.ble (off + n) cs.length then fillAV (setRange cs off v.cells) r else none
def partsOf (fs : List (Nat × TypeId)) (ev : Operand → AV) : List (Nat × Operand) → List (Nat × Nat × AV)
  | [] => []
  | (i, x) :: r => (match fs[i]? with | some (o, t) => (o, (C.TY t).cks.length, ev x) | none => (0, 0, .undef)) :: partsOf fs ev r
def rowE (m : Mem) (o : Nat) : Option (TypeId × Nat) :=
  match m.get o with | some (.prow E n _) => some (E, n) | some (.arow E n _) => some (E, n) | _ => none
def idxK (n : Nat) (x : Int) (k : Nat → Option α) : Option α := if 0 ≤ x then (if x < (n : Int) then k x.toNat else none) else none
def lowK (lo : Option AV) (h : Nat) (k : Nat → Nat → Option α) : Option α :=
  match lo with
  | none => k 0 h
  | some (.int _ l) => if 0 ≤ l then (if l ≤ (h : Int) then k l.toNat h else none) else none
  | _ => none
def cutK (n : Nat) (lo hi : Option AV) (k : Nat → Nat → Option α) : Option α :=
  match hi with
  | none => lowK lo n k
  | some (.int _ h) => if 0 ≤ h then (if h ≤ (n : Int) then lowK lo h.toNat k else none) else none
  | _ => none
def maxInts (big : Bool) : List AV → AV → (AV → Option α) → Option α
  | [], v, k => k v
  | .int k' y :: r, .int kd x, k => if kd = k' then maxInts big r (.int kd (if big then (if y > x then y else x) else (if y < x then y else x))) k else none
  | _, _, _ => none
def decodeNext (s : ByteArray) (pos : Nat) : Nat × Nat := Utf8.decode s pos
def runeList (s : ByteArray) : List Int := (Conv.runesFrom s s.size 0 #[]).toList.map fun v => match v with | .int _ x => x | _ => 0
def convK (S D : TypeId) (x : AV) (id : Nat) (m : Mem) (k : AV → Mem → Option α) : Option α :=
  match (C.TY S).k, (C.TY D).k, x with
  | .int _, .int kd, .int _ n => k (.int kd (kd.wrap n)) m
  | .int _, .str, .int _ n => k (.str (Utf8.encode n)) m
  | .str, .str, .str s => k (.str s) m
  | .str, .slice E, .str s =>
    match (C.TY E).k with
    | .int .u8 => k (.psl E s.size (strGet s)) m
    | .int .i32 => k (.psl E (runeList s).length (fun i _ => .int ((runeList s).getD i 0))) m
    | _ => none
  | .slice E, .str, x =>
    match (C.TY E).k with
    | .int .u8 => match seen E m x with
      | some (n, g) => k (.str ⟨((List.range n).map fun i => UInt8.ofNat (g i 0).i.toNat).toArray⟩) m
      | none => none
    | _ => none
  | _, _, _ => none

def lenK (T : TypeId) (m : Mem) (v : AV) (k : Nat → Option α) : Option α :=
  match v with
  | .str s => (match (C.TY T).k with | .str => k s.size | _ => none)
  | v => (match (C.TY T).k with
    | .slice _ => (match lenOf m v with | some n => k n | none => none)
    | _ => none)

/-- One operation (not a call of a function, not a choice). -/
def opK (T : TypeId) (op : Op) (id : Nat) (ev : Operand → AV) (m : Mem) (k : AV → Mem → Option α) : Option α :=
  match op with
  | .move x | .assign x => k (ev x) m
  | .alloc E => tyd C.TY E fun t => k (.adr id 0 0) (m.add id (.box (t.cks.map zeroCK)))
  | .box E x => let v := ev x; if v.known then k (.adr id 0 0) (m.add id (.box v.cells)) else none
  | .build S parts =>
    match (C.TY S).k with
    | .struct fs => match fillAV ((C.TY S).cks.map zeroCK) (partsOf C fs ev parts.toList) with
      | some cs => k (.agg cs) m
      | none => none
    | _ => none
  | .buildSlice S n parts =>
    elemK C S fun E t =>
    if Nat.ble n 16777216 && Nat.ble (n * t.cks.length) 16777216 then
      match fillAV ((List.range (n * t.cks.length)).map fun i => zeroCK (t.cks.getD (i % t.cks.length) .oth)) (parts.toList.map fun p => (p.1 * t.cks.length, t.cks.length, ev p.2)) with
      | some cs => match frzs C.TY ((List.range (n * t.cks.length)).map fun i => t.cks.getD (i % t.cks.length) .oth) m cs with
        | some (ps, m) => k (.row id) (m.add id (.prow E n (fun i j => ps.getD (i * t.cks.length + j) .bad)))
        | none => k (.row id) (m.add id (.arow E n cs))
      | none => none
    else none
  | .load S a => loadK C.TY S m (ev a) (fun v => k v m)
  | .store S a x => storeK C.TY S m (ev a) (ev x) (fun m => k .undef m)
  | .nilCheck x => match ev x with | .adr o i off => k (.adr o i off) m | .padr E off c => k (.padr E off c) m | _ => none
  | .binOp b S x y _ => binK C.TY b S (ev x) (ev y) (fun v => k v m)
  | .unOp u _ x => unK u (ev x) (fun v => k v m)
  | .convert S D x => convK C S D (ev x) id m k
  | .makeFunc (.func f) first cap => if first.isEmpty then k (.fn f (cap.toList.map ev)) m else none
  | .makeSlice S l c =>
    match ev l, ev c with
    | .int _ x, .int _ y =>
      elemK C S fun E t =>
      if 0 ≤ x then (if y = x then (if x ≤ 140737488355328 then (if x * t.bytes ≤ 140737488355328 then
        (if t.cks.all pureCK && !(t.cks.all slCK) then k (.row id) (m.add id (.prow E x.toNat (fun _ j => zeroPV (t.cks.getD j .oth))))
         else k (.row id) (m.add id (.arow E x.toNat ((List.range (x.toNat * t.cks.length)).map fun i => zeroCK (t.cks.getD (i % t.cks.length) .oth)))))
        else none) else none) else none) else none
    | _, _ => none
  | .slice S x lo hi none =>
    match ev x with
    | .str s => (match (C.TY S).k with | .str => cutK s.size (lo.map ev) (hi.map ev) fun l h => k (.str (s.extract l h)) m | _ => none)
    | .psl E n g => elemK C S fun E' _ => if Nat.beq E E' then cutK n (lo.map ev) (hi.map ev) fun l h => k (.psl E (h - l) (fun i j => g (l + i) j)) m else none
    | .nils => elemK C S fun _ _ => cutK 0 (lo.map ev) (hi.map ev) fun l h => k .nils m
    | .row o => elemK C S fun E' _ => match rowE m o with
      | some (E, n) => if Nat.beq E E' then cutK n (lo.map ev) (hi.map ev) fun l h => k (.rowv o l h) m else none
      | none => none
    | _ => none
  | .fieldAddr S x f =>
    match (C.TY S).k with
    | .struct fs => match fs[f]? with
      | some (fo, _) => (match ev x with
        | .adr o i off => k (.adr o i (off + fo)) m
        | .padr E off c => k (.padr E (off + fo) c) m
        | _ => none)
      | none => none
    | _ => none
  | .indexAddr S x i =>
    match ev i with
    | .int _ j =>
      elemK C S fun E' _ =>
      match ev x with
      | .psl E n g => if Nat.beq E E' then idxK n j fun i => k (.padr E 0 (g i)) m else none
      | .row o => (match rowE m o with
        | some (E, n) => if Nat.beq E E' then idxK n j fun i => k (.adr o i 0) m else none
        | none => none)
      | .rowv o lo hi => (match rowE m o with
        | some (E, n) => if Nat.beq E E' then idxK (hi - lo) j fun i => k (.adr o (lo + i) 0) m else none
        | none => none)
      | _ => none
    | _ => none
  | .index S x i =>
    match ev x, ev i with
    | .str s, .int _ j => (match (C.TY S).k with | .str => idxK s.size j fun i => k (.int .u8 ((s.get! i).toNat : Int)) m | _ => none)
    | _, _ => none
  | .range S x => (match ev x with | .str s => (match (C.TY S).k with | .str => k (.adr id 0 0) (m.add id (.iter s 0)) | _ => none) | _ => none)
  | .next it true =>
    match ev it with
    | .adr o 0 0 => (match m.get o with
      | some (.iter s pos) =>
        if pos < s.size then k (.tup [.bool true, .int .i64 (pos : Int), .int .i32 ((Utf8.decode s pos).1 : Int)]) (m.set o (.iter s (pos + (Utf8.decode s pos).2)))
        else k (.tup [.bool false]) m
      | _ => none)
    | _ => none
  | .extract t i => match ev t with | .tup cs => (match cs[i]? with | some v => k v m | none => none) | _ => none
  | .call c =>
    match c.callee with
    | .builtin .len => match c.args.toList.map ev, c.argTypes.toList with | [v], [T] => lenK C T m v (fun n => k (.int .i64 (n : Int)) m) | _, _ => none
    | .builtin .append => match c.args.toList.map ev, c.argTypes.toList with | [d, s], [T, Ts] => appendK C T Ts id m d s k | _, _ => none
    | .builtin .copy => match c.args.toList.map ev, c.argTypes.toList with | [d, s], [T, Ts] => copyK C T Ts m d s k | _, _ => none
    | .builtin .max => match c.args.toList.map ev with | v :: r => maxInts true r v (fun v => k v m) | _ => none
    | .builtin .min => match c.args.toList.map ev with | v :: r => maxInts false r v (fun v => k v m) | _ => none
    | _ => none
  | _ => none
end
end Go.Proofs.YtkenjojkpdeooaaGreatDoor.AI
end
section
set_option linter.unusedVariables false
set_option linter.unusedSimpArgs false
set_option linter.constructorNameAsVariable false
namespace Go.Proofs.YtkenjojkpdeooaaGreatDoor.AI


/-! What an operation touches, for regions that draw their order. -/
/-- what an operation looks at, and what it writes -/
def footCall (C : Ctx) (f : FuncId) (args : List AV) (m : Mem) : List Nat × List Nat :=
  match C.ft f with
  | none => ([], refsL args)
  | some fn =>
    match snapArgs C (C.own f).params 0 0 fn.params.toList args m with
    | none => ([], refsL args)
    | some (xs, lent, m') =>
      let ids := reach m' reachFuel (refsL xs) []
      if ids.isEmpty && (fn.resultTypes.toList.all fun T => (C.TY T).cks.all scalarCK) then (lent, []) else ([], lent ++ ids ++ refsL args)
where scalarCK : CK → Bool | .int _ | .bool | .str => true | _ => false
def readsOnly : Op → Bool
  | .move _ | .assign _ | .alloc _ | .box .. | .build .. | .load .. | .nilCheck _ | .binOp .. | .unOp .. | .convert .. | .makeFunc .. | .makeSlice .. | .slice .. | .fieldAddr .. | .indexAddr .. | .index .. | .range .. | .extract .. => true
  | .call c => (match c.callee with | .builtin .len => true | .builtin .max => true | .builtin .min => true | _ => false)
  | _ => false
/-- What an operation may write of what there was, where that is known. -/
def writesOf (op : Op) (ev : Operand → AV) (m : Mem) : Option (List Nat) :=
  if readsOnly op then some [] else
  match op with
  | .call c => (match c.callee, c.args.toList with
    | .builtin .append, [d, s] => (match arowOf m (ev s) with | none => some (ev d).refs | some _ => none)
    | _, _ => none)
  | _ => none
def minus (a b : List Nat) : List Nat := a.filter fun x => !b.any fun y => Nat.beq x y
def foot (C : Ctx) (o : Oper) (ev : Operand → AV) (m : Mem) : List Nat × List Nat :=
  match o.op with
  | .move _ | .assign _ | .pick .. | .binOp .. | .unOp .. | .extract .. | .nilCheck _ | .fieldAddr .. | .makeFunc .. | .index .. | .alloc _ | .box .. | .build .. | .makeSlice .. | .range .. => ([], [])
  | .load _ a => ((ev a).refs, [])
  | .indexAddr _ x _ => ((ev x).refs, [])
  | .slice _ x _ _ _ => ((ev x).refs, [])
  | .convert _ _ x => ((ev x).refs, [])
  | .call c =>
    match c.callee with
    | .builtin .len => (refsL (c.args.toList.map ev), [])
    | .builtin .max => ([], [])
    | .builtin .min => ([], [])
    | .builtin .append => (match c.args.toList.map ev with
      | [d, s] => (match arowOf m s with | none => (minus s.refs d.refs, d.refs) | some _ => ([], s.refs ++ d.refs))
      | l => ([], refsL l))
    | .value f => (match ev f with | .fn g cap => footCall C g (c.args.toList.map ev ++ cap) m | _ => ([], []))
    | _ => ([], refsL (c.args.toList.map ev))
  | op => ([], refsL (op.operands.toList.map ev))
/-- which operations stand ahead of each one, as lists -/
def before (ops : List Oper) : List (List Nat) :=
  ops.foldl (init := []) fun acc o =>
    acc ++ [o.after.toList.foldl (fun s e => if Region.binds .any e then e.on :: ((acc.getD e.on []) ++ s) else s) []]
/-- The names that one operation may give. -/
def inNew (id q : Nat) : Bool := Nat.ble id q && Nat.blt q (id + 16)
def touched (W : List Nat) (id q : Nat) : Bool := W.any (Nat.beq q) || inNew id q
def edgesOk (i : Nat) (o : Oper) : Bool := o.after.toList.all fun e => !Region.binds .any e || Nat.blt e.on i
def has (l : List Nat) (x : Nat) : Bool := l.any (Nat.beq x)
/-- What can be said of a region once for all. -/
def staticOk (ops : Array Oper) : Bool :=
  let b := before ops.toList
  (List.range ops.size).all fun i =>
    (match ops[i]? with | some x => edgesOk i x | none => false) &&
    (List.range i).all fun j =>
    has (b.getD i []) j ||
    (match ops[i]?, ops[j]? with
     | some x, some y => y.apart ops x
     | _, _ => false)
/-- A name is an old one, or one that an operation ahead gave. -/
def idOk (nx : Nat) (b : List Nat) (i q : Nat) : Bool := Nat.blt q nx || (let k := (q - nx) / 16; Nat.beq k i || has b k)
def clash (fx fy : List Nat × List Nat) : Bool := meets fx.2 fy.2 || meets fx.2 fy.1 || meets fx.1 fy.2
/-- the entries that touch anything -/
def busy : Nat → List (List Nat × List Nat) → List (Nat × List Nat × List Nat)
  | _, [] => []
  | i, ([], []) :: r => busy (i + 1) r
  | i, fo :: r => (i, fo) :: busy (i + 1) r
def dynPairs (b : List (List Nat)) : List (Nat × List Nat × List Nat) → Bool
  | [] => true
  | (j, fy) :: r => (r.all fun p => !clash fy p.2 || has (b.getD p.1 []) j) && dynPairs b r
/-- Every two operations whose order is open leave each other alone. -/
def okLog (ops : Array Oper) (nx : Nat) (log : List (List Nat × List Nat)) : Bool :=
  let b := before ops.toList
  let l := busy 0 log
  dynPairs b l && l.all fun p => p.2.1.all (idOk nx (b.getD p.1 []) p.1) && p.2.2.all (idOk nx (b.getD p.1 []) p.1)

section
variable (C : Ctx) {α : Type} (call : FuncId → List AV → Mem → Option (AV × Mem))

/-- Whether an operation is known to write nothing but this. -/
def mayRun (ro : Option (List Nat)) (op : Op) (ev : Operand → AV) (m : Mem) : Bool :=
  match ro with
  | none => true
  | some W => (match writesOf op ev m with
    | some W' => W'.all fun x => W.any fun y => Nat.beq x y
    | none => false)
/-- One operation, a call and a choice among them. 'ro': of what there was it must write nothing but this. -/
def stepK (ro : Option (List Nat)) (o : Oper) (id : Nat) (s : FS) (k : FS → Option α) : Option α :=
  let ev := eval s.tmps
  match o.op with
  | .pick c a b =>
    (match ev c with
     | .bool t => (match t with
       | true => k (s.put o.dst (ev a) s.mem)
       | false => k (s.put o.dst (ev b) s.mem))
     | _ => none)
  | .call c =>
    (match c.callee with
     | .value f => (match ev f with
       | .fn g cap =>
         (match C.nat g with
          | some F => (match F (c.args.toList.map ev ++ cap) with | some v => k (s.put o.dst v s.mem) | none => none)
          | none => callK C call ro g (c.args.toList.map ev ++ cap) id s.mem (fun v m => k (s.put o.dst v m)))
       | _ => none)
     | _ => if mayRun ro o.op ev s.mem then opK C o.type o.op id ev s.mem (fun v m => k (s.put o.dst v m)) else none)
  | op => if mayRun ro op ev s.mem then opK C o.type op id ev s.mem (fun v m => k (s.put o.dst v m)) else none

/-- One operation under its guard. -/
def guardK (ro : Option (List Nat)) (ops : Array Oper) (o : Oper) (id : Nat) (s : FS) (k : FS → Option α) : Option α :=
  match o.guard with
  | none => stepK C call ro o id s k
  | some (g, want) =>
    match (ops[g]?).bind (·.dst) with
    | none => none
    | some t =>
      match s.tmps.get t with
      | .bool b =>
        (match b with
         | true => (match want with | true => stepK C call ro o id s k | false => k (s.put o.dst (.tup []) s.mem))
         | false => (match want with | false => stepK C call ro o id s k | true => k (s.put o.dst (.tup []) s.mem)))
      | .tup [] => k (s.put o.dst (.tup []) s.mem)
      | _ => none

def opsK (ops : Array Oper) : List Oper → Nat → FS → (FS → Option α) → Option α
  | [], _, s, k => k s
  | o :: r, id, s, k => guardK C call none ops o id s (fun s => opsK ops r (id + 16) s k)
/-- The memory that an operation is given. -/
def only (m : Mem) : List Nat → Mem
  | [] => []
  | o :: r => match m.get o with
    | some x => (o, x) :: only m r
    | none => only m r
/-- What stands after an operation that was given a part: what it only looks at is as it was. -/
def merge (fo : List Nat × List Nat) (id : Nat) (m m' : Mem) : Mem := (m'.filter fun p => touched fo.2 id p.1) ++ (m.filter fun p => !touched fo.2 id p.1)
def roOf (fo : List Nat × List Nat) : Option (List Nat) := match fo.1 with | [] => none | _ => some fo.2
def opsLogK (ops : Array Oper) : List Oper → Nat → FS → List (List Nat × List Nat) → (FS → List (List Nat × List Nat) → Option α) → Option α
  | [], _, s, log, k => k s log
  | o :: r, id, s, log, k =>
    let fo := foot C o (eval s.tmps) s.mem
    guardK C call (roOf fo) ops o id { s with mem := only s.mem (fo.1 ++ fo.2) } (fun s' => opsLogK ops r (id + 16) { s' with mem := merge fo id s.mem s'.mem } (log ++ [fo]) k)
def regionK (ops : Array Oper) (draw : Bool) (s : FS) (k : FS → Option α) : Option α :=
  let fin := fun (t : FS) => k { t with nx := s.nx + 16 * ops.size }
  match draw with
  | false => opsK C call ops ops.toList s.nx s fin
  | true => opsLogK C call ops ops.toList s.nx s [] (fun t log => match okLog ops s.nx log with | true => fin t | false => none)

/-! A loop's head: what isn't kept is forgotten, and what is kept has fixed names. -/
def keepOnly (keep : List Nat) (e : Env) : Env := keep.map fun t => (t, e.get t)
def renE (f : Nat → Option Nat) (e : Env) : Env := e.map fun p => (p.1, p.2.ren f)
def ownNils (own : List (Nat × Nat × TypeId)) (s : FS) : FS :=
  match own with
  | [] => s
  | (t, c, E) :: r =>
    ownNils r (match c with
      | 0 => (match s.tmps.get t with
        | .nils => { tmps := (t, .row s.nx) :: s.tmps, mem := s.mem.add s.nx (.prow E 0 (fun _ _ => .bad)), nx := s.nx + 1 }
        | _ => s)
      | c + 1 => (match s.tmps.get t with
        | .adr o 0 0 => (match s.mem.get o with
          | some (.box cs) => (match cs.getD c .undef with
            | .nils => { tmps := s.tmps, mem := (s.mem.set o (.box (cs.set c (.row s.nx)))).add s.nx (.prow E 0 (fun _ _ => .bad)), nx := s.nx + 1 }
            | _ => s)
          | _ => s)
        | _ => s))
/-- What came in keeps its name; the others are named in order. -/
def names (base : Nat) (ids : List Nat) (o : Nat) : Option Nat :=
  if Nat.blt o base then (if ids.any (Nat.beq o) then some o else none) else idx o (ids.filter fun a => !Nat.blt a base) base
def norm (h : Hint) (base : Nat) (s : FS) : FS :=
  let s := ownNils h.own s
  let ts := keepOnly h.keep s.tmps
  let ids := reach s.mem reachFuel (List.range base ++ refsL (ts.map (·.2))) []
  let f := names base ids
  { tmps := renE f ts, mem := pick_ f s.mem ids, nx := base + ids.length }

def firstRegion : Code → Nat
  | .region i _ _ => i
  | .seq a _ => firstRegion a
  | .block _ b => firstRegion b
  | .loop b => firstRegion b
  | .scope b => firstRegion b
  | .cond _ a _ => firstRegion a
  | _ => 0

/-- Code, in continuation style. 'base': how many objects came in. 'n': the rounds that loops may still make. -/
def execK (L : Loops) (f : FuncId) (base : Nat) (loopR : Code → FS → (Ex → FS → Option α) → Option α) : Code → FS → (Ex → FS → Option α) → Option α
  | .skip, s, k => k .normal s
  | .label _, s, k => k .normal s
  | .region _ ops draw, s, k => regionK C call ops draw s (fun s => k .normal s)
  | .seq a b, s, k => execK L f base loopR a s (fun e s => match e with | .normal => execK L f base loopR b s k | e => k e s)
  | .cond c a b, s, k =>
    (match eval s.tmps c with
     | .bool t => (match t with
       | true => execK L f base loopR a s k
       | false => execK L f base loopR b s k)
     | _ => none)
  | .block id b, s, k => execK L f base loopR b s (fun e s => match e with | .exit i => if Nat.beq i id then k .normal s else k (.exit i) s | e => k e s)
  | .loop b, s, k =>
    (match L f (firstRegion b) with
     | some F => (match F.2 base (match C.hint f (firstRegion b) with | some h => norm h base s | none => s) with
       | some (e, s) => k e s
       | none => none)
     | none => loopR b (match C.hint f (firstRegion b) with | some h => norm h base s | none => s) k)
  | .exit id, s, k => k (.exit id) s
  | .ret, s, k => k .ret s
  | _, _, _ => none
/-- Rounds of a loop. -/
def rounds (L : Loops) (f : FuncId) (base : Nat) : Nat → Code → FS → (Ex → FS → Option α) → Option α
  | 0, _, _, _ => none
  | n + 1, b, s, k => execK C call L f base (rounds L f base n) b s (fun e s => match e with
    | .normal => rounds L f base n b (match C.hint f (firstRegion b) with | some h => norm h base s | none => s) k
    | e => k e s)

/-! A function's end. -/
def outCells (TY : Ty) : List CK → Mem → List AV → Option (List AV × Mem)
  | [], m, [] => some ([], m)
  | c :: cs, m, v :: vs =>
    (match (match c with
      | .sl E => (match frz TY depth c m v with | some (p, m) => some (AV.psl E p.n p.get, m) | none => none)
      | _ => some (v, m)) with
     | some (x, m) => (match outCells TY cs m vs with | some (xs, m) => some (x :: xs, m) | none => none)
     | none => none)
  | _, _, _ => none
def outVal (TY : Ty) (T : TypeId) (m : Mem) (v : AV) : Option (AV × Mem) :=
  match v with
  | .agg cs => (match outCells TY (TY T).cks m cs with | some (xs, m) => some (.agg xs, m) | none => none)
  | v => (match outCells TY [(TY T).cks.getD 0 .oth] m [v] with | some (x :: _, m) => some (x, m) | _ => none)
def outVals (own : List Nat) : Nat → List TypeId → List ResultVar → FS → Mem → Option (List AV × Mem)
  | _, [], [], _, m => some ([], m)
  | i, T :: Ts, r :: rs, s, m =>
    let v := match r with
      | .tmp t => some (s.tmps.get t)
      | .cell a T' => loadK C.TY T' m (s.tmps.get a) some
    (match v with
     | none => none
     | some v =>
       (match (if own.any (Nat.beq i) then some (v, m) else outVal C.TY T m v) with
        | some (x, m) => (match outVals own (i + 1) Ts rs s m with | some (xs, m) => some (x :: xs, m) | none => none)
        | none => none))
  | _, _, _, _, _ => none
def finish (f : FuncId) (fn : Func) (base : Nat) (s : FS) : Option (AV × Mem) :=
  match outVals C (C.own f).results 0 fn.resultTypes.toList fn.results.toList s s.mem with
  | none => none
  | some (vs, m) =>
    let r : AV := match vs with | [v] => v | vs => .tup vs
    let ids := reach m reachFuel (List.range base ++ r.refs) []
    let g := names base ids
    some (r.ren g, pick_ g m ids)
def number : Nat → List AV → Env
  | _, [] => []
  | i, x :: r => (i, x) :: number (i + 1) r
/-- A function's body, its callees given. 'n': rounds. -/
def runF (L : Loops) (n : Nat) (f : FuncId) (args : List AV) (m : Mem) : Option (AV × Mem) :=
  match C.ft f with
  | some fn =>
    (match fn.body with
     | some b =>
       if Nat.ble args.length fn.ntmps then
       execK C call L f m.length (rounds C call L f m.length n) b { tmps := number 0 args, mem := m, nx := m.length }
         (fun e s => match e with | .normal => finish C f fn m.length s | .ret => finish C f fn m.length s | _ => none)
       else none
     | none => none)
  | none => none
end
/-- Whole runs: callees that 'ext' tells, and the others by their own bodies. -/
def callN (C : Ctx) (L : Loops) (ext : FuncId → Option (List AV → Mem → Option (AV × Mem))) : Nat → FuncId → List AV → Mem → Option (AV × Mem)
  | 0, _, _, _ => none
  | n + 1, f, args, m =>
    match ext f with
    | some s => s args m
    | none => runF C (callN C L ext n) L n f args m
end Go.Proofs.YtkenjojkpdeooaaGreatDoor.AI
end
