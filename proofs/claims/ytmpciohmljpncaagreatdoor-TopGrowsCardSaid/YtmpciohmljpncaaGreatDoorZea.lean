/- Merged texts (EvK, EvS1, EvS2, EvS3, EvS4, EvS5, EvS6, EvS7, EvS8, EvS9). -/
import GoSem.Dispatch
import GoSem.Core.Region
import GoSem.Machine.Frame
import Derived.Control
import Derived.Calls
import Derived.Tactics
set_option linter.unusedSectionVars false
set_option linter.unusedSimpArgs false
set_option linter.unusedVariables false
set_option linter.unnecessarySimpa false
set_option linter.deprecated false
namespace Go.Ev
noncomputable section

inductive T (α : Type) where
 | leaf
 | node (l : T α) (v : Option α) (r : T α)
 deriving Inhabited

/-- the way to a place: 0 is the root; odd numbers are to the left -/
def pathF : Nat → Nat → List Bool
 | 0, _ => []
 | f + 1, k => cond (Nat.beq k 0) [] (cond (Nat.beq (Nat.mod k 2) 1) (true :: pathF f (Nat.div k 2)) (false :: pathF f (Nat.div (Nat.sub k 1) 2)))
def pathOf (k : Nat) : List Bool := pathF k k
def T.getP {α : Type} (t : T α) : List Bool → Option α :=
 T.rec (motive := fun _ => List Bool → Option α) (fun _ => none)
  (fun _ v _ gl gr p => List.rec v (fun b q _ => Bool.rec (gr q) (gl q) b) p) t
def T.single {α : Type} (x : α) : List Bool → T α
 | [] => .node .leaf (some x) .leaf
 | true :: q => .node (T.single x q) none .leaf
 | false :: q => .node .leaf none (T.single x q)
def T.setP {α : Type} (x : α) (t : T α) : List Bool → T α :=
 T.rec (motive := fun _ => List Bool → T α) (fun p => T.single x p)
  (fun l v r sl sr p => List.rec (.node l (some x) r) (fun b q _ => Bool.rec (.node l v (sr q)) (.node (sl q) v r) b) p) t
def T.eraseP {α : Type} (t : T α) : List Bool → T α :=
 T.rec (motive := fun _ => List Bool → T α) (fun _ => .leaf)
  (fun l v r sl sr p => List.rec (.node l none r) (fun b q _ => Bool.rec (.node l v (sr q)) (.node (sl q) v r) b) p) t
def T.get {α : Type} (t : T α) (k : Nat) : Option α := T.getP t (pathOf k)
def T.set {α : Type} (t : T α) (k : Nat) (x : α) : T α := T.setP x t (pathOf k)
def T.erase {α : Type} (t : T α) (k : Nat) : T α := T.eraseP t (pathOf k)

inductive AV where
 | g (v : Value)
 | ptr (k off : Nat)
 | slice (k off len : Nat) (ex : Bool) (cap esz : Nat)
 | map (k : Nat)
 | func (fn : Fn) (first captured : List AV)
 | iface (t : TypeId) (v : AV)
 | agg (cells : List AV)
 | tuple (vs : List AV)
 deriving Inhabited

inductive R (α : Type) where
 | ok (a : α)
 | err (c : Nat)
 deriving Inhabited
def R.bind {α β : Type} (x : R α) (f : α → R β) : R β := match x with | .ok a => f a | .err c => .err c
def R.map {α β : Type} (f : α → β) (x : R α) : R β := match x with | .ok a => .ok (f a) | .err c => .err c
def R.of {α : Type} (c : Nat) (x : Option α) : R α := match x with | some a => .ok a | none => .err c
instance : Monad R where
 pure := .ok
 bind := R.bind

mutual
def toG : AV → Option Value
 | .g v => some v
 | .agg cs => match toGL cs with | some l => some (.agg l.toArray) | none => none
 | .tuple cs => match toGL cs with | some l => some (.tuple l.toArray) | none => none
 | .iface t v => match toG v with | some v => some (.iface t v) | none => none
 | .func fn [] [] => some (.func fn #[] #[])
 | _ => none
def toGL : List AV → Option (List Value)
 | [] => some []
 | a :: r => match toG a with
  | some v => match toGL r with | some l => some (v :: l) | none => none
  | none => none
end

def ofVL (f : Value → Option AV) : List Value → Option (List AV)
 | [] => some []
 | v :: r => match f v with
  | some a => match ofVL f r with | some l => some (a :: l) | none => none
  | none => none

def ofV : Nat → Value → Option AV
 | 0, _ => none
 | n + 1, v => match v with
  | .bool _ => some (.g v)
  | .int .. => some (.g v)
  | .string _ => some (.g v)
  | .pointer none => some (.g v)
  | .slice none 0 0 => some (.g v)
  | .map none => some (.g v)
  | .nilFunc => some (.g v)
  | .nilIface => some (.g v)
  | .float .. => some (.g v)
  | .agg cs => match ofVL (ofV n) cs.toList with | some l => some (.agg l) | none => none
  | .tuple cs => match ofVL (ofV n) cs.toList with | some l => some (.tuple l) | none => none
  | .iface t x => match ofV n x with | some a => some (.iface t a) | none => none
  | .func fn fi ca => match ofVL (ofV n) fi.toList with
   | some a => match ofVL (ofV n) ca.toList with | some b => some (.func fn a b) | none => none
   | none => none
  | _ => none

structure AEnt where
 key : AV
 val : AV
 born : Nat
 deriving Inhabited

inductive ABlk where
 | cells (cs : List AV)
 | map (es : List AEnt) (clock : Nat)
 | iter (m : Option Nat) (since : Nat) (seen : List Nat) (stepped : Nat)
 | siter (s : ByteArray) (pos : Nat)
 | bytes (cs : List AV)
 deriving Inhabited

structure St where
 h : T ABlk
 nx : Nat
 deriving Inhabited

def St.new (s : St) (b : ABlk) : St := ⟨s.h.set s.nx b, Nat.succ s.nx⟩
def St.put (s : St) (k : Nat) (b : ABlk) : St := ⟨s.h.set k b, s.nx⟩

/-- a computation that asks the program alone -/
def pureRun {α : Type} (P : Program) : Sem α → R α
 | .pure a => .ok a
 | .program k => pureRun P (k P)
 | .mark _ k => pureRun P k
 | .choose q k => if q.forced then pureRun P (k 0) else .err 1
 | .load .. => .err 2
 | .store .. => .err 3
 | .new .. => .err 4
 | .shape .. => .err 5
 | .freeze .. => .err 6
 | .frozen .. => .err 7
 | .getObj .. => .err 8
 | .setObj .. => .err 9
 | .sys .. => .err 10
 | .halt _ => .err 11

structure Fr where
 t : T AV
 ds : List AV
 deriving Inhabited

def aev (fr : Fr) : Operand → R AV
 | .tmp t => match fr.t.get t with | some a => .ok a | none => .err 20
 | .const v => R.of 21 (ofV 8 v)
 | .global _ => .err 22
 | .func f => .ok (.func (.func f) [] [])

def gev (fr : Fr) (o : Operand) : Value :=
 match aev fr o with
 | .ok a => match toG a with | some v => v | none => undef
 | .err _ => undef

/-- what is asked of a type -/
structure TyI where
 u : Option TypeDesc
 size : Option Nat
 zero : Option AV
 agg : Bool
 small : Bool
 deriving Inhabited
def tyOf (P : Program) (t : TypeId) : TyI where
 u := P.underlying t
 size := match P.info? t with | some i => some i.size | none => none
 zero := match P.info? t with
  | some i => match i.zero with
   | some v => ofV 8 v
   | none => none
  | none => none
 agg := match P.underlying t with
  | some (.struct _) => true
  | some (.array _ _) => true
  | _ => false
 small := match P.info? t with | some i => Nat.ble i.bytes 1000000 | none => false
structure Env where
 P : Program
 ty : T TyI
 fn : T (Option Func)
def tsz (E : Env) (t : TypeId) : R Nat := match E.ty.get t with
 | some i => match i.size with | some n => .ok n | none => .err 30
 | none => .err 29
def und (E : Env) (t : TypeId) : R TypeDesc := match E.ty.get t with
 | some i => match i.u with | some n => .ok n | none => .err 31
 | none => .err 29
def zer (E : Env) (t : TypeId) : R AV := match E.ty.get t with
 | some i => match i.zero with | some n => .ok n | none => .err 32
 | none => .err 29
def isAgg' (E : Env) (t : TypeId) : R Bool := match E.ty.get t with
 | some i => match i.u with | some _ => .ok i.agg | none => .err 33
 | none => .err 29
def bytesOk (E : Env) (t : TypeId) : Bool := match E.ty.get t with | some i => i.small | none => false
def cellsOf : AV → List AV
 | .agg cs => cs
 | a => [a]

/-- the value of one cell -/
def flat : AV → Bool
 | .agg _ => false
 | .tuple _ => false
 | _ => true
def flatL : List AV → Bool
 | [] => true
 | a :: r => cond (flat a) (flatL r) false
def getAt {α : Type} (l : List α) : Nat → Option α :=
 List.rec (motive := fun _ => Nat → Option α) (fun _ => none) (fun a _ ih k => Bool.rec (ih (Nat.sub k 1)) (some a) (Nat.beq k 0)) l
def setAt : List AV → Nat → List AV → R (List AV)
 | l, 0, [] => .ok l
 | _ :: r, 0, v :: vs => match setAt r 0 vs with | .ok l => .ok (v :: l) | .err c => .err c
 | a :: r, k + 1, vs => match setAt r k vs with | .ok l => .ok (a :: l) | .err c => .err c
 | [], _, _ => .err 36
def subAt (l : List AV) (off n : Nat) : R (List AV) :=
 let r := (l.drop off).take n
 cond (Nat.beq r.length n) (.ok r) (.err 37)

def acells (s : St) (k : Nat) : R (List AV) := match s.h.get k with
 | some (.cells cs) => .ok cs
 | some _ => .err 39
 | none => .err 40

def acellsR (s : St) (k : Nat) : R (List AV) := match s.h.get k with
 | some (.cells cs) => .ok cs
 | some (.bytes cs) => .ok cs
 | some _ => .err 39
 | none => .err 40

def partA (E : Env) (t : TypeId) (cs : List AV) (off : Nat) : R AV :=
 match isAgg' E t with
 | .ok true => match tsz E t with
  | .ok n => (subAt cs off n).map .agg
  | .err c => .err c
 | .ok false => R.of 41 (getAt cs off)
 | .err c => .err c

def aload (E : Env) (s : St) (t : TypeId) (a : AV) : R AV := match a with
 | .ptr k off => match acellsR s k with
  | .ok cs => partA E t cs off
  | .err c => .err c
 | _ => .err 42

/-- the contents of a map's box: its block begins where it begins -/
def mbx : List AV → Bool
 | [.map _] => true
 | [.g (.map none)] => true
 | _ => false
/-- a row of cells is written -/
def wcells (s : St) (k off : Nat) (vs : List AV) : R St := cond (flatL vs) (match acells s k with
 | .ok cs => match setAt cs off vs with | .ok cs' => cond (mbx cs' && not (mbx cs)) (.err 34) (.ok (s.put k (.cells cs'))) | .err c => .err c
 | .err c => .err c) (.err 35)
def astore (E : Env) (s : St) (t : TypeId) (a v : AV) : R St := match a with
 | .ptr k off => match tsz E t with
  | .ok n => cond (Nat.beq (cellsOf v).length n) (wcells s k off (cellsOf v)) (.err 43)
  | .err c => .err c
 | _ => .err 44

def asI : AV → R Nat
 | .g (.int _ (.ofNat n)) => .ok n
 | _ => .err 45

def mapR {α β : Type} (f : α → R β) : List α → R (List β)
 | [] => .ok []
 | a :: r => match f a with
  | .ok b => match mapR f r with | .ok l => .ok (b :: l) | .err c => .err c
  | .err c => .err c

/-- the parts of a literal -/
def afill (place : Nat → Option (Nat × Nat)) (cells : List AV) : List (Nat × AV) → R (List AV)
 | [] => .ok cells
 | (i, v) :: rest => match place i with
  | none => .err 46
  | some (off, size) => cond (Nat.beq (cellsOf v).length size)
   (match setAt cells off (cellsOf v) with | .ok cells => afill place cells rest | .err c => .err c) (.err 47)

def rep (l : List AV) : Nat → List AV
 | 0 => []
 | n + 1 => l ++ rep l n

def abuild (E : Env) (t : TypeId) (parts : List (Nat × AV)) : R AV := do
 let z ← zer E t
 match ← und E t with
 | .struct fields =>
  let places ← mapR (fun f => do pure (f.offset, ← tsz E f.type)) fields.toList
  let cs ← afill (fun i => getAt places i) (cellsOf z) parts
  pure (.agg cs)
 | .array _ elem =>
  let size ← tsz E elem
  let cs ← afill (fun i => some (i * size, size)) (cellsOf z) parts
  pure (.agg cs)
 | _ => .err 48

def abuildSlice (E : Env) (s : St) (t : TypeId) (len : Nat) (parts : List (Nat × AV)) : R (AV × St) := match und E t with
 | .ok (.slice elem) => match tsz E elem with
  | .ok size => match zer E elem with
   | .ok z => cond (Nat.ble (len * size) 100000 && (Nat.ble len 100000 && Nat.beq (cellsOf z).length size)) (match afill (fun i => some (i * size, size)) (rep (cellsOf z) len) parts with
    | .ok cs => .ok (.slice s.nx 0 len true len size, s.new (.cells cs))
    | .err c => .err c) (.err 49)
   | .err c => .err c
  | .err c => .err c
 | .ok _ => .err 50
 | .err c => .err c

def amakeSlice (E : Env) (s : St) (t : TypeId) (len cap : AV) : R (AV × St) := match und E t with
 | .ok (.slice elem) => match asI len with
  | .ok l => match asI cap with
   | .ok c => match tsz E elem with
    | .ok size => match zer E elem with
     | .ok z => cond (Nat.ble l c && (Nat.ble c 10000 && (Nat.beq (cellsOf z).length size && bytesOk E elem))) (.ok (.slice s.nx 0 l true c size, s.new (.cells (rep (cellsOf z) c)))) (.err 51)
     | .err c => .err c
    | .err c => .err c
   | .err c => .err c
  | .err c => .err c
 | .ok _ => .err 52
 | .err c => .err c

def afieldAddr (E : Env) (t : TypeId) (a : AV) (field : Nat) : R AV := do
 match ← und E t, a with
 | .struct fields, .ptr k off => match fields[field]? with
  | some f => do
   let n ← tsz E f.type
   cond (Nat.beq n 0) (.err 53) (pure (.ptr k (off + f.offset)))
  | none => .err 54
 | _, _ => .err 55

def aindexAddr (E : Env) (t : TypeId) (x i : AV) : R AV := do
 let i ← asI i
 match ← und E t, x with
 | .array len elem, .ptr k off => do
  let size ← tsz E elem
  cond (Nat.blt i len) (pure (.ptr k (off + i * size))) (.err 56)
 | .slice elem, .slice k off len _ _ esz => do
  let size ← tsz E elem
  cond (Nat.blt i len && Nat.beq size esz) (pure (.ptr k (off + i * size))) (.err 57)
 | _, _ => .err 58

def optI : Option AV → R (Option Nat)
 | none => .ok none
 | some a => match asI a with | .ok n => .ok (some n) | .err c => .err c

def cut (k off esz h l m c : Nat) (ex : Bool) : R AV :=
 cond (Nat.ble m c && (Nat.ble h m && Nat.ble l h)) (.ok (.slice k (cond (Nat.beq m l) off (off + l * esz)) (h - l) ex (m - l) esz)) (.err 60)
def aslice2 (E : Env) (t : TypeId) (x : AV) (lo hi mx : Option Nat) : R AV := match und E t with
 | .ok (.slice elem) => match x with
  | .slice k off len ex c esz => match tsz E elem with
   | .ok size => cond (Nat.beq size esz) (cut k off esz (hi.getD len) (lo.getD 0) (mx.getD c) c (mx.isSome || ex)) (.err 59)
   | .err c => .err c
  | .g (.slice none 0 0) => match tsz E elem with
   | .ok _ => cond (Nat.beq (lo.getD 0) 0 && (Nat.beq (hi.getD 0) 0 && Nat.beq (mx.getD 0) 0)) (.ok x) (.err 64)
   | .err c => .err c
  | _ => .err 61
 | .ok _ => .err 67
 | .err c => .err c
/-- of an array that lies in memory -/
def cutA (s : St) (k off n size : Nat) (lo hi mx : Option Nat) : R AV := match acellsR s k with
 | .ok cs => cond (Nat.ble (off + n * size) cs.length && (Nat.ble n 1000000 && Nat.blt 0 (n * size))) (cut k off size (hi.getD n) (lo.getD 0) (mx.getD n) n true) (.err 63)
 | .err c => .err c
def aslice3 (E : Env) (s : St) (t : TypeId) (x : AV) (lo hi mx : Option Nat) : R AV := match x with
 | .ptr k off => match und E t with
  | .ok (.array n elem) => match tsz E elem with
   | .ok size => cutA s k off n size lo hi mx
   | .err c => .err c
  | .ok (.pointer arr) => match und E arr with
   | .ok (.array n elem) => match tsz E elem with
    | .ok size => cutA s k off n size lo hi mx
    | .err c => .err c
   | .ok _ => .err 65
   | .err c => .err c
  | .ok _ => .err 67
  | .err c => .err c
 | _ => .err 66
def aslice (f : Option Nat → Option Nat → Option Nat → R AV) (low high max : Option AV) : R AV := match optI low with
 | .ok lo => match optI high with
  | .ok hi => match optI max with
   | .ok mx => cond (mx.isSome && hi.isNone) (.err 69) (f lo hi mx)
   | .err c => .err c
  | .err c => .err c
 | .err c => .err c

/-- the cells of a slice's elements -/
def sliceCells (s : St) : AV → R (List AV)
 | .g (.slice none 0 0) => .ok []
 | .slice k off len _ _ esz => cond (Nat.beq len 0) (.ok []) (match acellsR s k with | .ok cs => subAt cs off (len * esz) | .err c => .err c)
 | _ => .err 70
def lenA : AV → R Nat
 | .g (.slice none 0 0) => .ok 0
 | .slice _ _ len _ _ _ => .ok len
 | _ => .err 71
/-- of one kind of elements -/
def eszOk (size : Nat) : AV → Bool
 | .slice _ _ _ _ _ esz => Nat.beq size esz
 | _ => true

def appNew (s : St) (olds news : List AV) (n esz : Nat) : R (AV × St) := cond (mbx (olds ++ news)) (.err 34) (.ok (.slice s.nx 0 n false n esz, s.new (.cells (olds ++ news))))
/-- into the room that there is -/
def appIn (s : St) (k off len n esz : Nat) (ex : Bool) (c : Nat) (news : List AV) : R (AV × St) := match wcells s k (off + len * esz) news with
 | .ok s => .ok (.slice k off (len + n) ex c esz, s)
 | .err c => .err c
/-- perhaps into the room that there is, perhaps not: the old name is let go -/
def appMay (s : St) (x : AV) (k len n esz : Nat) (news : List AV) : R (AV × St) := cond (flatL news) (match acells s k with
 | .ok _ => match sliceCells s x with | .ok olds => appNew ⟨s.h.erase k, s.nx⟩ olds news (len + n) esz | .err c => .err c
 | .err c => .err c) (.err 35)
def appEx (s : St) (x : AV) (len n esz : Nat) (news : List AV) : R (AV × St) := match sliceCells s x with | .ok olds => appNew s olds news (len + n) esz | .err c => .err c
def aappend2 (s : St) (size : Nat) (x : AV) (n : Nat) (news : List AV) : R (AV × St) := match x with
 | .g (.slice none 0 0) => cond (Nat.beq n 0) (.ok (x, s)) (appNew s [] news n size)
 | .slice k off len ex c esz => cond (Nat.beq size esz) (cond (Nat.beq n 0) (.ok (x, s)) (cond (Nat.ble (len + n) c) (appIn s k off len n esz ex c news)
   (cond ex (appEx s x len n esz news) (appMay s x k len n esz news)))) (.err 74)
 | _ => .err 75
def undA (E : Env) (ts : Array TypeId) : R TypeDesc := match ts[0]? with | some t => und E t | none => .err 104
def noZeros (E : Env) (argTypes : Array TypeId) : Bool := match argTypes[1]? with
 | some u => match und E u with | .ok (.int _) => false | .ok _ => true | .err _ => false
 | none => false
def aappend (E : Env) (s : St) (argTypes : Array TypeId) (x y : AV) : R (AV × St) := match undA E argTypes with
 | .ok (.slice elem) => match tsz E elem with
  | .ok size => match zer E elem with
   | .ok z => match lenA y with
    | .ok n => match lenA x with
     | .ok m => match sliceCells s y with
      | .ok news => cond (noZeros E argTypes && (bytesOk E elem && (Nat.ble (m + n) 100000 && (Nat.beq (cellsOf z).length size && eszOk size y)))) (aappend2 s size x n news) (.err 73)
      | .err c => .err c
     | .err c => .err c
    | .err c => .err c
   | .err c => .err c
  | .err c => .err c
 | .ok _ => .err 76
 | .err c => .err c

/-- keys -/
def keyEq (E : Env) (kt : TypeId) (a b : AV) : R Bool := match toG a, toG b with
 | some x, some y => pureRun E.P (Op.equal kt x y)
 | _, _ => .err 80
def afind (E : Env) (kt : TypeId) (k : AV) : List AEnt → Nat → R (Option (Nat × AEnt))
 | [], _ => .ok none
 | e :: es, i => match keyEq E kt k e.key with
  | .ok true => .ok (some (i, e))
  | .ok false => afind E kt k es (i + 1)
  | .err c => .err c
def okKey (E : Env) (empty : Bool) (kt : TypeId) (k : AV) : R Unit := match toG k with
 | some v => pureRun E.P (Instr.checkKey empty 10000 kt v)
 | none => .err 81
def amapOf (s : St) (m : AV) : R (Nat × List AEnt × Nat) := match m with
 | .map k => match s.h.get k with | some (.map es c) => .ok (k, es, c) | _ => .err 82
 | _ => .err 83
def modE (f : AEnt → AEnt) : List AEnt → Nat → List AEnt
 | [], _ => []
 | e :: es, 0 => f e :: es
 | e :: es, i + 1 => e :: modE f es i
def delE : List AEnt → Nat → List AEnt
 | [], _ => []
 | _ :: es, 0 => es
 | e :: es, i + 1 => e :: delE es i

def alookup (E : Env) (s : St) (t : TypeId) (m k : AV) (commaOk : Bool) : R AV := do
 match ← und E t with
 | .map kt elem => do
  let es ← (match m with
   | .g (.map none) => (.ok [] : R (List AEnt))
   | _ => (amapOf s m).map (·.2.1))
  let _ ← okKey E es.isEmpty kt k
  let r ← afind E kt k es 0
  let _ ← und E kt
  match r with
  | some (_, e) => .ok (cond commaOk (.tuple [e.val, .g (.bool true)]) e.val)
  | none => do
   let z ← zer E elem
   .ok (cond commaOk (.tuple [z, .g (.bool false)]) z)
 | _ => .err 84

/-- a key is looked for -/
def afindK (E : Env) (kt : TypeId) (empty : Bool) (k : AV) (es : List AEnt) : R (Option (Nat × AEnt)) := match okKey E empty kt k with
 | .ok _ => match und E kt with
  | .ok _ => afind E kt k es 0
  | .err c => .err c
 | .err c => .err c
def sameKey (a b : AV) : Bool := match toG a with
 | some x => match toG b with | some y => Instr.sameBits 10000 x y | none => false
 | none => false
def amapUpdate (E : Env) (s : St) (t : TypeId) (m k v : AV) : R St := match und E t with
 | .ok (.map kt _) => match amapOf s m with
  | .ok r => match afindK E kt false k r.2.1 with
   | .ok (some p) => cond (sameKey p.2.key k) (.ok (s.put r.1 (.map (modE (fun e => ⟨k, v, e.born⟩) r.2.1 p.1) r.2.2))) (.err 89)
   | .ok none => .ok (s.put r.1 (.map (r.2.1 ++ [⟨k, v, r.2.2⟩]) (r.2.2 + 1)))
   | .err c => .err c
  | .err c => .err c
 | .ok _ => .err 85
 | .err c => .err c

def amapEntry (E : Env) (s : St) (t : TypeId) (m k : AV) : R (AV × St) := match und E t with
 | .ok (.map kt elem) => match amapOf s m with
  | .ok r => match afindK E kt false k r.2.1 with
   | .ok (some p) => cond (sameKey p.2.key k) (.ok (.tuple [p.2.val, .g (.int .i64 (.ofNat p.2.born))], s.put r.1 (.map (modE (fun e => ⟨k, e.val, e.born⟩) r.2.1 p.1) r.2.2))) (.err 89)
   | .ok none => match zer E elem with
    | .ok z => .ok (.tuple [z, .g (.int .i64 (.ofNat r.2.2))], s.put r.1 (.map (r.2.1 ++ [⟨k, z, r.2.2⟩]) (r.2.2 + 1)))
    | .err c => .err c
   | .err c => .err c
  | .err c => .err c
 | .ok _ => .err 86
 | .err c => .err c

def findBorn (b : Nat) : List AEnt → Nat → R (Nat × AEnt)
 | [], _ => .err 87
 | e :: es, i => cond (Nat.beq e.born b) (.ok (i, e)) (findBorn b es (i + 1))
def aentryStore (s : St) (m stamp v : AV) : R St := match amapOf s m with
 | .ok r => match asI stamp with
  | .ok b => match findBorn b r.2.1 0 with
   | .ok p => .ok (s.put r.1 (.map (modE (fun e => ⟨e.key, v, e.born⟩) r.2.1 p.1) r.2.2))
   | .err c => .err c
  | .err c => .err c
 | .err c => .err c

def arange (E : Env) (s : St) (t : TypeId) (x : AV) : R (AV × St) := match und E t with
 | .ok (.map _ _) => match x with
  | .g (.map none) => .ok (.ptr s.nx 0, s.new (.iter none 0 [] 0))
  | .map k => match amapOf s (.map k) with
   | .ok r => .ok (.ptr s.nx 0, s.new (.iter (some k) r.2.2 [] r.2.2))
   | .err c => .err c
  | _ => .err 88
 | .ok .string => match x with
  | .g (.string b) => .ok (.ptr s.nx 0, s.new (.siter b 0))
  | _ => .err 88
 | .ok _ => .err 89
 | .err c => .err c

def anext (s : St) (it : AV) : R (List (AV × St)) := match it with
 | .ptr r 0 => match s.h.get r with
  | some (.iter none _ _ _) => .ok [(.tuple [.g (.bool false)], s)]
  | some (.iter (some m) since seen last) => match s.h.get m with
   | some (.map es clock) =>
    cond (!seen.isEmpty && !es.isEmpty && es.all (fun e => Nat.ble last e.born)) (.err 90)
     (.ok (cond ((es.filter fun e => !seen.elem e.born).filter fun e => Nat.blt e.born since).isEmpty [(.tuple [.g (.bool false)], s)] [] ++
      (((es.filter fun e => !seen.elem e.born).filter fun e => Nat.blt e.born since) ++ ((es.filter fun e => !seen.elem e.born).filter fun e => !Nat.blt e.born since)).map
        fun e => ((.tuple [.g (.bool true), e.key, e.val], s.put r (.iter (some m) since (e.born :: seen) clock)) : AV × St)))
   | _ => .err 91
  | _ => .err 92
 | _ => .err 93

def anextS (s : St) (it : AV) : R (List (AV × St)) := match it with
 | .ptr r 0 => match s.h.get r with
  | some (.siter b pos) => cond (Nat.blt pos b.size)
   (.ok [(.tuple [.g (.bool true), .g (.int .i64 pos), .g (.int .i32 (Utf8.decode b pos).1)], s.put r (.siter b (pos + (Utf8.decode b pos).2)))])
   (.ok [(.tuple [.g (.bool false)], s)])
  | _ => .err 98
 | _ => .err 99

def aentry (s : St) (it : AV) : R AV := match it with
 | .ptr r 0 => match s.h.get r with
  | some (.iter (some m) _ (b :: _) stepped) => match s.h.get m with
   | some (.map es clock) => cond (Nat.beq clock stepped) (match findBorn b es 0 with | .ok (_, e) => .ok (.tuple [e.key, e.val]) | .err c => .err c) (.err 94)
   | _ => .err 95
  | _ => .err 96
 | _ => .err 97

/-- an operation on values that hold no memory -/
def aground (E : Env) (fr : Fr) (o : Oper) : R AV :=
 match pureRun E.P (execOp (gev fr) o) with
 | .ok (.value v) => match ofV 8 v with | some a => .ok a | none => .err 100
 | .ok _ => .err 101
 | .err c => .err (600 + c)
def allG (fr : Fr) : List Operand → Bool
 | [] => true
 | o :: os => match aev fr o with
  | .ok a => (match toG a with | some _ => allG fr os | none => false)
  | .err _ => false
def agr (E : Env) (fr : Fr) (o : Oper) : R AV := cond (allG fr o.op.operands.toList) (aground E fr o) (.err 102)

def ltI : Int → Int → Bool
 | .ofNat a, .ofNat b => Nat.blt a b
 | .negSucc _, .ofNat _ => true
 | .ofNat _, .negSucc _ => false
 | .negSucc a, .negSucc b => Nat.blt b a
def eqI : Int → Int → Bool
 | .ofNat a, .ofNat b => Nat.beq a b
 | .negSucc a, .negSucc b => Nat.beq a b
 | _, _ => false
def fitsI : IntKind → Int → Bool
 | .i64, .ofNat n => Nat.ble n 9223372036854775807
 | .i64, .negSucc n => Nat.ble n 9223372036854775807
 | .u64, .ofNat n => Nat.ble n 18446744073709551615
 | _, _ => false
/-- the commonest operations on numbers -/
def fastI (op : BinOp) (k : IntKind) (a b : Int) : Option AV := match op with
 | .add => cond (fitsI k (Int.add a b)) (some (.g (.int k (Int.add a b)))) none
 | .sub => cond (fitsI k (Int.sub a b)) (some (.g (.int k (Int.sub a b)))) none
 | .eql => some (.g (.bool (eqI a b)))
 | .neq => some (.g (.bool (not (eqI a b))))
 | .lss => some (.g (.bool (ltI a b)))
 | .gtr => some (.g (.bool (ltI b a)))
 | .leq => some (.g (.bool (not (ltI b a))))
 | .geq => some (.g (.bool (not (ltI a b))))
 | _ => none
def sameK : IntKind → IntKind → Bool
 | .i64, .i64 => true
 | .u64, .u64 => true
 | _, _ => false

/-- equality with nil -/
def aeqn (d : TypeDesc) (x y : AV) : R Bool := match d with
 | .pointer _ => (match x, y with
  | .ptr _ _, .g (.pointer none) => .ok false
  | .g (.pointer none), .ptr _ _ => .ok false
  | _, _ => .err 121)
 | .func .. => (match x, y with
  | .func .., .g .nilFunc => .ok false
  | .g .nilFunc, .func .. => .ok false
  | _, _ => .err 121)
 | .map .. => (match x, y with
  | .map _, .g (.map none) => .ok false
  | .g (.map none), .map _ => .ok false
  | _, _ => .err 121)
 | .slice _ => (match x, y with
  | .slice .., .g (.slice none 0 0) => .ok false
  | .g (.slice none 0 0), .slice .. => .ok false
  | _, _ => .err 121)
 | _ => .err 121
/-- equality of addresses -/
def aeqp (E : Env) (s : St) (t : TypeId) (x y : AV) : R Bool := match und E t with
 | .ok (.pointer elem) => match tsz E elem with
  | .ok n => cond (Nat.blt 0 n) (match x, y with
   | .ptr k o, .ptr k' o' => cond (Nat.beq k k') (.ok (Nat.beq o o')) (match acells s k with
    | .ok _ => match acells s k' with | .ok _ => .ok false | .err c => .err c
    | .err c => .err c)
   | _, _ => .err 122) (.err 123)
  | .err c => .err c
 | .ok _ => .err 124
 | .err c => .err c
def isEq : BinOp → Option Bool
 | .eql => some true
 | .neq => some false
 | _ => none
def bin2 (E : Env) (fr : Fr) (o : Oper) (op : BinOp) (t : TypeId) (x y : AV) : R AV := match isEq op with
 | some b => match und E t with
  | .ok d => match aeqn d x y with
   | .ok r => .ok (.g (.bool (cond b r (not r))))
   | .err _ => agr E fr o
  | .err c => .err c
 | none => agr E fr o
def abin (E : Env) (fr : Fr) (o : Oper) (op : BinOp) (t : TypeId) (x y : AV) : R AV := match x with
 | .g (.int k a) => match y with
  | .g (.int k' b) => match fastI op k a b with
   | some r => cond (sameK k k') (.ok r) (agr E fr o)
   | none => agr E fr o
  | _ => bin2 E fr o op t x y
 | _ => bin2 E fr o op t x y

abbrev CallF := FuncId → List AV → St → R (List (AV × St))

def evs (fr : Fr) : List Operand → R (List AV)
 | [] => .ok []
 | o :: os => match aev fr o with
  | .ok a => match evs fr os with | .ok l => .ok (a :: l) | .err c => .err c
  | .err c => .err c
def evParts (fr : Fr) : List (Nat × Operand) → R (List (Nat × AV))
 | [] => .ok []
 | p :: ps => match aev fr p.2 with
  | .ok a => match evParts fr ps with | .ok l => .ok ((p.1, a) :: l) | .err c => .err c
  | .err c => .err c
def evO (fr : Fr) : Option Operand → R (Option AV)
 | none => .ok none
 | some o => match aev fr o with | .ok a => .ok (some a) | .err c => .err c

def ael (fr : Fr) (o : Operand) (f : AV → R AV) : R AV := match aev fr o with | .ok a => f a | .err c => .err c
def afield (E : Env) (t : TypeId) (f : Nat) (a : AV) : R AV := match und E t with
 | .ok (.struct fields) => match a with
  | .agg cs => match fields[f]? with
   | some f => partA E f.type cs f.offset
   | none => .err 155
  | _ => .err 156
 | .ok _ => .err 156
 | .err c => .err c
def aindex (E : Env) (t : TypeId) (cs : List AV) (i : AV) : R AV := match asI i with
 | .ok i => match und E t with
  | .ok (.array len elem) => match tsz E elem with
   | .ok n => cond (Nat.blt i len) (partA E elem cs (i * n)) (.err 157)
   | .err c => .err c
  | .ok _ => .err 158
  | .err c => .err c
 | .err c => .err c

/-! an operation that looks at no memory -/
abbrev ValF := Env → Fr → Oper → R AV
def vMove (x : Operand) : ValF := fun _ fr _ => aev fr x
def vPick (c a b : Operand) : ValF := fun _ fr _ => match aev fr c with
  | .ok (.g (.bool b')) => cond b' (aev fr a) (aev fr b)
  | .ok _ => .err 150
  | .err c => .err c
def vBuild (t : TypeId) (parts : Array (Nat × Operand)) : ValF := fun E fr _ => match evParts fr parts.toList with | .ok l => abuild E t l | .err c => .err c
def vNil (x : Operand) : ValF := fun _ fr _ => match aev fr x with
  | .ok (.ptr k o) => .ok (.ptr k o)
  | .ok (.func (.func f) a b) => .ok (.func (.func f) a b)
  | .ok _ => .err 151
  | .err c => .err c
def vBin (op : BinOp) (t : TypeId) (x y : Operand) : ValF := fun E fr o => match aev fr x with
  | .ok a => match aev fr y with
   | .ok b => abin E fr o op t a b
   | .err c => .err c
  | .err c => .err c
def vIface (t : TypeId) (x : Operand) : ValF := fun E fr _ => match und E t with
  | .ok (.interface _) => .err 153
  | .ok _ => ael fr x fun a => .ok (.iface t a)
  | .err c => .err c
def vFunc (fn : Fn) (first captured : Array Operand) : ValF := fun _ fr _ => match evs fr first.toList with
  | .ok a => match evs fr captured.toList with | .ok b => .ok (.func fn a b) | .err c => .err c
  | .err c => .err c
def evO3 (fr : Fr) (lo hi mx : Option Operand) (f : Option Nat → Option Nat → Option Nat → R AV) : R AV := match evO fr lo with
 | .ok lo => match evO fr hi with
  | .ok hi => match evO fr mx with
   | .ok mx => aslice f lo hi mx
   | .err c => .err c
  | .err c => .err c
 | .err c => .err c
def vSlice (t : TypeId) (x : Operand) (lo hi mx : Option Operand) : ValF := fun E fr o => match aev fr x with
  | .ok (.g (.string _)) => agr E fr o
  | .ok a => evO3 fr lo hi mx (aslice2 E t a)
  | .err c => .err c
def vFieldAddr (t : TypeId) (x : Operand) (f : Nat) : ValF := fun E fr _ => ael fr x fun a => afieldAddr E t a f
def vField (t : TypeId) (x : Operand) (f : Nat) : ValF := fun E fr _ => ael fr x (afield E t f)
def vIndexAddr (t : TypeId) (x i : Operand) : ValF := fun E fr _ => ael fr x fun a => ael fr i (aindexAddr E t a)
def vIndex (t : TypeId) (x i : Operand) : ValF := fun E fr o => match aev fr x with
  | .ok (.agg cs) => ael fr i (aindex E t cs)
  | .ok _ => agr E fr o
  | .err c => .err c
def vExtract (t : Operand) (ix : Nat) : ValF := fun _ fr _ => match aev fr t with
  | .ok (.tuple vs) => match getAt vs ix with | some a => .ok a | none => .err 159
  | .ok _ => .err 160
  | .err c => .err c
def isSl : R TypeDesc → Bool
 | .ok (.slice _) => true
 | _ => false
def isMp : R TypeDesc → Bool
 | .ok (.map _ _) => true
 | _ => false
def vLen1 (E : Env) (fr : Fr) (o : Oper) (ts : Array TypeId) : List Operand → R AV
 | [x] => match aev fr x with
    | .ok (.slice _ _ n _ _ _) => cond (isSl (undA E ts)) (.ok (.g (.int .i64 (.ofNat n)))) (.err 107)
    | .ok (.map _) => .err 103
    | .ok _ => agr E fr o
    | .err c => .err c
 | _ => .err 104
def vLen (args : Array Operand) (ts : Array TypeId) : ValF := fun E fr o => vLen1 E fr o ts args.toList
def vCap (args : Array Operand) (ts : Array TypeId) : ValF := fun E fr _ => match args.toList with
   | [x] => match aev fr x with
    | .ok (.slice _ _ _ true c _) => cond (isSl (undA E ts)) (.ok (.g (.int .i64 (.ofNat c)))) (.err 107)
    | .ok _ => .err 105
    | .err c => .err c
   | _ => .err 104
def vGround : ValF := fun E fr o => agr E fr o

/-! an operation that reads -/
abbrev RdF := Env → Fr → St → R AV
def rLoad (t : TypeId) (a : Operand) : RdF := fun E fr s => match aev fr a with | .ok a => aload E s t a | .err c => .err c
def rLookup (t : TypeId) (x i : Operand) (ok : Bool) : RdF := fun E fr s => ael fr x fun m => ael fr i fun k => alookup E s t m k ok
def rSlice (t : TypeId) (x : Operand) (lo hi mx : Option Operand) : RdF := fun E fr s => ael fr x fun a => evO3 fr lo hi mx (aslice3 E s t a)
def rEntry (it : Operand) : RdF := fun _ fr s => ael fr it (aentry s)
def rBin (op : BinOp) (t : TypeId) (x y : Operand) : RdF := fun E fr s => match isEq op with
  | some b => ael fr x fun p => ael fr y fun q => match aeqp E s t p q with
   | .ok r => .ok (.g (.bool (cond b r (not r))))
   | .err c => .err c
  | none => .err 152
def rLen (args : Array Operand) (ts : Array TypeId) : RdF := fun E fr s => match args.toList with
  | [x] => ael fr x fun m => match amapOf s m with
   | .ok r => cond (isMp (undA E ts)) (.ok (.g (.int .i64 (.ofNat r.2.1.length)))) (.err 108)
   | .err c => .err c
  | _ => .err 104

/-! an operation that lays one block -/
abbrev NewF := Env → Fr → St → R (AV × St)
def nAlloc (t : TypeId) : NewF := fun E _ s => match zer E t with | .ok z => .ok (.ptr s.nx 0, s.new (.cells (cellsOf z))) | .err c => .err c
def nBox (x : Operand) : NewF := fun _ fr s => match aev fr x with | .ok v => .ok (.ptr s.nx 0, s.new (.cells (cellsOf v))) | .err c => .err c
def nBuildSlice (t : TypeId) (len : Nat) (parts : Array (Nat × Operand)) : NewF := fun E fr s => match evParts fr parts.toList with | .ok l => abuildSlice E s t len l | .err c => .err c
def nMakeMap (t : TypeId) (r : Option Operand) : NewF := fun E fr s => match r with
  | none => .ok (.map s.nx, s.new (.map [] 0))
  | some x => match und E t with
   | .ok (.map _ _) => match aev fr x with
    | .ok a => match asI a with
     | .ok _ => .ok (.map s.nx, s.new (.map [] 0))
     | .err c => .err c
    | .err c => .err c
   | .ok _ => .err 154
   | .err c => .err c
def nMakeSlice (t : TypeId) (l c : Operand) : NewF := fun E fr s => match aev fr l with
  | .ok l => match aev fr c with
   | .ok c => amakeSlice E s t l c
   | .err c => .err c
  | .err c => .err c
def toB (b : ByteArray) : List AV := b.data.toList.map fun x => .g (.int .u8 (.ofNat x.toNat))
def one {α : Type} (x : R α) : R (List α) := match x with | .ok a => .ok [a] | .err c => .err c
def unit (x : R St) : R (List (AV × St)) := match x with | .ok s => .ok [(.tuple [], s)] | .err c => .err c

def acopy (E : Env) (ts : Array TypeId) (s : St) (d x : AV) : R (AV × St) := match undA E ts with
 | .ok (.slice elem) => match tsz E elem with
  | .ok size => match lenA x with
   | .ok n => match d with
    | .slice k off dl _ _ esz => cond (Nat.beq size esz && (eszOk size x && Nat.blt 0 (Nat.min n dl))) (match sliceCells s x with
     | .ok src => match wcells s k off (src.take (Nat.min n dl * esz)) with
      | .ok s => .ok (.g (.int .i64 (.ofNat (Nat.min n dl))), s)
      | .err c => .err c
     | .err c => .err c) (.err 131)
    | _ => .err 131
   | .err c => .err c
  | .err c => .err c
 | .ok _ => .err 131
 | .err c => .err c
def adelete (E : Env) (s : St) (t : TypeId) (m k : AV) : R St := match und E t with
 | .ok (.map kt _) => match amapOf s m with
  | .ok r => match afindK E kt r.2.1.isEmpty k r.2.1 with
   | .ok (some p) => .ok (s.put r.1 (.map (delE r.2.1 p.1) r.2.2))
   | .ok none => .ok (s.put r.1 (.map r.2.1 r.2.2))
   | .err c => .err c
  | .err c => .err c
 | .ok _ => .err 133
 | .err c => .err c
def aclear (E : Env) (s : St) (t : TypeId) (x : AV) : R St := match und E t with
 | .ok (.slice elem) => match x with
  | .slice k off len _ _ esz => match zer E elem with
   | .ok z => match tsz E elem with
    | .ok size => cond (Nat.beq (cellsOf z).length esz && (Nat.beq size esz && Nat.blt 0 len)) (wcells s k off (rep (cellsOf z) len)) (.err 135)
    | .err c => .err c
   | .err c => .err c
  | _ => .err 136
 | .ok _ => .err 136
 | .err c => .err c

/-! an operation that writes, or calls -/
abbrev WrF := Env → CallF → Fr → St → R (List (AV × St))
def wStore (t : TypeId) (a x : Operand) : WrF := fun E _ fr s => match aev fr a with
  | .ok a => match aev fr x with
   | .ok x => unit (astore E s t a x)
   | .err c => .err c
  | .err c => .err c
def wCall (f : Operand) (args : Array Operand) : WrF := fun _ F fr s => match evs fr args.toList with
  | .ok args => match aev fr f with
   | .ok (.func (.func f) first captured) => F f (first ++ args ++ captured) s
   | .ok _ => .err 140
   | .err c => .err c
  | .err c => .err c
def wAppend (args : Array Operand) (argTypes : Array TypeId) : WrF := fun E _ fr s => match evs fr args.toList with
  | .ok [x, y] => one (aappend E s argTypes x y)
  | .ok _ => .err 137
  | .err c => .err c
def wCopy (args : Array Operand) (ts : Array TypeId) : WrF := fun E _ fr s => match evs fr args.toList with
  | .ok [x, y] => one (acopy E ts s x y)
  | .ok _ => .err 137
  | .err c => .err c
def wDelete (args : Array Operand) (argTypes : Array TypeId) : WrF := fun E _ fr s => match evs fr args.toList with
  | .ok [x, y] => match argTypes[0]? with
    | some t => unit (adelete E s t x y)
    | none => .err 132
  | .ok _ => .err 137
  | .err c => .err c
def wClear (args : Array Operand) (argTypes : Array TypeId) : WrF := fun E _ fr s => match evs fr args.toList with
  | .ok [x] => match argTypes[0]? with
    | some t => unit (aclear E s t x)
    | none => .err 134
  | .ok _ => .err 138
  | .err c => .err c
def wMap (t : TypeId) (m k x : Operand) : WrF := fun E _ fr s => match evs fr [m, k, x] with | .ok [m, k, x] => unit (amapUpdate E s t m k x) | .ok _ => .err 144 | .err c => .err c
def wEntry (t : TypeId) (m k : Operand) : WrF := fun E _ fr s => match evs fr [m, k] with | .ok [m, k] => one (amapEntry E s t m k) | .ok _ => .err 145 | .err c => .err c
def wEntryStore (m st x : Operand) : WrF := fun _ _ fr s => match evs fr [m, st, x] with | .ok [m, st, x] => unit (aentryStore s m st x) | .ok _ => .err 146 | .err c => .err c
def wRange (t : TypeId) (x : Operand) : WrF := fun E _ fr s => match aev fr x with | .ok a => one (arange E s t a) | .err c => .err c
def wNext (it : Operand) (b : Bool) : WrF := fun _ _ fr s => match aev fr it with | .ok a => cond b (anextS s a) (anext s a) | .err c => .err c
def isU8 : R TypeDesc → Bool
 | .ok (.int .u8) => true
 | _ => false
def wConvert (src dst : TypeId) (x : Operand) : WrF := fun E _ fr s => match und E src with
  | .ok .string => match und E dst with
   | .ok (.slice e) => match aev fr x with
    | .ok (.g (.string b)) => cond (isU8 (und E e) && Nat.ble b.size 100000) (.ok [(.slice s.nx 0 b.size false b.size 1, s.new (.bytes (toB b)))]) (.err 146)
    | .ok _ => .err 147
    | .err c => .err c
   | .ok _ => .err 148
   | .err c => .err c
  | .ok _ => .err 149
  | .err c => .err c

/-- what an operation is -/
inductive Cls where
 | val (f : ValF)
 | rd (f : RdF)
 | vr (f : ValF) (g : RdF)
 | new (f : NewF)
 | wr (f : WrF)
 | vw (f : ValF) (g : WrF)
 | dfr (c : Call)
 | bad
def clsB (b : Builtin) (args : Array Operand) (argTypes : Array TypeId) : Cls := match b with
 | .len => .vr (vLen args argTypes) (rLen args argTypes)
 | .cap => .val (vCap args argTypes)
 | .min => .val vGround
 | .max => .val vGround
 | .append => .wr (wAppend args argTypes)
 | .copy => .wr (wCopy args argTypes)
 | .delete => .wr (wDelete args argTypes)
 | .clear => .wr (wClear args argTypes)
 | _ => .bad
def clsC (c : Call) : Cls := match c.callee with
 | .value f => .wr (wCall f c.args)
 | .builtin b => clsB b c.args c.argTypes
 | .invoke .. => .bad
def cls (op : Op) : Cls := match op with
 | .move x => .val (vMove x)
 | .assign x => .val (vMove x)
 | .pick c a b => .val (vPick c a b)
 | .build t parts => .val (vBuild t parts)
 | .nilCheck x => .val (vNil x)
 | .binOp op t x y _ => .vr (vBin op t x y) (rBin op t x y)
 | .unOp .. => .val vGround
 | .convert src dst x => .vw vGround (wConvert src dst x)
 | .makeInterface t x => .val (vIface t x)
 | .makeFunc fn a b => .val (vFunc fn a b)
 | .slice t x lo hi mx => .vr (vSlice t x lo hi mx) (rSlice t x lo hi mx)
 | .fieldAddr t x f => .val (vFieldAddr t x f)
 | .field t x f => .val (vField t x f)
 | .indexAddr t x i => .val (vIndexAddr t x i)
 | .index t x i => .val (vIndex t x i)
 | .extract t ix => .val (vExtract t ix)
 | .load t a => .rd (rLoad t a)
 | .lookup t x i ok => .rd (rLookup t x i ok)
 | .entry it => .rd (rEntry it)
 | .alloc t => .new (nAlloc t)
 | .box _ x => .new (nBox x)
 | .buildSlice t len parts => .new (nBuildSlice t len parts)
 | .makeMap t r => .new (nMakeMap t r)
 | .makeSlice t l c => .new (nMakeSlice t l c)
 | .range t x => .wr (wRange t x)
 | .store t a x => .wr (wStore t a x)
 | .mapUpdate t m k x => .wr (wMap t m k x)
 | .insert t m k x => .wr (wMap t m k x)
 | .mapEntry t m k => .wr (wEntry t m k)
 | .entryStore _ m st x => .wr (wEntryStore m st x)
 | .next it b => .wr (wNext it b)
 | .call c => clsC c
 | .defer c => .dfr c
 | _ => .bad

def Fr.put (fr : Fr) (dst : Option Tmp) (v : AV) : Fr := match dst with | some d => ⟨fr.t.set d v, fr.ds⟩ | none => fr

def adefer (fr : Fr) (c : Call) : R Fr := match evs fr c.args.toList with
 | .ok args => match c.callee with
  | .value f => match aev fr f with
   | .ok (.func (.func f) first captured) => .ok ⟨fr.t, .func (.func f) (first ++ args) captured :: fr.ds⟩
   | .ok _ => .err 142
   | .err c => .err c
  | _ => .err 143
 | .err c => .err c

/-- what comes of each of several -/
def bindL {α β : Type} (l : List α) (f : α → R (List β)) : R (List β) := match l with
 | [] => .ok []
 | [a] => f a
 | a :: r => match f a with
  | .ok x => match bindL r f with | .ok y => .ok (x ++ y) | .err c => .err c
  | .err c => .err c

def wantedA (ops : Array Oper) (fr : Fr) (o : Oper) : R Bool := match o.guard with
 | none => .ok true
 | some (j, want) => match (ops[j]?).bind (·.dst) with
  | some d => match fr.t.get d with
   | some (.g (.bool b)) => .ok (cond want b (not b))
   | some (.tuple _) => .ok false
   | _ => .err 170
  | none => .err 171

abbrev Kont := Fr → St → R (List (Fr × St))
def kVal (o : Oper) (K : Kont) (fr : Fr) (s : St) (x : R AV) : R (List (Fr × St)) := match x with
 | .ok a => K (fr.put o.dst a) s
 | .err c => .err c
def kNew (o : Oper) (K : Kont) (fr : Fr) (x : R (AV × St)) : R (List (Fr × St)) := match x with
 | .ok x => K (fr.put o.dst x.1) x.2
 | .err c => .err c
def kWr (o : Oper) (K : Kont) (fr : Fr) (x : R (List (AV × St))) : R (List (Fr × St)) := match x with
 | .ok l => bindL l fun x => K (fr.put o.dst x.1) x.2
 | .err c => .err c
def kDfr (o : Oper) (K : Kont) (s : St) (x : R Fr) : R (List (Fr × St)) := match x with
 | .ok fr => K (fr.put o.dst (.tuple [])) s
 | .err c => .err c
def evCls (E : Env) (F : CallF) (o : Oper) (K : Kont) (fr : Fr) (s : St) (c : Cls) : R (List (Fr × St)) := match c with
 | .val f => kVal o K fr s (f E fr o)
 | .rd f => kVal o K fr s (f E fr s)
 | .vr f g => match f E fr o with
  | .ok a => K (fr.put o.dst a) s
  | .err _ => kVal o K fr s (g E fr s)
 | .new f => kNew o K fr (f E fr s)
 | .wr f => kWr o K fr (f E F fr s)
 | .vw f g => match f E fr o with
  | .ok a => K (fr.put o.dst a) s
  | .err _ => kWr o K fr (g E F fr s)
 | .dfr c => kDfr o K s (adefer fr c)
 | .bad => .err 165

/-- one operation: on with the rest -/
def evOp (E : Env) (F : CallF) (ops : Array Oper) (o : Oper) (K : Kont) (fr : Fr) (s : St) : R (List (Fr × St)) :=
 match wantedA ops fr o with
 | .ok true => evCls E F o K fr s (cls o.op)
 | .ok false => K (fr.put o.dst (.tuple [])) s
 | .err c => .err c
def evOps (E : Env) (F : CallF) (ops : Array Oper) (l : List Oper) : Fr → St → R (List (Fr × St)) :=
 List.rec (motive := fun _ => Fr → St → R (List (Fr × St))) (fun fr s => .ok [(fr, s)]) (fun o _ ih => evOp E F ops o ih) l

mutual
def beqA : AV → AV → Bool
 | .g a, .g b => match a, b with
   | .bool x, .bool y => x == y
   | .int k x, .int k' y => sameK k k' && eqI x y
   | .string x, .string y => x.data.toList == y.data.toList
   | .nilFunc, .nilFunc => true
   | .nilIface, .nilIface => true
   | .pointer none, .pointer none => true
   | .slice none 0 0, .slice none 0 0 => true
   | .map none, .map none => true
   | _, _ => false
 | .ptr k o, .ptr k' o' => Nat.beq k k' && Nat.beq o o'
 | .slice k o l x c e, .slice k' o' l' x' c' e' => Nat.beq k k' && Nat.beq o o' && Nat.beq l l' && x == x' && Nat.beq c c' && Nat.beq e e'
 | .map k, .map k' => Nat.beq k k'
 | .func (.func f) a b, .func (.func f') a' b' => Nat.beq f f' && beqL a a' && beqL b b'
 | .iface t v, .iface t' v' => Nat.beq t t' && beqA v v'
 | .agg a, .agg b => beqL a b
 | .tuple a, .tuple b => beqL a b
 | _, _ => false
def beqL : List AV → List AV → Bool
 | [], [] => true
 | a :: r, b :: r' => beqA a b && beqL r r'
 | _, _ => false
end

/-- a region that draws: what has been come to. The writers stand in one row; 'hist': the memory ahead of the first one, and behind each -/
structure Dr where
 fr : Fr
 s : St
 done : List Nat                       -- the writers so far, the latest one first
 hist : List (Nat × St)                -- behind which writer (its place and one; 0: ahead of all), the latest one first
 pend : List (Nat × Nat × ABlk)        -- blocks that are laid and not yet in memory: the operation, the block's id
 reads : List (Nat × Fr × Oper × AV)   -- what was read
 deriving Inhabited

def adopt (m : Nat) : List (Nat × Nat × ABlk) → St → List (Nat × Nat × ABlk) × St
 | [], s => ([], s)
 | (i, k, b) :: r, s => match adopt m r s with
  | (l, s) => cond (m.testBit i) (l, s.put k b) ((i, k, b) :: l, s)

/-- the slots that an operation looks at, and no others -/
def pickF (fr : Fr) : List Operand → T AV → T AV
 | [], t => t
 | .tmp k :: r, t => pickF fr r (match fr.t.get k with | some v => t.set k v | none => t)
 | _ :: r, t => pickF fr r t
def restr (fr : Fr) (o : Oper) : Fr := ⟨pickF fr o.op.operands.toList .leaf, []⟩
def dVal (o : Oper) (d : Dr) (x : R AV) : R Dr := match x with | .ok a => .ok { d with fr := d.fr.put o.dst a } | .err c => .err c
def dRd (i : Nat) (o : Oper) (d : Dr) (q : Fr) (x : R AV) : R Dr := match x with
 | .ok v => .ok { d with fr := d.fr.put o.dst v, reads := (i, q, o, v) :: d.reads }
 | .err c => .err c
def dNew (i k : Nat) (o : Oper) (d : Dr) (x : R (AV × St)) : R Dr := match x with
 | .ok p => match p.2.h.get k with
  | some b => .ok { d with fr := d.fr.put o.dst p.1, pend := (i, k, b) :: d.pend }
  | none => .err 181
 | .err c => .err c
def dWr (before : Array Nat) (i : Nat) (o : Oper) (d : Dr) (f : St → R (List (AV × St))) : R Dr :=
 cond (d.done.all ((before.getD i 0).testBit ·)) (match adopt (before.getD i 0) d.pend d.s with
  | (pend, s) => match f s with
   | .ok [(v, s')] => .ok { d with fr := d.fr.put o.dst v, s := s', pend, done := i :: d.done, hist := (i + 1, s') :: d.hist }
   | .ok _ => .err 184
   | .err c => .err c) (.err 185)
/-- k0: the first of the names that are kept for the region's operations -/
def drawnCls (E : Env) (F : CallF) (before : Array Nat) (k0 i : Nat) (o : Oper) (d : Dr) (q : Fr) (c : Cls) : R Dr := match c with
  | .val f => dVal o d (f E q o)
  | .rd g => dRd i o d q (g E q (adopt (before.getD i 0) d.pend d.s).2)
  | .vr f g => match f E q o with
   | .ok a => dVal o d (.ok a)
   | .err _ => dRd i o d q (g E q (adopt (before.getD i 0) d.pend d.s).2)
  | .new f => dNew i (k0 + i) o d (f E q ⟨.leaf, k0 + i⟩)
  | .wr g => dWr before i o d (g E F q)
  | .vw f g => match f E q o with
   | .ok a => dVal o d (.ok a)
   | .err _ => dWr before i o d (g E F q)
  | .dfr _ => .err 180
  | .bad => .err 180
def drawnOp (E : Env) (F : CallF) (ops : Array Oper) (before : Array Nat) (k0 i : Nat) (o : Oper) (d : Dr) : R Dr :=
 match wantedA ops d.fr o with
 | .ok false => .ok { d with fr := d.fr.put o.dst (.tuple []) }
 | .err c => .err c
 | .ok true => drawnCls E F before k0 i o d (restr d.fr o) (cls o.op)

def drawnOps (E : Env) (F : CallF) (ops : Array Oper) (before : Array Nat) (k0 : Nat) : Nat → List Oper → Dr → R Dr
 | _, [], d => .ok d
 | i, o :: os, d => match drawnOp E F ops before k0 i o d with
  | .ok d => drawnOps E F ops before k0 (i + 1) os d
  | .err c => .err c

def rdOf : Cls → Option RdF
 | .rd g => some g
 | .vr _ g => some g
 | _ => none
/-- each read gives the same at every time at which it may be -/
def readsOk (E : Env) (before : Array Nat) (d : Dr) : Bool :=
 d.reads.all fun (i, fr, o, v) =>
  d.hist.all fun (j, s) =>
   -- the memory behind writer j-1: may i be done there? not if a writer that i waits for comes later, nor if one of those so far waits for i
   cond ((d.done.filter fun k => !Nat.blt k j).any ((before.getD i 0).testBit ·) || (d.done.filter fun k => Nat.blt k j).any (fun k => (before.getD k 0).testBit i)) true
    (match rdOf (cls o.op) with
     | some g => match g E fr (adopt (before.getD i 0) d.pend s).2 with
      | .ok v' => beqA v v'
      | .err _ => false
     | none => false)

/-- one name each; what is read is written ahead, or not in the region, or is overwritten behind -/
def ssaOk (ops : Array Oper) (before : Array Nat) : Bool :=
 ops.toList.zipIdx.all fun (o, i) =>
  (o.after.toList.all fun e => !Region.binds .any e || Nat.blt e.on i) &&
  (match o.guard with | some g => (before.getD i 0).testBit g.1 | none => true) &&
  (match o.dst with | some t => ops.toList.zipIdx.all fun (p, j) => Nat.beq i j || p.dst != some t | none => true) &&
  o.op.operands.toList.all fun x => match x with
   | .tmp t => ops.toList.zipIdx.all fun (p, j) => p.dst != some t || (before.getD i 0).testBit j || (before.getD j 0).testBit i
   | _ => true

def evDrawn (E : Env) (F : CallF) (ops : Array Oper) (fr : Fr) (s : St) : R (List (Fr × St)) :=
 cond (ssaOk ops (Region.before ops))
  (match drawnOps E F ops (Region.before ops) s.nx 0 ops.toList { fr, s := ⟨s.h, s.nx + ops.size⟩, done := [], hist := [(0, ⟨s.h, s.nx + ops.size⟩)], pend := [], reads := [] } with
  | .ok d => cond (readsOk E (Region.before ops) d) (.ok [(d.fr, (adopt (2 ^ ops.size - 1) d.pend d.s).2)]) (.err 187)
  | .err c => .err c) (.err 188)

inductive Ex where
 | normal | exit (id : Nat) | ret
 deriving Inhabited
structure Out where
 e : Ex
 fr : Fr
 s : St
 deriving Inhabited

def outs (x : R (List (Fr × St))) : R (List Out) := match x with
 | .ok [p] => .ok [⟨.normal, p.1, p.2⟩]
 | .ok l => .ok (l.map fun p => ⟨.normal, p.1, p.2⟩)
 | .err c => .err c

def aresult1 (E : Env) (fr : Fr) (s : St) : ResultVar → R AV
 | .tmp t => match fr.t.get t with | some a => .ok a | none => .err 190
 | .cell a t => match fr.t.get a with
  | some p => aload E s t p
  | none => .err 191
def aresults (E : Env) (fn : Func) (fr : Fr) (s : St) : R AV := match mapR (aresult1 E fr s) fn.results.toList with
 | .ok [v] => .ok v
 | .ok vs => .ok (.tuple vs)
 | .err c => .err c

def enterF : Nat → List AV → T AV → T AV
 | _, [], fr => fr
 | i, a :: r, fr => enterF (i + 1) r (fr.set i a)

/-- a function without a body, at values that hold no memory -/
def extF (E : Env) (f : FuncId) (args : List AV) (s : St) : R (List (AV × St)) := match toGL args with
 | some vs => match pureRun E.P (callFunc f vs.toArray) with
  | .ok (.value v) => match ofV 8 v with | some a => .ok [(a, s)] | none => .err 210
  | .ok _ => .err 211
  | .err c => .err (220 + c)
 | none => .err 212
/-- the deferred calls, the latest one first -/
def runDefers (G : FuncId → List AV → St → R (List St)) : List AV → St → R (List St)
 | [], s => .ok [s]
 | .func (.func f) first captured :: r, s => match G f (first ++ captured) s with
  | .ok l => bindL l fun s => runDefers G r s
  | .err c => .err c
 | _ :: _, _ => .err 213
def atEnd (E : Env) (D : List AV → St → R (List St)) (fn : Func) (o : Out) : R (List (AV × St)) := match o.e with
 | .exit _ => .err 201
 | _ => match D o.fr.ds o.s with
  | .ok l => mapR (fun s => match aresults E fn o.fr s with | .ok v => .ok (v, s) | .err c => .err c) l
  | .err c => .err c
abbrev Cons := FuncId → Option (List AV → St → R (List (AV × St)))
abbrev CodeF := Code → Fr → St → R (List Out)
def tell {α : Type} (f : Nat) (x : R α) : R α := match x with | .ok a => .ok a | .err c => .err (cond (Nat.blt c 1000) (c + 1000 * f) c)
def enter (E : Env) (C : Cons) (D : List AV → St → R (List St)) (V : CodeF) : CallF := fun f args s => match C f with
 | some k => k args s
 | none => match E.fn.get f with
  | some (some fn) => match fn.body with
   | some b => cond (Nat.ble args.length fn.ntmps) (match V b ⟨enterF 0 args .leaf, []⟩ s with
    | .ok l => tell f (bindL l (atEnd E D fn))
    | .err c => tell f (.err c)) (.err 204)
   | none => extF E f args s
  | some none => .err 203
  | none => .err 202
/-- a function that was deferred -/
def doneD (E : Env) (fn : Func) (o : Out) : R (List St) := match o.e with
 | .exit _ => .err 201
 | _ => match o.fr.ds with
  | [] => match aresults E fn o.fr o.s with | .ok _ => .ok [o.s] | .err c => .err c
  | _ => .err 214
def enterD (E : Env) (V : CodeF) (f : FuncId) (args : List AV) (s : St) : R (List St) := match E.fn.get f with
 | some (some fn) => match fn.body with
  | some b => cond (Nat.ble args.length fn.ntmps) (match V b ⟨enterF 0 args .leaf, []⟩ s with
   | .ok l => bindL l (doneD E fn)
   | .err c => .err c) (.err 204)
  | none => .err 215
 | some none => .err 203
 | none => .err 202
def callOf (E : Env) (C : Cons) (V : CodeF) : CallF := enter E C (runDefers (enterD E V)) V

def sSeq (V : CodeF) (b : Code) (x : R (List Out)) : R (List Out) := match x with
 | .ok l => bindL l fun o => match o.e with
  | .normal => V b o.fr o.s
  | _ => .ok [o]
 | .err c => .err c
def sBlock (id : Nat) (x : R (List Out)) : R (List Out) := match x with
 | .ok l => bindL l fun o => match o.e with
  | .exit id' => .ok [cond (Nat.beq id' id) ⟨.normal, o.fr, o.s⟩ o]
  | _ => .ok [o]
 | .err c => .err c
def sCond (V : CodeF) (a b : Code) (fr : Fr) (s : St) (x : R AV) : R (List Out) := match x with
 | .ok (.g (.bool t)) => cond t (V a fr s) (V b fr s)
 | .ok _ => .err 204
 | .err c => .err c
abbrev StepF := Env → Cons → CodeF → Fr → St → R (List Out)
def stepOf (c : Code) : StepF := match c with
 | .skip => fun _ _ _ fr s => .ok [⟨.normal, fr, s⟩]
 | .label _ => fun _ _ _ fr s => .ok [⟨.normal, fr, s⟩]
 | .region _ ops draw => fun E C V fr s => outs (cond draw (evDrawn E (callOf E C V) ops fr s) (evOps E (callOf E C V) ops ops.toList fr s))
 | .seq a b => fun _ _ V fr s => sSeq V b (V a fr s)
 | .cond x a b => fun _ _ V fr s => sCond V a b fr s (aev fr x)
 | .block id b => fun _ _ V fr s => sBlock id (V b fr s)
 | .loop b => fun _ _ V fr s => sSeq V (.loop b) (V b fr s)
 | .scope b => fun _ _ V fr s => V b fr s
 | .exit id => fun _ _ _ fr s => .ok [⟨.exit id, fr, s⟩]
 | .ret => fun _ _ _ fr s => .ok [⟨.ret, fr, s⟩]
 | .goto _ => fun _ _ _ _ _ => .err 205
 | .rangeFunc .. => fun _ _ _ _ _ => .err 206
 | .refuse _ => fun _ _ _ _ _ => .err 207
def evStep (E : Env) (C : Cons) (V : CodeF) : CodeF := fun c fr s => stepOf c E C V fr s
def ev (E : Env) (C : Cons) (n : Nat) : CodeF :=
 Nat.rec (motive := fun _ => CodeF) (fun _ _ _ => .err 200) (fun _ ih => evStep E C ih) n
def evCall (E : Env) (C : Cons) (n : Nat) : CallF := callOf E C (ev E C n)
end
end Go.Ev
namespace Go.Ev
/-! the trie -/
theorem T.getP_leaf {α : Type} (p : List Bool) : (T.leaf : T α).getP p = none := rfl
theorem T.getP_nil {α : Type} (l r : T α) (v : Option α) : (T.node l v r).getP [] = v := rfl
theorem T.getP_true {α : Type} (l r : T α) (v : Option α) (q : List Bool) : (T.node l v r).getP (true :: q) = l.getP q := rfl
theorem T.getP_false {α : Type} (l r : T α) (v : Option α) (q : List Bool) : (T.node l v r).getP (false :: q) = r.getP q := rfl
theorem T.setP_leaf {α : Type} (x : α) (p : List Bool) : T.setP x (T.leaf : T α) p = T.single x p := rfl
theorem T.setP_nil {α : Type} (x : α) (l r : T α) (v : Option α) : T.setP x (T.node l v r) [] = .node l (some x) r := rfl
theorem T.setP_true {α : Type} (x : α) (l r : T α) (v : Option α) (q : List Bool) : T.setP x (T.node l v r) (true :: q) = .node (T.setP x l q) v r := rfl
theorem T.setP_false {α : Type} (x : α) (l r : T α) (v : Option α) (q : List Bool) : T.setP x (T.node l v r) (false :: q) = .node l v (T.setP x r q) := rfl
theorem T.eraseP_leaf {α : Type} (p : List Bool) : T.eraseP (T.leaf : T α) p = .leaf := rfl
theorem T.eraseP_nil {α : Type} (l r : T α) (v : Option α) : T.eraseP (T.node l v r) [] = .node l none r := rfl
theorem T.eraseP_true {α : Type} (l r : T α) (v : Option α) (q : List Bool) : T.eraseP (T.node l v r) (true :: q) = .node (T.eraseP l q) v r := rfl
theorem T.eraseP_false {α : Type} (l r : T α) (v : Option α) (q : List Bool) : T.eraseP (T.node l v r) (false :: q) = .node l v (T.eraseP r q) := rfl

theorem T.get_single {α : Type} (x : α) : ∀ p q : List Bool, (T.single x p).getP q = if q = p then some x else none
 | [], [] => by simp [T.single, T.getP_nil]
 | [], true :: q => by simp [T.single, T.getP_true, T.getP_leaf]
 | [], false :: q => by simp [T.single, T.getP_false, T.getP_leaf]
 | true :: p, [] => by simp [T.single, T.getP_nil]
 | true :: p, true :: q => by simp [T.single, T.getP_true, T.get_single x p q]
 | true :: p, false :: q => by simp [T.single, T.getP_false, T.getP_leaf]
 | false :: p, [] => by simp [T.single, T.getP_nil]
 | false :: p, true :: q => by simp [T.single, T.getP_true, T.getP_leaf]
 | false :: p, false :: q => by simp [T.single, T.getP_false, T.get_single x p q]
theorem T.getP_setP {α : Type} (x : α) : ∀ (t : T α) (p q : List Bool), (T.setP x t p).getP q = if q = p then some x else t.getP q
 | .leaf, p, q => by rw [T.setP_leaf, T.get_single, T.getP_leaf]
 | .node l v r, [], [] => by simp [T.setP_nil, T.getP_nil]
 | .node l v r, [], true :: q => by simp [T.setP_nil, T.getP_true]
 | .node l v r, [], false :: q => by simp [T.setP_nil, T.getP_false]
 | .node l v r, true :: p, [] => by simp [T.setP_true, T.getP_nil]
 | .node l v r, true :: p, true :: q => by simp [T.setP_true, T.getP_true, T.getP_setP x l p q]
 | .node l v r, true :: p, false :: q => by simp [T.setP_true, T.getP_false]
 | .node l v r, false :: p, [] => by simp [T.setP_false, T.getP_nil]
 | .node l v r, false :: p, true :: q => by simp [T.setP_false, T.getP_true]
 | .node l v r, false :: p, false :: q => by simp [T.setP_false, T.getP_false, T.getP_setP x r p q]
theorem T.getP_eraseP {α : Type} : ∀ (t : T α) (p q : List Bool), (T.eraseP t p).getP q = if q = p then none else t.getP q
 | .leaf, p, q => by rw [T.eraseP_leaf, T.getP_leaf]; simp
 | .node l v r, [], [] => by simp [T.eraseP_nil, T.getP_nil]
 | .node l v r, [], true :: q => by simp [T.eraseP_nil, T.getP_true]
 | .node l v r, [], false :: q => by simp [T.eraseP_nil, T.getP_false]
 | .node l v r, true :: p, [] => by simp [T.eraseP_true, T.getP_nil]
 | .node l v r, true :: p, true :: q => by simp [T.eraseP_true, T.getP_true, T.getP_eraseP l p q]
 | .node l v r, true :: p, false :: q => by simp [T.eraseP_true, T.getP_false]
 | .node l v r, false :: p, [] => by simp [T.eraseP_false, T.getP_nil]
 | .node l v r, false :: p, true :: q => by simp [T.eraseP_false, T.getP_true]
 | .node l v r, false :: p, false :: q => by simp [T.eraseP_false, T.getP_false, T.getP_eraseP r p q]
/-- back from a way to its number -/
def numOf : List Bool → Nat
 | [] => 0
 | true :: q => 2 * numOf q + 1
 | false :: q => 2 * numOf q + 2
theorem num_path : ∀ f k, k ≤ f → numOf (pathF f k) = k
 | 0, k, h => by simp [pathF, numOf]; omega
 | f + 1, k, h => by
  unfold pathF
  by_cases h0 : k = 0
  ·subst h0; rfl
  ·have e0 : Nat.beq k 0 = false := by
    rcases hb : Nat.beq k 0 with _ | _
    ·rfl
    ·exact absurd (Nat.eq_of_beq_eq_true hb) h0
   rw [e0]
   simp only [cond_false]
   by_cases h1 : k % 2 = 1
   ·have e1 : Nat.beq (Nat.mod k 2) 1 = true := by show Nat.beq (k % 2) 1 = true; rw [h1]; rfl
    rw [e1]
    simp only [cond_true, numOf]
    rw [num_path f (Nat.div k 2) (by show k / 2 ≤ f; omega)]
    show 2 * (k / 2) + 1 = k
    omega
   ·have e1 : Nat.beq (Nat.mod k 2) 1 = false := by
     rcases hb : Nat.beq (Nat.mod k 2) 1 with _ | _
     ·rfl
     ·exact absurd (Nat.eq_of_beq_eq_true hb) h1
    rw [e1]
    simp only [cond_false, numOf]
    rw [num_path f (Nat.div (Nat.sub k 1) 2) (by show (k - 1) / 2 ≤ f; omega)]
    show 2 * ((k - 1) / 2) + 2 = k
    omega
theorem path_inj {k k' : Nat} (h : pathOf k = pathOf k') : k = k' := by
 have := congrArg numOf h
 simpa [pathOf, num_path] using this
theorem T.get_set {α : Type} (t : T α) (k : Nat) (x : α) (q : Nat) : (t.set k x).get q = if q = k then some x else t.get q := by
 unfold T.get T.set
 rw [T.getP_setP]
 by_cases h : q = k
 ·subst h; simp
 ·rw [if_neg h, if_neg (fun e => h (path_inj e))]
theorem T.get_erase {α : Type} (t : T α) (k q : Nat) : (t.erase k).get q = if q = k then none else t.get q := by
 unfold T.get T.erase
 rw [T.getP_eraseP]
 by_cases h : q = k
 ·subst h; simp
 ·rw [if_neg h, if_neg (fun e => h (path_inj e))]
theorem T.get_leaf {α : Type} (q : Nat) : (T.leaf : T α).get q = none := rfl

/-! rows -/
theorem getAt_cons {α : Type} (a : α) (l : List α) (k : Nat) : getAt (a :: l) k = if k = 0 then some a else getAt l (k - 1) := by
 show (Bool.rec (getAt l (Nat.sub k 1)) (some a) (Nat.beq k 0) : Option α) = _
 by_cases h : k = 0
 ·subst h; rfl
 ·have e0 : Nat.beq k 0 = false := by
   rcases hb : Nat.beq k 0 with _ | _
   ·rfl
   ·exact absurd (Nat.eq_of_beq_eq_true hb) h
  rw [e0, if_neg h]; rfl
theorem getAt_eq {α : Type} : ∀ (l : List α) (k : Nat), getAt l k = l[k]?
 | [], k => by simp; rfl
 | a :: l, 0 => by rw [getAt_cons]; simp
 | a :: l, k + 1 => by rw [getAt_cons]; simp [getAt_eq l k]
def consR (a : AV) : R (List AV) → R (List AV)
 | .ok l => .ok (a :: l)
 | .err c => .err c
theorem setAt_succ (a : AV) (r : List AV) (k : Nat) (vs : List AV) : setAt (a :: r) (k + 1) vs = consR a (setAt r k vs) := by
 cases vs <;> (simp only [setAt]; cases setAt r k _ <;> rfl)
theorem setAt_spec : ∀ (l : List AV) (k : Nat) (vs l' : List AV), setAt l k vs = .ok l' →
  l'.length = l.length ∧ k + vs.length ≤ l.length ∧ ∀ i, l'[i]? = if k ≤ i ∧ i < k + vs.length then vs[i - k]? else l[i]?
 | l, 0, [], l', h => by
  have : l' = l := by cases l <;> simpa [setAt] using h.symm
  subst this
  refine ⟨rfl, by simp, fun i => ?_⟩
  simp
 | [], 0, v :: vs, l', h => by simp [setAt] at h
 | [], k + 1, vs, l', h => by cases vs <;> simp [setAt] at h
 | a :: r, 0, v :: vs, l', h => by
  simp only [setAt] at h
  cases hs : setAt r 0 vs with
  | err c => rw [hs] at h; cases h
  | ok m =>
   rw [hs] at h
   injection h with h; subst h
   obtain ⟨h1, h2, h3⟩ := setAt_spec r 0 vs m hs
   refine ⟨by simp [h1], by simp at h2 ⊢; omega, fun i => ?_⟩
   cases i with
   | zero => simp
   | succ i =>
    have := h3 i
    simp only [List.getElem?_cons_succ, List.length_cons, Nat.zero_add, Nat.zero_le, true_and, Nat.sub_zero] at this ⊢
    rw [this]
    by_cases hi : i < vs.length
    ·simp [hi]
    ·simp [hi]
 | a :: r, k + 1, vs, l', h => by
  rw [setAt_succ] at h
  cases hs : setAt r k vs with
  | err c => rw [hs] at h; cases h
  | ok m =>
   rw [hs] at h
   injection h with h; subst h
   obtain ⟨h1, h2, h3⟩ := setAt_spec r k vs m hs
   refine ⟨by simp [h1], by simp at h2 ⊢; omega, fun i => ?_⟩
   cases i with
   | zero => simp
   | succ i =>
    have := h3 i
    simp only [List.getElem?_cons_succ] at this ⊢
    rw [this]
    by_cases hi : k ≤ i ∧ i < k + vs.length
    ·rw [if_pos hi, if_pos (by omega)]
     congr 1; omega
    ·rw [if_neg hi, if_neg (by omega)]
theorem subAt_spec (l : List AV) (off n : Nat) (r : List AV) (h : subAt l off n = .ok r) : r.length = n ∧ off + n ≤ l.length ∨ n = 0 ∧ r = [] := by
 unfold subAt at h
 cases hb : Nat.beq ((l.drop off).take n).length n with
 | false => simp only [hb, cond_false] at h; cases h
 | true =>
  simp only [hb, cond_true] at h
  injection h with h; subst h
  have := Nat.eq_of_beq_eq_true hb
  rcases Nat.eq_zero_or_pos n with h0 | h0
  ·right; subst h0; simp
  ·left
   simp [List.length_take, List.length_drop] at this ⊢
   omega
theorem subAt_get (l : List AV) (off n : Nat) (r : List AV) (h : subAt l off n = .ok r) : r.length = n ∧ ∀ i, i < n → r[i]? = l[off + i]? := by
 unfold subAt at h
 cases hb : Nat.beq ((l.drop off).take n).length n with
 | false => simp only [hb, cond_false] at h; cases h
 | true =>
  simp only [hb, cond_true] at h
  injection h with h; subst h
  refine ⟨Nat.eq_of_beq_eq_true hb, fun i hi => ?_⟩
  rw [List.getElem?_take]
  simp [hi]

/-! what a value with names stands for -/
structure Loc where
 b : Nat
 s : Nat
 n : Nat
abbrev Io := Nat → Option Loc
def scal : Value → Bool
 | .agg _ => false
 | .tuple _ => false
 | _ => true
theorem scal_cells {v : Value} (h : scal v = true) : v.cells = #[v] := by cases v <;> simp [scal] at h <;> rfl
mutual
def rel (ι : Io) : AV → Value → Prop
 | .g v, x => x = v ∧ scal v = true
 | .ptr k off, x => ∃ l, ι k = some l ∧ x = .pointer (some ⟨l.b, l.s + off, none⟩)
 | .slice k off len ex c esz, x => ∃ l o cap, ι k = some l ∧ x = .slice (some ⟨l.b, o, none⟩) len cap ∧ (0 < c → o = l.s + off) ∧ (ex = true → cap = c) ∧ c ≤ cap ∧ len ≤ c ∧
   o + cap * esz ≤ l.n ∧ cap ≤ 9223372036854775807
 | .map k, x => ∃ l, ι k = some l ∧ x = .map (some l.b)
 | .func fn a b, x => ∃ a' b', x = .func fn (List.toArray a') (List.toArray b') ∧ relL ι a a' ∧ relL ι b b'
 | .iface t a, x => ∃ v, x = .iface t v ∧ rel ι a v
 | .agg cs, x => ∃ l, x = .agg (List.toArray l) ∧ relL ι cs l
 | .tuple cs, x => ∃ l, x = .tuple (List.toArray l) ∧ relL ι cs l
def relL (ι : Io) : List AV → List Value → Prop
 | [], l => l = []
 | a :: r, l => ∃ v vs, l = v :: vs ∧ rel ι a v ∧ relL ι r vs
end
def Sub (ι ι' : Io) : Prop := ∀ k l, ι k = some l → ι' k = some l
theorem Sub.refl (ι : Io) : Sub ι ι := fun _ _ h => h
theorem Sub.trans {a b c : Io} (h : Sub a b) (h' : Sub b c) : Sub a c := fun k l e => h' k l (h k l e)
mutual
theorem rel.sub {ι ι' : Io} (h : Sub ι ι') : ∀ (a : AV) (v : Value), rel ι a v → rel ι' a v
 | .g _, _, e => e
 | .ptr _ _, _, ⟨l, e, r⟩ => ⟨l, h _ _ e, r⟩
 | .slice .., _, ⟨l, o, c, e, r⟩ => ⟨l, o, c, h _ _ e, r⟩
 | .map _, _, ⟨l, e, r⟩ => ⟨l, h _ _ e, r⟩
 | .func _ a b, _, ⟨x, y, e, ha, hb⟩ => ⟨x, y, e, relL.sub h a x ha, relL.sub h b y hb⟩
 | .iface _ a, _, ⟨v, e, ha⟩ => ⟨v, e, rel.sub h a v ha⟩
 | .agg cs, _, ⟨l, e, ha⟩ => ⟨l, e, relL.sub h cs l ha⟩
 | .tuple cs, _, ⟨l, e, ha⟩ => ⟨l, e, relL.sub h cs l ha⟩
theorem relL.sub {ι ι' : Io} (h : Sub ι ι') : ∀ (a : List AV) (v : List Value), relL ι a v → relL ι' a v
 | [], _, e => e
 | a :: r, _, ⟨v, vs, e, ha, hr⟩ => ⟨v, vs, e, rel.sub h a v ha, relL.sub h r vs hr⟩
end
theorem relL.length {ι : Io} : ∀ {a : List AV} {v : List Value}, relL ι a v → v.length = a.length
 | [], _, e => by rw [e]; rfl
 | a :: r, _, ⟨v, vs, e, _, hr⟩ => by rw [e]; simp [hr.length]
theorem relL.get {ι : Io} : ∀ {a : List AV} {v : List Value}, relL ι a v → ∀ (i : Nat) (x : AV), a[i]? = some x → ∃ y, v[i]? = some y ∧ rel ι x y
 | [], _, _, i, x, h => by simp at h
 | a :: r, _, ⟨v, vs, e, ha, hr⟩, 0, x, h => by
  subst e
  simp at h
  subst h
  exact ⟨v, by simp, ha⟩
 | a :: r, _, ⟨v, vs, e, ha, hr⟩, i + 1, x, h => by
  subst e
  simp at h
  obtain ⟨y, h1, h2⟩ := hr.get i x h
  exact ⟨y, by simpa using h1, h2⟩
theorem relL.of {ι : Io} : ∀ {a : List AV} {v : List Value}, v.length = a.length → (∀ (i : Nat) (x : AV), a[i]? = some x → ∃ y, v[i]? = some y ∧ rel ι x y) → relL ι a v
 | [], v, h, _ => by
  have : v = [] := List.length_eq_zero_iff.1 h
  subst this; rfl
 | a :: r, [], h, _ => by simp at h
 | a :: r, v :: vs, h, hg => by
  refine ⟨v, vs, rfl, ?_, relL.of (by simpa using h) fun i x hi => ?_⟩
  ·obtain ⟨y, h1, h2⟩ := hg 0 a (by simp)
   simp at h1; subst h1; exact h2
  ·obtain ⟨y, h1, h2⟩ := hg (i + 1) x (by simpa using hi)
   exact ⟨y, by simpa using h1, h2⟩
theorem relL.append {ι : Io} : ∀ {a b : List AV} {v w : List Value}, relL ι a v → relL ι b w → relL ι (a ++ b) (v ++ w)
 | [], _, _, _, e, h => by rw [e]; exact h
 | a :: r, _, _, _, ⟨v, vs, e, ha, hr⟩, h => by subst e; exact ⟨v, _, rfl, ha, hr.append h⟩

/-! values without memory -/
mutual
theorem toG_rel {ι : Io} : ∀ (a : AV) (v : Value), toG a = some v → ∀ x, rel ι a x → x = v
 | .g w, v, h, x, hx => by simp [toG] at h; subst h; exact hx.1
 | .ptr .., v, h, x, hx => by simp [toG] at h
 | .slice .., v, h, x, hx => by simp [toG] at h
 | .map .., v, h, x, hx => by simp [toG] at h
 | .func fn [] [], v, h, x, hx => by
  simp [toG] at h; subst h
  obtain ⟨a', b', e, ha, hb⟩ := hx
  rw [e, show a' = [] from ha, show b' = [] from hb]
 | .func fn (_ :: _) _, v, h, x, hx => by simp [toG] at h
 | .func fn [] (_ :: _), v, h, x, hx => by simp [toG] at h
 | .iface t a, v, h, x, hx => by
  simp only [toG] at h
  cases ha : toG a with
  | none => rw [ha] at h; cases h
  | some w =>
   rw [ha] at h
   injection h with h; subst h
   obtain ⟨y, e, hy⟩ := hx
   rw [e, toG_rel a w ha y hy]
 | .agg cs, v, h, x, hx => by
  simp only [toG] at h
  cases ha : toGL cs with
  | none => rw [ha] at h; cases h
  | some w =>
   rw [ha] at h
   injection h with h; subst h
   obtain ⟨y, e, hy⟩ := hx
   rw [e, toGL_rel cs w ha y hy]
 | .tuple cs, v, h, x, hx => by
  simp only [toG] at h
  cases ha : toGL cs with
  | none => rw [ha] at h; cases h
  | some w =>
   rw [ha] at h
   injection h with h; subst h
   obtain ⟨y, e, hy⟩ := hx
   rw [e, toGL_rel cs w ha y hy]
theorem toGL_rel {ι : Io} : ∀ (a : List AV) (v : List Value), toGL a = some v → ∀ x, relL ι a x → x = v
 | [], v, h, x, hx => by simp [toGL] at h; subst h; exact hx
 | a :: r, v, h, x, hx => by
  simp only [toGL] at h
  cases ha : toG a with
  | none => rw [ha] at h; cases h
  | some w =>
   rw [ha] at h
   cases hr : toGL r with
   | none => rw [hr] at h; cases h
   | some ws =>
    rw [hr] at h
    injection h with h; subst h
    obtain ⟨y, ys, e, hy, hys⟩ := hx
    rw [e, toG_rel a w ha y hy, toGL_rel r ws hr ys hys]
end
theorem ofVL_rel {ι : Io} {f : Value → Option AV} (hf : ∀ v a, f v = some a → rel ι a v) : ∀ (l : List Value) (as : List AV), ofVL f l = some as → relL ι as l
 | [], as, h => by simp [ofVL] at h; subst h; rfl
 | v :: r, as, h => by
  simp only [ofVL] at h
  cases ha : f v with
  | none => rw [ha] at h; cases h
  | some a =>
   rw [ha] at h
   cases hr : ofVL f r with
   | none => rw [hr] at h; cases h
   | some l =>
    rw [hr] at h
    injection h with h; subst h
    exact ⟨v, r, rfl, hf v a ha, ofVL_rel hf r l hr⟩
theorem ofV_rel (ι : Io) : ∀ (n : Nat) (v : Value) (a : AV), ofV n v = some a → rel ι a v
 | 0, v, a, h => by simp [ofV] at h
 | n + 1, v, a, h => by
  unfold ofV at h
  split at h
  all_goals first
   | (injection h with h; subst h; exact ⟨rfl, rfl⟩)
   | skip
  ·rename_i cs
   cases hl : ofVL (ofV n) cs.toList with
   | none => rw [hl] at h; cases h
   | some l => rw [hl] at h; injection h with h; subst h; exact ⟨cs.toList, by simp, ofVL_rel (ofV_rel ι n) _ _ hl⟩
  ·rename_i cs
   cases hl : ofVL (ofV n) cs.toList with
   | none => rw [hl] at h; cases h
   | some l => rw [hl] at h; injection h with h; subst h; exact ⟨cs.toList, by simp, ofVL_rel (ofV_rel ι n) _ _ hl⟩
  ·rename_i t x
   cases hl : ofV n x with
   | none => rw [hl] at h; cases h
   | some l => rw [hl] at h; injection h with h; subst h; exact ⟨x, rfl, ofV_rel ι n _ _ hl⟩
  ·rename_i fn fi ca
   cases hl : ofVL (ofV n) fi.toList with
   | none => rw [hl] at h; cases h
   | some l =>
    rw [hl] at h
    cases hm : ofVL (ofV n) ca.toList with
    | none => rw [hm] at h; cases h
    | some m => rw [hm] at h; injection h with h; subst h; exact ⟨fi.toList, ca.toList, by simp, ofVL_rel (ofV_rel ι n) _ _ hl, ofVL_rel (ofV_rel ι n) _ _ hm⟩
  ·cases h
/-- a computation that asks the program alone -/
theorem pureRun_ok {α : Type} (P : Program) (m : Sem α) : ∀ (a : α), pureRun P m = .ok a → ∀ w, m.run P w = .ok a w := by
 induction m with
 | pure x => intro a h w; simp [pureRun] at h; subst h; rfl
 | program k ih => intro a h w; exact ih P a h w
 | mark mm k ih => intro a h w; exact ih a h w
 | choose q k ih =>
  intro a h w
  simp only [pureRun] at h
  by_cases hq : q.forced = true
  ·rw [if_pos hq] at h
   simp only [Sem.run, hq, if_true]
   exact ih 0 a h w
  ·rw [if_neg hq] at h; cases h
 | _ => intro a h; simp [pureRun] at h
end Go.Ev
namespace Go.Ev
def relC (ι : Io) (s : Nat) (cs : List AV) (c : Array Value) : Prop := ∀ (i : Nat) (a : AV), cs[i]? = some a → ∃ v, c[s + i]? = some v ∧ rel ι a v
def relE (ι : Io) : List AEnt → List MapEntry → Prop
 | [], l => l = []
 | e :: r, l => ∃ m ms, l = m :: ms ∧ rel ι e.key m.key ∧ rel ι e.val m.val ∧ m.born = e.born ∧ relE ι r ms
def relM (ι : Io) : Option Nat → Option Nat → Prop
 | none, m => m = none
 | some k, m => ∃ l, ι k = some l ∧ m = some l.b
def BRel (ι : Io) (l : Loc) : ABlk → Obj → Prop
 | .cells cs, o => ∃ c t, o = .cells c t (0, 0) ∧ c.size = l.n ∧ relC ι l.s cs c ∧ (mbx cs = true → l.s = 0)
 | .bytes cs, o => ∃ c t f, o = .cells c t f ∧ c.size = l.n ∧ relC ι l.s cs c
 | .map es clock, o => ∃ ms, o = .map (List.toArray ms) clock ∧ relE ι es ms
 | .iter m since seen st, o => l.s = 0 ∧ ∃ m', o = .mapIter m' since (List.toArray seen.reverse) st ∧ relM ι m m'
 | .siter b pos, o => l.s = 0 ∧ o = .stringIter b pos
theorem relC.sub {ι ι' : Io} (h : Sub ι ι') {s : Nat} {cs : List AV} {c : Array Value} (hr : relC ι s cs c) : relC ι' s cs c :=
 fun i a hi => let ⟨v, h1, h2⟩ := hr i a hi; ⟨v, h1, h2.sub h⟩
theorem relE.sub {ι ι' : Io} (h : Sub ι ι') : ∀ {es : List AEnt} {ms : List MapEntry}, relE ι es ms → relE ι' es ms
 | [], _, e => e
 | _ :: _, _, ⟨m, ms, e, h1, h2, h3, h4⟩ => ⟨m, ms, e, h1.sub h, h2.sub h, h3, h4.sub h⟩
theorem BRel.sub {ι ι' : Io} (h : Sub ι ι') {l : Loc} : ∀ {b : ABlk} {o : Obj}, BRel ι l b o → BRel ι' l b o
 | .cells _, _, ⟨c, t, e, hs, hc, hm⟩ => ⟨c, t, e, hs, hc.sub h, hm⟩
 | .bytes _, _, ⟨c, t, f, e, hs, hc⟩ => ⟨c, t, f, e, hs, hc.sub h⟩
 | .map _ _, _, ⟨ms, e, hc⟩ => ⟨ms, e, hc.sub h⟩
 | .iter none _ _ _, _, ⟨z, m, e, hc⟩ => ⟨z, m, e, hc⟩
 | .iter (some _) _ _ _, _, ⟨z, m, e, l, hl, hc⟩ => ⟨z, m, e, l, h _ _ hl, hc⟩
 | .siter _ _, _, e => e
structure HRel (ι : Io) (s : St) (w : World) : Prop where
 blk : ∀ k b, s.h.get k = some b → ∃ l o, ι k = some l ∧ w.heap[l.b]? = some o ∧ BRel ι l b o
 inj : ∀ k k' b b' l l', s.h.get k = some b → s.h.get k' = some b' → ι k = some l → ι k' = some l' → l.b = l'.b → k = k'
 fresh : ∀ k, s.nx ≤ k → ι k = none
structure Stp (ι : Io) (s : St) (w : World) (ι' : Io) (s' : St) (w' : World) : Prop where
 sub : Sub ι ι'
 h : HRel ι' s' w'
 size : w.heap.size ≤ w'.heap.size
 old : ∀ b, b < w.heap.size → (∀ k l bb, s.h.get k = some bb → ι k = some l → l.b ≠ b) → w'.heap[b]? = w.heap[b]?
 img : ∀ k l bb, s'.h.get k = some bb → ι' k = some l → w.heap.size ≤ l.b ∨ ∃ k0 l0 b0, s.h.get k0 = some b0 ∧ ι k0 = some l0 ∧ l0.b = l.b
 os : w'.os = w.os
 tape : w'.tape = w.tape
 output : w'.output = w.output
 nx : s.nx ≤ s'.nx
 keep : ∀ k, k < s.nx → ι' k = ι k
theorem HRel.lt {ι : Io} {s : St} {w : World} (H : HRel ι s w) {k : Nat} {b : ABlk} {l : Loc} (hk : s.h.get k = some b) (hl : ι k = some l) : l.b < w.heap.size := by
 obtain ⟨l', o, h1, h2, _⟩ := H.blk k b hk
 rw [hl] at h1; injection h1 with h1; subst h1
 exact (Array.getElem?_eq_some_iff.1 h2).1
theorem Stp.refl {ι : Io} {s : St} {w : World} (H : HRel ι s w) : Stp ι s w ι s w :=
 ⟨Sub.refl ι, H, Nat.le_refl _, fun _ _ _ => rfl, fun k l bb hk hl => .inr ⟨k, l, bb, hk, hl, rfl⟩, rfl, rfl, rfl, Nat.le_refl _, fun _ _ => rfl⟩
theorem Stp.trans {ι ι' ι'' : Io} {s s' s'' : St} {w w' w'' : World} (h : Stp ι s w ι' s' w') (h' : Stp ι' s' w' ι'' s'' w'') : Stp ι s w ι'' s'' w'' where
 sub := h.sub.trans h'.sub
 h := h'.h
 size := Nat.le_trans h.size h'.size
 old := fun b hb hn => by
  rw [h'.old b (Nat.lt_of_lt_of_le hb h.size) ?_, h.old b hb hn]
  intro k l bb hk hl e
  rcases h.img k l bb hk hl with h1 | ⟨k0, l0, b0, h1, h2, h3⟩
  ·omega
  ·exact hn k0 l0 b0 h1 h2 (h3.trans e)
 img := fun k l bb hk hl => by
  rcases h'.img k l bb hk hl with h1 | ⟨k0, l0, b0, h1, h2, h3⟩
  ·exact .inl (Nat.le_trans h.size h1)
  ·rcases h.img k0 l0 b0 h1 h2 with h4 | ⟨k1, l1, b1, h4, h5, h6⟩
   ·exact .inl (h3 ▸ h4)
   ·exact .inr ⟨k1, l1, b1, h4, h5, h6.trans h3⟩
 os := h'.os.trans h.os
 tape := h'.tape.trans h.tape
 output := h'.output.trans h.output
 nx := Nat.le_trans h.nx h'.nx
 keep := fun k hk => (h'.keep k (Nat.lt_of_lt_of_le hk h.nx)).trans (h.keep k hk)
/-- the heap alone counts -/
theorem HRel.congr {ι : Io} {s : St} {w w' : World} (H : HRel ι s w) (e : w'.heap = w.heap) : HRel ι s w' :=
 ⟨fun k b hk => by rw [e]; exact H.blk k b hk, H.inj, H.fresh⟩
/-- less is known -/
theorem HRel.less {ι : Io} {s s' : St} {w : World} (H : HRel ι s w) (h : ∀ k b, s'.h.get k = some b → s.h.get k = some b) (hn : s.nx ≤ s'.nx) : HRel ι s' w :=
 ⟨fun k b hk => H.blk k b (h k b hk), fun k k' b b' l l' hk hk' => H.inj k k' b b' l l' (h k b hk) (h k' b' hk'), fun k hk => H.fresh k (Nat.le_trans hn hk)⟩
theorem Stp.less {ι : Io} {s s' : St} {w : World} (H : HRel ι s w) (h : ∀ k b, s'.h.get k = some b → s.h.get k = some b) (hn : s.nx ≤ s'.nx) : Stp ι s w ι s' w :=
 ⟨Sub.refl ι, H.less h hn, Nat.le_refl _, fun _ _ _ => rfl, fun k l bb hk hl => .inr ⟨k, l, bb, h k bb hk, hl, rfl⟩, rfl, rfl, rfl, hn, fun _ _ => rfl⟩
theorem Stp.drew {ι : Io} {s : St} {w w' : World} (H : HRel ι s w) (e : w'.heap = w.heap) (h1 : w'.os = w.os) (h2 : w'.tape = w.tape) (h3 : w'.output = w.output) : Stp ι s w ι s w' :=
 ⟨Sub.refl ι, H.congr e, by rw [e]; exact Nat.le_refl _, fun _ _ _ => by rw [e], fun k l bb hk hl => .inr ⟨k, l, bb, hk, hl, rfl⟩, h1, h2, h3, Nat.le_refl _, fun _ _ => rfl⟩
def Io.up (ι : Io) (k : Nat) (l : Loc) : Io := fun q => if q = k then some l else ι q
theorem Io.up_sub {ι : Io} {k : Nat} {l : Loc} (h : ι k = none) : Sub ι (ι.up k l) := fun q x e => by
 unfold Io.up
 by_cases hq : q = k
 ·subst hq; rw [h] at e; cases e
 ·rw [if_neg hq]; exact e
theorem Io.up_self {ι : Io} {k : Nat} {l : Loc} : ι.up k l k = some l := by simp [Io.up]
theorem St.new_get (s : St) (b : ABlk) (q : Nat) : (s.new b).h.get q = if q = s.nx then some b else s.h.get q := by
 unfold St.new; rw [T.get_set]
theorem St.new_nx (s : St) (b : ABlk) : (s.new b).nx = s.nx + 1 := rfl
theorem St.put_get (s : St) (k : Nat) (b : ABlk) (q : Nat) : (s.put k b).h.get q = if q = k then some b else s.h.get q := by
 unfold St.put; rw [T.get_set]
theorem St.put_nx (s : St) (k : Nat) (b : ABlk) : (s.put k b).nx = s.nx := rfl
/-- a block that no name had: it is new in the world, or one of those whose names are let go -/
theorem Stp.name {ι : Io} {s s0 : St} {w w' : World} {b : ABlk} {o : Obj} {l : Loc} (H : HRel ι s w) (hs0 : ∀ k b, s0.h.get k = some b → s.h.get k = some b) (hnx : s.nx = s0.nx)
  (hb : BRel (ι.up s.nx l) l b o) (ho : w'.heap[l.b]? = some o) (hsz : w.heap.size ≤ w'.heap.size)
  (hold : ∀ q, q < w.heap.size → q ≠ l.b → w'.heap[q]? = w.heap[q]?)
  (hl : w.heap.size ≤ l.b ∨ ∃ k1 l1 b1, s.h.get k1 = some b1 ∧ ι k1 = some l1 ∧ l1.b = l.b ∧ s0.h.get k1 = none)
  (h1 : w'.os = w.os) (h2 : w'.tape = w.tape) (h3 : w'.output = w.output) : Stp ι s w (ι.up s.nx l) (s0.new b) w' := by
 have hf : ι s.nx = none := H.fresh _ (Nat.le_refl _)
 have hsub : Sub ι (ι.up s.nx l) := Io.up_sub hf
 have hne : ∀ k bb lk, s0.h.get k = some bb → ι k = some lk → lk.b ≠ l.b := by
  intro k bb lk hk hlk e
  rcases hl with hl | ⟨k1, l1, b1, q1, q2, q3, q4⟩
  ·have := H.lt (hs0 k bb hk) hlk; omega
  ·have := H.inj k k1 bb b1 lk l1 (hs0 k bb hk) q1 hlk q2 (e.trans q3.symm)
   subst this; rw [q4] at hk; cases hk
 have hnot : ∀ k bb, s0.h.get k = some bb → k ≠ s.nx := by
  intro k bb hk e
  obtain ⟨lk, _, hlk, _⟩ := H.blk k bb (hs0 k bb hk)
  rw [e, hf] at hlk; cases hlk
 refine ⟨hsub, ⟨?_, ?_, ?_⟩, hsz, ?_, ?_, h1, h2, h3, by rw [St.new_nx, ← hnx]; omega, fun k hk => by simp only [Io.up, if_neg (show k ≠ s.nx by omega)]⟩
 ·intro k bb hk
  rw [St.new_get, ← hnx] at hk
  by_cases e : k = s.nx
  ·rw [if_pos e] at hk; injection hk with hk; subst hk; subst e
   exact ⟨l, o, Io.up_self, ho, hb⟩
  ·rw [if_neg e] at hk
   obtain ⟨lk, ok, q1, q2, q3⟩ := H.blk k bb (hs0 k bb hk)
   refine ⟨lk, ok, hsub _ _ q1, ?_, q3.sub hsub⟩
   rw [hold _ (H.lt (hs0 k bb hk) q1) (hne k bb lk hk q1)]; exact q2
 ·intro k k' bb bb' lk lk' hk hk' hlk hlk' e
  rw [St.new_get, ← hnx] at hk hk'
  by_cases e1 : k = s.nx
  ·by_cases e2 : k' = s.nx
   ·rw [e1, e2]
   ·exfalso
    rw [if_neg e2] at hk'
    rw [e1, Io.up_self] at hlk; injection hlk with hlk; subst hlk
    simp only [Io.up, if_neg e2] at hlk'
    exact hne k' bb' lk' hk' hlk' e.symm
  ·rw [if_neg e1] at hk
   simp only [Io.up, if_neg e1] at hlk
   by_cases e2 : k' = s.nx
   ·exfalso
    rw [e2, Io.up_self] at hlk'; injection hlk' with hlk'; subst hlk'
    exact hne k bb lk hk hlk e
   ·rw [if_neg e2] at hk'
    simp only [Io.up, if_neg e2] at hlk'
    exact H.inj k k' bb bb' lk lk' (hs0 k bb hk) (hs0 k' bb' hk') hlk hlk' e
 ·intro k hk
  rw [St.new_nx, ← hnx] at hk
  simp only [Io.up, if_neg (show k ≠ s.nx by omega)]
  exact H.fresh k (by omega)
 ·intro q hq hn
  refine hold q hq ?_
  rcases hl with hl | ⟨k1, l1, b1, q1, q2, q3, q4⟩
  ·omega
  ·exact fun e => hn k1 l1 b1 q1 q2 (q3.trans e.symm)
 ·intro k lk bb hk hlk
  rw [St.new_get, ← hnx] at hk
  by_cases e1 : k = s.nx
  ·rw [e1, Io.up_self] at hlk; injection hlk with hlk; subst hlk
   rcases hl with hl | ⟨k1, l1, b1, q1, q2, q3, q4⟩
   ·exact .inl hl
   ·exact .inr ⟨k1, l1, b1, q1, q2, q3⟩
  ·rw [if_neg e1] at hk
   simp only [Io.up, if_neg e1] at hlk
   exact .inr ⟨k, lk, bb, hs0 k bb hk, hlk, rfl⟩
/-- a new block -/
theorem Stp.new {ι : Io} {s : St} {w : World} {b : ABlk} {o : Obj} {n : Nat} (H : HRel ι s w) (hb : BRel ι ⟨w.heap.size, 0, n⟩ b o) :
  Stp ι s w (ι.up s.nx ⟨w.heap.size, 0, n⟩) (s.new b) { w with heap := w.heap.push o } :=
 Stp.name (s0 := s) H (fun _ _ h => h) rfl (hb.sub (Io.up_sub (H.fresh _ (Nat.le_refl _)))) (by simp) (by simp) (fun q hq _ => by simp [Array.getElem?_push, Nat.ne_of_lt hq]) (.inl (Nat.le_refl _)) rfl rfl rfl
/-- a block is written -/
theorem Stp.put {ι : Io} {s : St} {w w' : World} {k : Nat} {b b' : ABlk} {o' : Obj} {l : Loc} (H : HRel ι s w) (hk : s.h.get k = some b) (hl : ι k = some l)
  (hb : BRel ι l b' o') (ho : w'.heap[l.b]? = some o') (hsz : w'.heap.size = w.heap.size) (hold : ∀ q, q ≠ l.b → w'.heap[q]? = w.heap[q]?)
  (h1 : w'.os = w.os) (h2 : w'.tape = w.tape) (h3 : w'.output = w.output) : Stp ι s w ι (s.put k b') w' := by
 have hd : ∀ q bb, (s.put k b').h.get q = some bb → ∃ bb0, s.h.get q = some bb0 := by
  intro q bb hq
  rw [St.put_get] at hq
  by_cases e : q = k
  ·subst e; exact ⟨b, hk⟩
  ·rw [if_neg e] at hq; exact ⟨bb, hq⟩
 refine ⟨Sub.refl ι, ⟨?_, ?_, ?_⟩, by omega, ?_, ?_, h1, h2, h3, Nat.le_refl _, fun _ _ => rfl⟩
 ·intro q bb hq
  rw [St.put_get] at hq
  by_cases e : q = k
  ·subst e
   rw [if_pos rfl] at hq; injection hq with hq; subst hq
   exact ⟨l, o', hl, ho, hb⟩
  ·rw [if_neg e] at hq
   obtain ⟨lq, oq, q1, q2, q3⟩ := H.blk q bb hq
   refine ⟨lq, oq, q1, ?_, q3⟩
   rw [hold]; · exact q2
   intro e2
   exact e (H.inj q k bb b lq l hq hk q1 hl e2)
 ·intro q q' bb bb' lq lq' hq hq' hlq hlq' e
  obtain ⟨b0, h0⟩ := hd q bb hq
  obtain ⟨b0', h0'⟩ := hd q' bb' hq'
  exact H.inj q q' b0 b0' lq lq' h0 h0' hlq hlq' e
 ·exact H.fresh
 ·intro q _ hn
  exact hold q (fun e => hn k l b hk hl e.symm)
 ·intro q lq bb hq hlq
  obtain ⟨b0, h0⟩ := hd q bb hq
  exact .inr ⟨q, lq, b0, h0, hlq, rfl⟩
/-! the frame -/
def relD (ι : Io) : List AV → List Deferred → Prop
 | [], l => l = []
 | .func (.func f) first captured :: r, l => ∃ a b ds, l = { target := .fn (.func f) (List.toArray b), args := List.toArray a } :: ds ∧ relL ι first a ∧ relL ι captured b ∧ relD ι r ds
 | _ :: _, _ => False
structure FRel (ι : Io) (n : Nat) (fr : Fr) (a : Act) : Prop where
 slot : ∀ t v, fr.t.get t = some v → rel ι v (a.tmps.getD t undef)
 size : a.tmps.size = n
 ds : relD ι fr.ds a.defers
theorem relD.sub {ι ι' : Io} (h : Sub ι ι') : ∀ {l : List AV} {m : List Deferred}, relD ι l m → relD ι' l m
 | [], _, e => e
 | .func (.func _) _ _ :: _, _, ⟨a, b, ds, e, h1, h2, h3⟩ => ⟨a, b, ds, e, h1.sub h, h2.sub h, h3.sub h⟩
theorem FRel.sub {ι ι' : Io} (h : Sub ι ι') {n : Nat} {fr : Fr} {a : Act} (H : FRel ι n fr a) : FRel ι' n fr a :=
 ⟨fun t v ht => (H.slot t v ht).sub h, H.size, H.ds.sub h⟩
theorem FRel.put {ι : Io} {n : Nat} {fr : Fr} {a : Act} (H : FRel ι n fr a) {dst : Option Tmp} (hd : ∀ d, dst = some d → d < n) {v : AV} {x : Value} (hv : rel ι v x) :
  FRel ι n (fr.put dst v) (a.put dst x) := by
 cases dst with
 | none => exact H
 | some d =>
  have hdn := hd d rfl
  refine ⟨fun t u ht => ?_, by simp [Act.put, H.size], H.ds⟩
  simp only [Fr.put, T.get_set] at ht
  simp only [Act.put]
  by_cases e : t = d
  ·subst e
   rw [if_pos rfl] at ht; injection ht with ht; subst ht
   have hlt : t < a.tmps.size := by rw [H.size]; exact hdn
   simpa [Array.getD_eq_getD_getElem?, hlt] using hv
  ·rw [if_neg e] at ht
   have := H.slot t u ht
   have e' : d ≠ t := fun h => e h.symm
   simpa [Array.getD_eq_getD_getElem?, Array.getElem?_setIfInBounds, e'] using this
theorem aev_rel {ι : Io} {n : Nat} {fr : Fr} {a : Act} (H : FRel ι n fr a) {x : Operand} {v : AV} (h : aev fr x = .ok v) : rel ι v (a.eval x) := by
 cases x with
 | tmp t =>
  simp only [aev] at h
  cases hg : fr.t.get t with
  | none => rw [hg] at h; cases h
  | some u => rw [hg] at h; injection h with h; subst h; exact H.slot t u hg
 | const c =>
  simp only [aev, R.of] at h
  cases hg : ofV 8 c with
  | none => rw [hg] at h; cases h
  | some u => rw [hg] at h; injection h with h; subst h; exact ofV_rel ι 8 c u hg
 | global g => simp [aev] at h
 | func f => simp only [aev] at h; injection h with h; subst h; exact ⟨[], [], rfl, rfl, rfl⟩
/-- what the operands stand for -/
def ERel (ι : Io) (fr : Fr) (ρ : Operand → Value) : Prop := ∀ x v, aev fr x = .ok v → rel ι v (ρ x)
theorem FRel.ev {ι : Io} {n : Nat} {fr : Fr} {a : Act} (H : FRel ι n fr a) : ERel ι fr a.eval := fun _ _ h => aev_rel H h
theorem evs_rel {ι : Io} {fr : Fr} {ρ : Operand → Value} (H : ERel ι fr ρ) : ∀ {l : List Operand} {r : List AV}, evs fr l = .ok r → relL ι r (l.map ρ)
 | [], r, h => by simp [evs] at h; subst h; rfl
 | o :: os, r, h => by
  simp only [evs] at h
  cases ha : aev fr o with
  | err c => rw [ha] at h; cases h
  | ok u =>
   rw [ha] at h
   cases hr : evs fr os with
   | err c => rw [hr] at h; cases h
   | ok us => rw [hr] at h; injection h with h; subst h; exact ⟨_, _, rfl, H _ _ ha, evs_rel H hr⟩
theorem allG_gev {ι : Io} {fr : Fr} {ρ : Operand → Value} (H : ERel ι fr ρ) : ∀ {l : List Operand}, allG fr l = true → ∀ x ∈ l, gev fr x = ρ x
 | [], _, x, hx => by simp at hx
 | o :: os, h, x, hx => by
  simp only [allG] at h
  cases ha : aev fr o with
  | err c => rw [ha] at h; cases h
  | ok u =>
   cases hg : toG u with
   | none => simp [ha, hg] at h
   | some v =>
    simp only [ha, hg] at h
    rcases List.mem_cons.1 hx with rfl | hx
    ·simp only [gev, ha, hg]
     exact (toG_rel u v hg _ (H _ _ ha)).symm
    ·exact allG_gev H h x hx
end Go.Ev
namespace Go.Ev
def fitsO (n : Nat) (o : Oper) : Bool := match o.dst with | some d => Nat.blt d n | none => true
def fitsC (n : Nat) : Code → Bool
 | .region _ ops _ => ops.toList.all (fitsO n)
 | .seq a b => fitsC n a && fitsC n b
 | .cond _ a b => fitsC n a && fitsC n b
 | .block _ b => fitsC n b
 | .loop b => fitsC n b
 | .scope b => fitsC n b
 | _ => true
structure EnvOk (E : Env) : Prop where
 ty : ∀ t i, E.ty.get t = some i → i = tyOf E.P t
 fn : ∀ f fn, E.fn.get f = some (some fn) → E.P.funcs[f]? = some fn
 fit : ∀ f fn c, E.fn.get f = some (some fn) → fn.body = some c → fitsC fn.ntmps c = true
 named : ∀ f fn, E.fn.get f = some (some fn) → (fn.name == "runtime.NumGoroutine") = false
 mixed : E.P.follows .mixedOrders = true
section
variable {E : Env} (hE : EnvOk E)
include hE
theorem und_eq {t : TypeId} {d : TypeDesc} (h : und E t = .ok d) : E.P.underlying t = some d := by
 unfold und at h
 cases hg : E.ty.get t with
 | none => simp [hg] at h
 | some i =>
  have := hE.ty t i hg
  subst this
  simp only [hg, tyOf] at h
  cases hu : E.P.underlying t with
  | none => simp [hu] at h
  | some d' => simp only [hu] at h; injection h with h; rw [h]
theorem und_run {t : TypeId} {d : TypeDesc} (h : und E t = .ok d) (w : World) : (underlying t).run E.P w = .ok d w := by
 have := und_eq hE h
 simp [underlying, go_sem, this]
theorem tsz_eq {t : TypeId} {n : Nat} (h : tsz E t = .ok n) : ∃ i, E.P.info? t = some i ∧ i.size = n := by
 unfold tsz at h
 cases hg : E.ty.get t with
 | none => simp [hg] at h
 | some i =>
  have := hE.ty t i hg
  subst this
  simp only [hg, tyOf] at h
  cases hu : E.P.info? t with
  | none => simp [hu] at h
  | some d' => simp only [hu] at h; injection h with h; exact ⟨d', rfl, h⟩
theorem tsz_run {t : TypeId} {n : Nat} (h : tsz E t = .ok n) (w : World) : (sizeOf t).run E.P w = .ok n w := by
 obtain ⟨i, h1, h2⟩ := tsz_eq hE h
 simp [sizeOf, typeInfo, go_sem, h1, h2]
theorem zer_run {t : TypeId} {z : AV} (h : zer E t = .ok z) : ∃ v, (∀ ι, rel ι z v) ∧ ∀ w, (zeroValue t).run E.P w = .ok v w := by
 unfold zer at h
 cases hg : E.ty.get t with
 | none => simp [hg] at h
 | some i =>
  have := hE.ty t i hg
  subst this
  simp only [hg, tyOf] at h
  cases hu : E.P.info? t with
  | none => simp [hu] at h
  | some d' =>
   cases hz : d'.zero with
   | none => simp [hu, hz] at h
   | some v =>
    cases ho : ofV 8 v with
    | none => simp [hu, hz, ho] at h
    | some a =>
     simp only [hu, hz, ho] at h
     injection h with h; subst h
     exact ⟨v, fun ι => ofV_rel ι 8 v a ho, fun w => by simp [zeroValue, typeInfo, go_sem, hu, hz]⟩
theorem isAgg_run {t : TypeId} {b : Bool} (h : isAgg' E t = .ok b) (w : World) : (isAgg t).run E.P w = .ok b w := by
 unfold isAgg' at h
 cases hg : E.ty.get t with
 | none => simp [hg] at h
 | some i =>
  have := hE.ty t i hg
  subst this
  simp only [hg, tyOf] at h
  cases hu : E.P.underlying t with
  | none => simp [hu] at h
  | some d =>
   simp only [hu] at h
   injection h with h; subst h
   cases d <;> simp [isAgg, underlying, go_sem, hu]
end
theorem cells_rel {ι : Io} {a : AV} {v : Value} (h : rel ι a v) : relL ι (cellsOf a) v.cells.toList := by
 cases a with
 | agg cs => obtain ⟨l, e, hl⟩ := h; subst e; exact hl
 | g w =>
  obtain ⟨e, hw⟩ := h
  subst e
  rw [scal_cells hw]
  exact ⟨_, [], rfl, ⟨rfl, hw⟩, rfl⟩
 | ptr k o => obtain ⟨l, e, r⟩ := h; subst r; exact ⟨_, [], rfl, ⟨l, e, rfl⟩, rfl⟩
 | slice k o n x c z => obtain ⟨l, o', c', e, r, q⟩ := h; subst r; exact ⟨_, [], rfl, ⟨l, o', c', e, rfl, q⟩, rfl⟩
 | map k => obtain ⟨l, e, r⟩ := h; subst r; exact ⟨_, [], rfl, ⟨l, e, rfl⟩, rfl⟩
 | func fn x y => obtain ⟨x', y', e, r⟩ := h; subst e; exact ⟨_, [], rfl, ⟨x', y', rfl, r⟩, rfl⟩
 | iface t x => obtain ⟨y, e, r⟩ := h; subst e; exact ⟨_, [], rfl, ⟨y, rfl, r⟩, rfl⟩
 | tuple cs => obtain ⟨l, e, hl⟩ := h; subst e; exact ⟨_, [], rfl, ⟨l, rfl, hl⟩, rfl⟩
end Go.Ev
namespace Go.Ev
/-- an operation that gives a value and turns nothing -/
def VOk (E : Env) (ι : Io) (o : Oper) (ρ : Operand → Value) (v : AV) : Prop := ∃ x, rel ι v x ∧ ∀ w, (execOp ρ o).run E.P w = .ok (.value x) w
section
variable {E : Env} {ι : Io} {fr : Fr} {ρ : Operand → Value} (H : ERel ι fr ρ) {o : Oper} {v : AV}
include H
theorem v_move {x : Operand} (ho : o.op = .move x ∨ o.op = .assign x) (h : vMove x E fr o = .ok v) : VOk E ι o ρ v := by
 refine ⟨ρ x, H _ _ h, fun w => ?_⟩
 rcases ho with ho | ho <;> simp [execOp, ho, go_sem]
theorem v_pick {c x y : Operand} (ho : o.op = .pick c x y) (h : vPick c x y E fr o = .ok v) : VOk E ι o ρ v := by
 unfold vPick at h
 split at h
 ·rename_i b hc
  have hb := (H _ _ hc).1
  cases b with
  | true => exact ⟨ρ x, H _ _ h, fun w => by simp [execOp, ho, go_sem, hb, asBool]⟩
  | false => exact ⟨ρ y, H _ _ h, fun w => by simp [execOp, ho, go_sem, hb, asBool]⟩
 ·cases h
 ·cases h
theorem v_nil {x : Operand} (ho : o.op = .nilCheck x) (h : vNil x E fr o = .ok v) : VOk E ι o ρ v := by
 unfold vNil at h
 split at h
 ·rename_i k off hx
  injection h with h; subst h
  have hr := H _ _ hx
  obtain ⟨l, hl, e⟩ := hr
  exact ⟨_, ⟨l, hl, rfl⟩, fun w => by simp [execOp, ho, go_sem, e]⟩
 ·rename_i f p q hx
  injection h with h; subst h
  obtain ⟨p', q', e, h1, h2⟩ := H _ _ hx
  exact ⟨_, ⟨p', q', rfl, h1, h2⟩, fun w => by simp [execOp, ho, go_sem, e]⟩
 ·cases h
 ·cases h
theorem v_func {fn : Fn} {p q : Array Operand} (ho : o.op = .makeFunc fn p q) (h : vFunc fn p q E fr o = .ok v) : VOk E ι o ρ v := by
 unfold vFunc at h
 split at h
 ·rename_i l hl
  split at h
  ·rename_i m hm
   injection h with h; subst h
   exact ⟨_, ⟨_, _, rfl, evs_rel H hl, evs_rel H hm⟩, fun w => by
    rcases p with ⟨p⟩
    rcases q with ⟨q⟩
    simp [execOp, ho, go_sem, Instr.makeFunc]⟩
  ·cases h
 ·cases h
theorem v_extract {t : Operand} {ix : Nat} (ho : o.op = .extract t ix) (h : vExtract t ix E fr o = .ok v) : VOk E ι o ρ v := by
 unfold vExtract at h
 split at h
 ·rename_i vs hx
  obtain ⟨l, e, hl⟩ := H _ _ hx
  rw [getAt_eq] at h
  cases hg : vs[ix]? with
  | none => rw [hg] at h; cases h
  | some u =>
   rw [hg] at h; injection h with h; subst h
   obtain ⟨y, h1, h2⟩ := hl.get ix u hg
   exact ⟨y, h2, fun w => by simp [execOp, ho, go_sem, Instr.extract, e, h1]⟩
 ·cases h
 ·cases h
theorem v_ground (hg : ∀ ρ' : Operand → Value, (∀ x ∈ o.op.operands.toList, ρ' x = ρ x) → execOp ρ' o = execOp ρ o) (h : agr E fr o = .ok v) : VOk E ι o ρ v := by
 unfold agr at h
 cases hb : allG fr o.op.operands.toList with
 | false => rw [hb] at h; cases h
 | true =>
  rw [hb] at h
  simp only [cond_true, aground] at h
  cases hp : pureRun E.P (execOp (gev fr) o) with
  | err c => rw [hp] at h; cases h
  | ok x =>
   rw [hp] at h
   cases x with
   | value x =>
    simp only at h
    cases hv : ofV 8 x with
    | none => rw [hv] at h; cases h
    | some u =>
     rw [hv] at h; injection h with h; subst h
     refine ⟨x, ofV_rel ι 8 x u hv, fun w => ?_⟩
     rw [← hg (gev fr) (allG_gev H hb)]
     exact pureRun_ok _ _ _ hp w
   | _ => cases h
theorem v_un {op : UnOp} {t : TypeId} {x : Operand} (ho : o.op = .unOp op t x) (h : agr E fr o = .ok v) : VOk E ι o ρ v :=
 v_ground H (fun ρ' hρ => by
  have := hρ x (by simp [ho, Op.operands])
  simp [execOp, ho, this]) h
theorem v_convert {s t : TypeId} {x : Operand} (ho : o.op = .convert s t x) (h : agr E fr o = .ok v) : VOk E ι o ρ v :=
 v_ground H (fun ρ' hρ => by
  have := hρ x (by simp [ho, Op.operands])
  simp [execOp, ho, this]) h
theorem g_bin {op : BinOp} {t t' : TypeId} {x y : Operand} (ho : o.op = .binOp op t x y t') (h : agr E fr o = .ok v) : VOk E ι o ρ v :=
 v_ground H (fun ρ' hρ => by
  have h1 := hρ x (by simp [ho, Op.operands])
  have h2 := hρ y (by simp [ho, Op.operands])
  simp [execOp, ho, h1, h2]) h
end
theorem beq_eq (m n : Nat) : Nat.beq m n = decide (m = n) := by
 rcases h : Nat.beq m n with _ | _
 ·have : m ≠ n := fun e => by subst e; simp at h
  simp [this]
 ·have := Nat.eq_of_beq_eq_true h
  simp [this]
theorem ble_eq (m n : Nat) : Nat.ble m n = decide (m ≤ n) := by
 rcases h : Nat.ble m n with _ | _
 ·have : ¬ m ≤ n := fun e => by rw [Nat.ble_eq_true_of_le e] at h; cases h
  simp [this]
 ·simp [Nat.le_of_ble_eq_true h]
theorem blt_eq (m n : Nat) : Nat.blt m n = decide (m < n) := ble_eq (m + 1) n
theorem ltI_eq (a b : Int) : ltI a b = decide (a < b) := by
 cases a <;> cases b <;> simp only [ltI, blt_eq] <;> simp <;> omega
theorem eqI_eq (a b : Int) : eqI a b = (a == b) := by
 cases a <;> cases b <;> simp only [eqI, beq_eq] <;> simp [Bool.beq_eq_decide_eq] <;> omega

theorem wrap_i64 (n : Int) (h : fitsI .i64 n = true) : IntKind.i64.wrap n = n := by
 have hn : -9223372036854775808 ≤ n ∧ n ≤ 9223372036854775807 := by
  cases n with
  | ofNat m =>
   simp only [fitsI, ble_eq] at h
   have : m ≤ 9223372036854775807 := of_decide_eq_true h
   constructor <;> (simp only [Int.ofNat_eq_natCast]; omega)
  | negSucc m =>
   simp only [fitsI, ble_eq] at h
   have : m ≤ 9223372036854775807 := of_decide_eq_true h
   constructor <;> omega
 have e : ((2 : Int) ^ 64) = 18446744073709551616 := by decide
 have e' : ((2 : Int) ^ 63) = 9223372036854775808 := by decide
 simp only [IntKind.wrap, IntKind.bits, IntKind.signed, Bool.true_and, e, e', decide_eq_true_eq]
 split <;> omega
theorem wrap_u64 (n : Int) (h : fitsI .u64 n = true) : IntKind.u64.wrap n = n := by
 cases n with
 | ofNat m =>
  simp only [fitsI, ble_eq] at h
  have : m ≤ 18446744073709551615 := of_decide_eq_true h
  have e : ((2 : Int) ^ 64) = 18446744073709551616 := by decide
  simp only [IntKind.wrap, IntKind.bits, IntKind.signed, Bool.false_and, Bool.false_eq_true, if_false, e]
  show (m : Int) % _ = (m : Int)
  omega
 | negSucc m => simp [fitsI] at h
theorem wrap_fits {k : IntKind} {n : Int} (h : fitsI k n = true) : k.wrap n = n := by
 cases k with
 | i64 => exact wrap_i64 n h
 | u64 => exact wrap_u64 n h
 | _ => simp [fitsI] at h
theorem sameK_eq {k k' : IntKind} (h : sameK k k' = true) : k = k' := by
 cases k <;> cases k' <;> simp [sameK] at h <;> rfl
section
variable {E : Env} {ι : Io} {fr : Fr} {ρ : Operand → Value} (H : ERel ι fr ρ) {o : Oper} {v : AV}
include H
theorem fast_run {op : BinOp} {t t' : TypeId} {x y : Operand} {k : IntKind} {m l : Int} {r : AV} (ho : o.op = .binOp op t x y t') (hx : ρ x = .int k m) (hy : ρ y = .int k l) (h : fastI op k m l = some r) : VOk E ι o ρ r := by
 have hb : ∀ z : Value, (∀ w, (binOp op t (.int k m) (.int k l)).run E.P w = .ok z w) → ∀ w, (execOp ρ o).run E.P w = .ok (.value z) w := by
  intro z hz w
  have hq : (eqGuard op t x y (.int k m) (.int k l)).run E.P w = .ok () w := by
   unfold eqGuard
   split <;> simp [go_sem]
  simp only [execOp, ho, hx, hy]
  simp [go_sem, hq, hz w]
 unfold fastI at h
 cases op
 all_goals first
  | (cases h; done)
  | skip
 ·cases hf : fitsI k (Int.add m l) with
  | false => rw [hf] at h; cases h
  | true =>
   rw [hf] at h; injection h with h; subst h
   refine ⟨_, ⟨rfl, rfl⟩, hb _ fun w => ?_⟩
   have e := wrap_fits hf
   have e' : k.wrap (m + l) = Int.add m l := e
   simp [binOp, Op.intArith, go_sem, e']
 ·cases hf : fitsI k (Int.sub m l) with
  | false => rw [hf] at h; cases h
  | true =>
   rw [hf] at h; injection h with h; subst h
   refine ⟨_, ⟨rfl, rfl⟩, hb _ fun w => ?_⟩
   have e := wrap_fits hf
   have e' : k.wrap (m - l) = Int.sub m l := e
   simp [binOp, Op.intArith, go_sem, e']
 all_goals
  injection h with h; subst h
  refine ⟨_, ⟨rfl, rfl⟩, hb _ fun w => ?_⟩
  simp only [ltI_eq, eqI_eq]
  simp [binOp, Op.intCmp, go_sem]
 ·rfl
 ·by_cases hlt : l < m
  ·simp [hlt]
  ·simp [hlt]; omega
 ·by_cases hlt : m < l
  ·simp [hlt]
  ·simp [hlt]; omega
theorem eqn_run {op : BinOp} {t t' : TypeId} {x y : Operand} {p q : AV} {b r : Bool} (ho : o.op = .binOp op t x y t') (hp : aev fr x = .ok p) (hq : aev fr y = .ok q) (hop : isEq op = some b)
  (heq : ∀ w, (binOp .eql t (ρ x) (ρ y)).run E.P w = .ok (.bool r) w) (hneq : ∀ w, (binOp .neq t (ρ x) (ρ y)).run E.P w = .ok (.bool (!r)) w)
  (hg : ∀ w op, (eqGuard op t x y (ρ x) (ρ y)).run E.P w = .ok () w) : VOk E ι o ρ (.g (.bool (cond b r (not r)))) := by
 cases op <;> simp [isEq] at hop <;> subst hop
 ·refine ⟨_, ⟨rfl, rfl⟩, fun w => ?_⟩
  simp only [execOp, ho]
  simp [go_sem, hg, heq]
 ·refine ⟨_, ⟨rfl, rfl⟩, fun w => ?_⟩
  simp only [execOp, ho]
  simp [go_sem, hg, hneq]
end
end Go.Ev
namespace Go.Ev
theorem R.bind_ok {α β : Type} {x : R α} {f : α → R β} {b : β} : (x >>= f) = .ok b ↔ ∃ a, x = .ok a ∧ f a = .ok b := by
 cases x with
 | ok a => show f a = .ok b ↔ _; simp
 | err c => show (R.err c : R β) = .ok b ↔ _; simp
theorem R.pure_ok {α : Type} {a b : α} : (pure a : R α) = .ok b ↔ a = b := by
 show R.ok a = R.ok b ↔ _; simp
theorem R.cond_ok {α : Type} {c : Bool} {x : R α} {e : Nat} {b : α} : cond c x (.err e) = .ok b ↔ c = true ∧ x = .ok b := by
 cases c <;> simp
theorem add_none (b s n : Nat) : (⟨b, s, none⟩ : Addr).add n = ⟨b, s + n, none⟩ := by
 unfold Addr.add
 by_cases h : n = 0
 ·subst h; simp
 ·simp [h]
section
variable {E : Env} (hE : EnvOk E) {ι : Io} {fr : Fr} {ρ : Operand → Value} (H : ERel ι fr ρ) {o : Oper} {v : AV}
include hE H
theorem v_fieldAddr {t : TypeId} {x : Operand} {f : Nat} (ho : o.op = .fieldAddr t x f) (h : vFieldAddr t x f E fr o = .ok v) : VOk E ι o ρ v := by
 unfold vFieldAddr ael at h
 split at h
 ·rename_i p hp
  have hr := H _ _ hp
  simp only [afieldAddr, R.bind_ok] at h
  obtain ⟨d, hd, h⟩ := h
  split at h
  ·rename_i fields k off
   split at h
   ·rename_i f' hf
    simp only [R.bind_ok] at h
    obtain ⟨n, hn, h⟩ := h
    have hn0 : n ≠ 0 := by
     intro e; subst e; cases h
    have h : v = .ptr k (off + f'.offset) := by
     have : Nat.beq n 0 = false := by rw [beq_eq]; simp [hn0]
     rw [this] at h
     simp only [cond_false, R.pure_ok] at h
     exact h.symm
    subst h
    obtain ⟨l, hl, e⟩ := hr
    refine ⟨_, ⟨l, hl, rfl⟩, fun w => ?_⟩
    simp only [execOp, ho, e]
    simp [go_sem, Instr.fieldAt, und_run hE hd, hf, Instr.sureAddr, fieldPlace, tsz_run hE hn, hn0, add_none, Nat.add_assoc]
   ·cases h
  ·cases h
 ·cases h
end
theorem relL.sub' {ι : Io} {cs : List AV} {l : List Value} (h : relL ι cs l) {off n : Nat} {r : List AV} (hs : subAt cs off n = .ok r) (hle : off + n ≤ l.length ∨ n = 0) :
  relL ι r ((l.drop off).take n) := by
 obtain ⟨h1, h2⟩ := subAt_get cs off n r hs
 refine relL.of ?_ fun i x hi => ?_
 ·rw [h1, List.length_take, List.length_drop]; omega
 ·have hin : i < n := by
   have := (List.getElem?_eq_some_iff.1 hi).1; omega
  rw [h2 i hin] at hi
  obtain ⟨y, e, hy⟩ := h.get (off + i) x hi
  refine ⟨y, ?_, hy⟩
  rw [List.getElem?_take, if_pos hin, List.getElem?_drop]; exact e
section
variable {E : Env} (hE : EnvOk E) {ι : Io}
include hE
/-- a part of a row of cells, by what lies at each place -/
theorem partA_run {t : TypeId} {cs : List AV} {off : Nat} {v : AV} (h : partA E t cs off = .ok v) {l : List Value} (hl : relL ι cs l) :
  ∃ x, rel ι v x ∧ ∀ w, (part t l.toArray off).run E.P w = .ok x w := by
 unfold partA at h
 split at h
 ·rename_i hag
  split at h
  ·rename_i n hn
   cases hs : subAt cs off n with
   | err c => rw [hs] at h; cases h
   | ok r =>
    rw [hs] at h
    injection h with h; subst h
    have hle : off + n ≤ l.length ∨ n = 0 := by
     rw [hl.length]
     rcases subAt_spec cs off n r hs with ⟨_, h2⟩ | ⟨h2, _⟩
     ·exact .inl h2
     ·exact .inr h2
    refine ⟨.agg ((l.drop off).take n).toArray, ⟨_, rfl, hl.sub' hs hle⟩, fun w => ?_⟩
    have e : l.toArray.extract off (off + n) = ((l.drop off).take n).toArray := by
     apply Array.ext'
     simp [Array.toList_extract, List.extract_eq_drop_take]
    simp [part, go_sem, isAgg_run hE hag, tsz_run hE hn, e]
  ·cases h
 ·rename_i hag
  rw [getAt_eq] at h
  cases hg : cs[off]? with
  | none => rw [hg] at h; cases h
  | some u =>
   rw [hg] at h
   injection h with h; subst h
   obtain ⟨y, e, hy⟩ := hl.get off u hg
   exact ⟨y, hy, fun w => by simp [part, go_sem, isAgg_run hE hag, e]⟩
 ·cases h
end
section
variable {E : Env} (hE : EnvOk E) {ι : Io} {fr : Fr} {ρ : Operand → Value} (H : ERel ι fr ρ) {o : Oper} {v : AV}
include hE H
theorem v_field {t : TypeId} {x : Operand} {f : Nat} (ho : o.op = .field t x f) (h : vField t x f E fr o = .ok v) : VOk E ι o ρ v := by
 unfold vField ael at h
 split at h
 ·rename_i p hp
  have hr := H _ _ hp
  unfold afield at h
  split at h
  ·rename_i fields hd
   split at h
   ·rename_i cs
    obtain ⟨l, e, hl⟩ := hr
    split at h
    ·rename_i f' hf
     obtain ⟨z, hz, hrun⟩ := partA_run hE h hl
     refine ⟨z, hz, fun w => ?_⟩
     simp only [execOp, ho, e]
     have hrun' := hrun w
     simp [go_sem] at hrun'
     simp [go_sem, Instr.field, und_run hE hd, hf, asAgg, hrun']
    ·cases h
   ·cases h
  ·cases h
  ·cases h
 ·cases h
theorem asI_rel {a : AV} {m : Nat} (h : asI a = .ok m) {x : Value} (hx : rel ι a x) : ∃ k, x = .int k (m : Int) := by
 unfold asI at h
 split at h
 ·rename_i k m'
  injection h with h; subst h
  exact ⟨k, hx.1⟩
 ·cases h
theorem v_indexAddr {t : TypeId} {x i : Operand} (ho : o.op = .indexAddr t x i) (h : vIndexAddr t x i E fr o = .ok v) : VOk E ι o ρ v := by
 unfold vIndexAddr ael at h
 split at h
 ·rename_i p hp
  split at h
  ·rename_i q hq
   have hr := H _ _ hp
   simp only [aindexAddr, R.bind_ok] at h
   obtain ⟨m, hm, d, hd, h⟩ := h
   obtain ⟨k, hk⟩ := asI_rel hE H hm (H _ _ hq)
   split at h
   ·rename_i len elem kk off
    simp only [R.bind_ok] at h
    obtain ⟨sz, hsz, h⟩ := h
    cases hb : Nat.blt m len with
    | false => rw [hb] at h; cases h
    | true =>
     rw [hb] at h
     simp only [cond_true, R.pure_ok] at h
     subst h
     have hlt : m < len := by rw [blt_eq] at hb; exact of_decide_eq_true hb
     obtain ⟨l, hl, e⟩ := hr
     refine ⟨_, ⟨l, hl, rfl⟩, fun w => ?_⟩
     simp only [execOp, ho, e, hk]
     simp [go_sem, Instr.indexAt, asIntOf, und_run hE hd, Instr.sureAddr, hlt, tsz_run hE hsz, add_none, Nat.add_assoc]
   ·rename_i elem kk off len ex c esz
    simp only [R.bind_ok] at h
    obtain ⟨sz, hsz, h⟩ := h
    cases hb : (Nat.blt m len && Nat.beq sz esz) with
    | false => rw [hb] at h; cases h
    | true =>
     rw [hb] at h
     simp only [cond_true, R.pure_ok] at h
     subst h
     rw [Bool.and_eq_true, blt_eq, beq_eq] at hb
     have hlt : m < len := of_decide_eq_true hb.1
     obtain ⟨l, o', cap, hl, e, h1, h2, h3, h4, h5, h6⟩ := hr
     have ho' := h1 (by omega)
     subst ho'
     refine ⟨_, ⟨l, hl, rfl⟩, fun w => ?_⟩
     simp only [execOp, ho, e, hk]
     simp [go_sem, Instr.indexAt, asIntOf, und_run hE hd, hlt, tsz_run hE hsz, add_none, Nat.add_assoc]
   ·cases h
  ·cases h
 ·cases h
theorem v_iface {t : TypeId} {x : Operand} (ho : o.op = .makeInterface t x) (h : vIface t x E fr o = .ok v) : VOk E ι o ρ v := by
 unfold vIface ael at h
 split at h
 ·cases h
 ·rename_i d hd hne
  split at h
  ·rename_i p hp
   injection h with h; subst h
   refine ⟨_, ⟨_, rfl, H _ _ hp⟩, fun w => ?_⟩
   simp only [execOp, ho]
   simp only [Instr.makeInterface]
   cases d <;> first | (exact absurd rfl (hd _)) | (simp [go_sem, und_run hE hne])
  ·cases h
 ·cases h
end
end Go.Ev
namespace Go.Ev
def ORel (ι : Io) : Option AV → Option Value → Prop
 | none, x => x = none
 | some a, x => ∃ v, x = some v ∧ rel ι a v
theorem evO_rel {ι : Io} {fr : Fr} {ρ : Operand → Value} (H : ERel ι fr ρ) {x : Option Operand} {r : Option AV} (h : evO fr x = .ok r) : ORel ι r (x.map ρ) := by
 cases x with
 | none => simp [evO] at h; subst h; rfl
 | some o =>
  simp only [evO] at h
  cases ha : aev fr o with
  | err c => rw [ha] at h; cases h
  | ok u => rw [ha] at h; injection h with h; subst h; exact ⟨_, rfl, H _ _ ha⟩
/-- a bound -/
def OI : Option Nat → Option Value → Prop
 | none, x => x = none
 | some n, x => ∃ k, x = some (.int k (n : Int))
theorem optI_rel {ι : Io} {a : Option AV} {x : Option Value} (hr : ORel ι a x) {m : Option Nat} (h : optI a = .ok m) : OI m x := by
 cases a with
 | none => simp [optI] at h; subst h; exact hr
 | some b =>
  simp only [optI] at h
  cases hb : asI b with
  | err c => rw [hb] at h; cases h
  | ok n =>
   rw [hb] at h; injection h with h; subst h
   obtain ⟨v, e, hv⟩ := hr
   unfold asI at hb
   split at hb
   ·rename_i k m'
    injection hb with hb; subst hb
    exact ⟨k, by rw [e]; exact congrArg some hv.1⟩
   ·cases hb
theorem bounds_run {P : Program} {isS : Bool} {len cap : Nat} {lo hi mx : Option Nat} {low high max : Option Value} (hl : OI lo low) (hh : OI hi high) (hm : OI mx max)
  (hx : (mx.isSome && hi.isNone) = false) (h1 : mx.getD cap ≤ cap) (h2 : hi.getD len ≤ mx.getD cap) (h3 : lo.getD 0 ≤ hi.getD len) (w : World) :
  (Instr.sliceBounds isS len cap low high max).run P w = .ok (lo.getD 0, hi.getD len, mx.getD cap) w := by
 cases mx with
 | none =>
  have hm : max = none := hm
  subst hm
  cases hi with
  | none =>
   have hh : high = none := hh
   subst hh
   cases lo with
   | none =>
    have hl : low = none := hl
    subst hl
    simp [Instr.sliceBounds, go_sem]
   | some l =>
    obtain ⟨k, rfl⟩ := hl
    simp at h3
    simp [Instr.sliceBounds, Instr.sliceBound, asIntOf, go_sem, h3]
  | some h =>
   obtain ⟨k, rfl⟩ := hh
   simp at h2
   cases lo with
   | none =>
    have hl : low = none := hl
    subst hl
    simp [Instr.sliceBounds, Instr.sliceBound, asIntOf, go_sem, h2]
   | some l =>
    obtain ⟨k, rfl⟩ := hl
    simp at h3
    simp [Instr.sliceBounds, Instr.sliceBound, asIntOf, go_sem, h2, h3]
 | some m =>
  obtain ⟨k, rfl⟩ := hm
  simp at h1
  cases hi with
  | none => simp at hx
  | some h =>
   obtain ⟨k, rfl⟩ := hh
   simp at h2
   cases lo with
   | none =>
    have hl : low = none := hl
    subst hl
    simp [Instr.sliceBounds, Instr.sliceBound, asIntOf, go_sem, h1, h2]
   | some l =>
    obtain ⟨k, rfl⟩ := hl
    simp at h3
    simp [Instr.sliceBounds, Instr.sliceBound, asIntOf, go_sem, h1, h2, h3]
theorem cut_ok {k off esz h l m c : Nat} {ex : Bool} {v : AV} (hc : cut k off esz h l m c ex = .ok v) :
  m ≤ c ∧ h ≤ m ∧ l ≤ h ∧ v = .slice k (if m = l then off else off + l * esz) (h - l) ex (m - l) esz := by
 unfold cut at hc
 cases hb : (Nat.ble m c && (Nat.ble h m && Nat.ble l h)) with
 | false => rw [hb] at hc; cases hc
 | true =>
  rw [hb] at hc
  simp only [cond_true] at hc
  injection hc with hc
  rw [Bool.and_eq_true, Bool.and_eq_true, ble_eq, ble_eq, ble_eq] at hb
  refine ⟨of_decide_eq_true hb.1, of_decide_eq_true hb.2.1, of_decide_eq_true hb.2.2, ?_⟩
  rw [← hc, beq_eq]
  by_cases e : m = l <;> simp [e]
/-- what is cut of a row whose room is known to reach m -/
theorem cut_rel {ι : Io} {k : Nat} {lc : Loc} (hl : ι k = some lc) {o off esz h l m cap : Nat} {ex : Bool} (ho : 0 < m → o = lc.s + off) (hml : h ≤ m) (hlh : l ≤ h) (hcap : m ≤ cap) (hex : ex = true → cap = m)
  (hn : o + cap * esz ≤ lc.n) (hi : cap ≤ 9223372036854775807) :
  rel ι (.slice k (if m = l then off else off + l * esz) (h - l) ex (m - l) esz) (.slice (some (if cap = l then ⟨lc.b, o, none⟩ else (⟨lc.b, o, none⟩ : Addr).add (l * esz))) (h - l) (cap - l)) := by
 by_cases e : cap = l
 ·have : m = l := by omega
  rw [if_pos e, if_pos this]
  refine ⟨lc, o, cap - l, hl, rfl, fun hp => by omega, fun _ => by omega, by omega, by omega, ?_, by omega⟩
  have : (cap - l) * esz ≤ cap * esz := Nat.mul_le_mul_right _ (Nat.sub_le _ _)
  omega
 ·rw [if_neg e, add_none]
  refine ⟨lc, o + l * esz, cap - l, hl, rfl, fun hp => ?_, fun he => by have := hex he; omega, by omega, by omega, ?_, by omega⟩
  ·have : m ≠ l := by omega
   rw [if_neg this]
   have := ho (by omega)
   omega
  ·have : l * esz + (cap - l) * esz = cap * esz := by rw [← Nat.add_mul]; congr 1; omega
   omega
section
variable {E : Env} (hE : EnvOk E) {ι : Io} {fr : Fr} {ρ : Operand → Value} (H : ERel ι fr ρ) {o : Oper} {v : AV}
include hE
theorem slice_run {t : TypeId} {x : Value} {a : AV} {lo hi mx : Option Nat} {low high max : Option Value} (hx : rel ι a x) (hl : OI lo low) (hh : OI hi high) (hm : OI mx max)
  (hb : (mx.isSome && hi.isNone) = false)
  (h : aslice2 E t a lo hi mx = .ok v) : ∃ y, rel ι v y ∧ ∀ w, (Instr.sliceAt t x low high max).run E.P w = .ok y w := by
 unfold aslice2 at h
 split at h
 ·rename_i elem hd
  split at h
  ·rename_i k off len ex c esz
   split at h
   ·rename_i size hsz
    rw [R.cond_ok] at h
    obtain ⟨he, h⟩ := h
    rw [beq_eq] at he
    have he := of_decide_eq_true he
    subst he
    obtain ⟨h1, h2, h3, h4⟩ := cut_ok h
    subst h4
    obtain ⟨lc, o', cap, hlc, e, q1, q2, q3, q4, q5, q6⟩ := hx
    subst e
    have hrun := fun w => bounds_run (P := E.P) (isS := true) (len := len) (cap := cap) hl hh hm hb (by cases mx <;> simp at h1 ⊢; omega) (by cases mx <;> simp at h2 ⊢ <;> omega) h3 w
    have hmx : mx.getD cap = mx.getD cap := rfl
    cases mx with
    | none =>
     simp only [Option.getD_none, Option.isSome_none, Bool.false_or] at *
     refine ⟨_, cut_rel hlc q1 h2 h3 q3 q2 q5 q6, fun w => ?_⟩
     simp [Instr.sliceAt, Instr.slice, go_sem, und_run hE hd, hrun, tsz_run hE hsz]
     split <;> rfl
    | some m =>
     simp only [Option.getD_some, Option.isSome_some, Bool.true_or] at *
     have hmc : m * size ≤ cap * size := Nat.mul_le_mul_right _ (by omega)
     refine ⟨_, cut_rel (cap := m) hlc (fun hp => q1 (by omega)) h2 h3 (Nat.le_refl _) (fun _ => rfl) (by omega) (by omega), fun w => ?_⟩
     simp [Instr.sliceAt, Instr.slice, go_sem, und_run hE hd, hrun, tsz_run hE hsz]
     split <;> rfl
   ·cases h
  ·split at h
   ·rename_i size hsz
    rw [R.cond_ok] at h
    obtain ⟨hz, h⟩ := h
    injection h with h; subst h
    obtain ⟨e, _⟩ := hx
    subst e
    rw [Bool.and_eq_true, Bool.and_eq_true, beq_eq, beq_eq, beq_eq] at hz
    have z1 := of_decide_eq_true hz.1
    have z2 := of_decide_eq_true hz.2.1
    have z3 := of_decide_eq_true hz.2.2
    have hrun := fun w => bounds_run (P := E.P) (isS := true) (len := 0) (cap := 0) hl hh hm hb (by omega) (by omega) (by omega) w
    refine ⟨_, ⟨rfl, rfl⟩, fun w => ?_⟩
    simp [Instr.sliceAt, Instr.slice, go_sem, und_run hE hd, hrun, tsz_run hE hsz, z1, z2, z3]
   ·cases h
  ·cases h
 ·cases h
 ·cases h
theorem cutA_run {s : St} {w0 : World} (HR : HRel ι s w0) {k off n size : Nat} {lo hi mx : Option Nat} {low high max : Option Value} (hl : OI lo low) (hh : OI hi high) (hm : OI mx max)
  (hb : (mx.isSome && hi.isNone) = false) {lc : Loc} (hlc : ι k = some lc) (h : cutA s k off n size lo hi mx = .ok v) :
  ∃ y, rel ι v y ∧ (∀ w, (Instr.sliceBounds false n n low high max).run E.P w = .ok (lo.getD 0, hi.getD n, mx.getD n) w) ∧
   y = .slice (some (if mx.getD n = lo.getD 0 then ⟨lc.b, lc.s + off, none⟩ else (⟨lc.b, lc.s + off, none⟩ : Addr).add (lo.getD 0 * size))) (hi.getD n - lo.getD 0) (mx.getD n - lo.getD 0) := by
 unfold cutA at h
 split at h
 ·rename_i cs hcs
  rw [R.cond_ok, Bool.and_eq_true, Bool.and_eq_true, ble_eq, ble_eq, blt_eq] at h
  obtain ⟨⟨g1, g2, g3⟩, h⟩ := h
  have g3 := of_decide_eq_true g3
  have g1 := of_decide_eq_true g1
  have g2 := of_decide_eq_true g2
  obtain ⟨h1, h2, h3, h4⟩ := cut_ok h
  subst h4
  have hN : lc.s + off + n * size ≤ lc.n ∨ n * size = 0 := by
   rcases Nat.eq_zero_or_pos (n * size) with e | e
   ·exact .inr e
   ·left
    unfold acellsR at hcs
    have key : ∀ (c : Array Value), c.size = lc.n → relC ι lc.s cs c → lc.s + off + n * size ≤ lc.n := by
     intro c hc hr
     have hlt : off + n * size - 1 < cs.length := by omega
     obtain ⟨v', hv', _⟩ := hr (off + n * size - 1) _ (List.getElem?_eq_getElem hlt)
     have := (Array.getElem?_eq_some_iff.1 hv').1
     omega
    split at hcs
    ·rename_i cs' hk
     injection hcs with hcs; subst hcs
     obtain ⟨l', o', q1, q2, c, t, q3, q4, q5⟩ := HR.blk k _ hk
     rw [hlc] at q1; injection q1 with q1; subst q1
     exact key c q4 q5.1
    ·rename_i cs' hk
     injection hcs with hcs; subst hcs
     obtain ⟨l', o', q1, q2, c, t, f, q3, q4, q5⟩ := HR.blk k _ hk
     rw [hlc] at q1; injection q1 with q1; subst q1
     exact key c q4 q5
    ·cases hcs
    ·cases hcs
  have hN' : lc.s + off + n * size ≤ lc.n := by
   rcases hN with hN | hN
   ·exact hN
   ·omega
  have hmc : mx.getD n * size ≤ n * size := Nat.mul_le_mul_right _ h1
  exact ⟨_, cut_rel (cap := mx.getD n) (o := lc.s + off) hlc (fun _ => rfl) h2 h3 (Nat.le_refl _) (fun _ => rfl) (by omega) (by omega), fun w => bounds_run hl hh hm hb h1 h2 h3 w, rfl⟩
 ·cases h
end
end Go.Ev
namespace Go.Ev
section
variable {E : Env} (hE : EnvOk E) {ι : Io} {fr : Fr} {ρ : Operand → Value} (H : ERel ι fr ρ) {o : Oper} {v : AV}
include hE H
theorem evO3_ok {lo hi mx : Option Operand} {f : Option Nat → Option Nat → Option Nat → R AV} (h : evO3 fr lo hi mx f = .ok v) :
  ∃ l h' m, OI l (lo.map ρ) ∧ OI h' (hi.map ρ) ∧ OI m (mx.map ρ) ∧ (m.isSome && h'.isNone) = false ∧ f l h' m = .ok v := by
 unfold evO3 at h
 split at h
 ·rename_i l hl
  split at h
  ·rename_i h' hh
   split at h
   ·rename_i m hm
    unfold aslice at h
    split at h
    ·rename_i l' hl'
     split at h
     ·rename_i h'' hh'
      split at h
      ·rename_i m' hm'
       cases hb : (m'.isSome && h''.isNone) with
       | true => rw [hb] at h; cases h
       | false =>
        rw [hb] at h
        exact ⟨l', h'', m', optI_rel (evO_rel H hl) hl', optI_rel (evO_rel H hh) hh', optI_rel (evO_rel H hm) hm', hb, h⟩
      ·cases h
     ·cases h
    ·cases h
   ·cases h
  ·cases h
 ·cases h
theorem v_slice {t : TypeId} {x : Operand} {lo hi mx : Option Operand} (ho : o.op = .slice t x lo hi mx) (h : vSlice t x lo hi mx E fr o = .ok v) : VOk E ι o ρ v := by
 unfold vSlice at h
 split at h
 ·refine v_ground H (fun ρ' hρ => ?_) h
  have e0 := hρ x (by simp [ho, Op.operands])
  have e1 : lo.map ρ' = lo.map ρ := by
   cases lo with
   | none => rfl
   | some l => simpa using hρ l (by simp [ho, Op.operands])
  have e2 : hi.map ρ' = hi.map ρ := by
   cases hi with
   | none => rfl
   | some l => simpa using hρ l (by simp [ho, Op.operands])
  have e3 : mx.map ρ' = mx.map ρ := by
   cases mx with
   | none => rfl
   | some l => simpa using hρ l (by simp [ho, Op.operands])
  simp only [execOp, ho, e0, e1, e2, e3]
 ·rename_i a ha hne
  obtain ⟨l, h', m, q1, q2, q3, q4, q5⟩ := evO3_ok hE H h
  obtain ⟨y, hy, hrun⟩ := slice_run hE (H _ _ hne) q1 q2 q3 q4 q5
  refine ⟨y, hy, fun w => ?_⟩
  simp only [execOp, ho]
  simp only [Sem.run_bind, hrun w, Result.andThen_ok]
  rfl
 ·cases h
theorem v_index {t : TypeId} {x i : Operand} (ho : o.op = .index t x i) (h : vIndex t x i E fr o = .ok v) : VOk E ι o ρ v := by
 unfold vIndex ael at h
 split at h
 ·rename_i cs hx
  split at h
  ·rename_i q hq
   unfold aindex at h
   split at h
   ·rename_i m hm
    obtain ⟨k, hk⟩ := asI_rel hE H hm (H _ _ hq)
    split at h
    ·rename_i len elem hd
     split at h
     ·rename_i size hsz
      rw [R.cond_ok, blt_eq] at h
      obtain ⟨g1, h⟩ := h
      have g1 := of_decide_eq_true g1
      obtain ⟨l, e, hl⟩ := H _ _ hx
      obtain ⟨z, hz, hrun⟩ := partA_run hE h hl
      refine ⟨z, hz, fun w => ?_⟩
      have hrun' := hrun w
      simp only [execOp, ho, e, hk]
      have hi : (0 : Int) ≤ (m : Int) ∧ (m : Int) < (len : Int) := ⟨by omega, by omega⟩
      simp only [Sem.run_bind, Instr.index, asIntOf, Sem.run_pure, Result.andThen_ok, und_run hE hd, hi, and_self, if_true, tsz_run hE hsz, Int.toNat_natCast, hrun']
     ·cases h
    ·cases h
    ·cases h
   ·cases h
  ·cases h
 ·refine v_ground H (fun ρ' hρ => ?_) h
  have e0 := hρ x (by simp [ho, Op.operands])
  have e1 := hρ i (by simp [ho, Op.operands])
  simp only [execOp, ho, e0, e1]
 ·cases h
theorem v_builtin {b : Builtin} {args : Array Operand} {ts : Array TypeId} (ho : o.op = .call { callee := .builtin b, args, argTypes := ts }) (h : agr E fr o = .ok v) : VOk E ι o ρ v := by
 refine v_ground H (fun ρ' hρ => ?_) h
 have e : args.map ρ' = args.map ρ := by
  apply Array.map_congr_left
  intro x hx
  exact hρ x (by simp [ho, Op.operands, Call.operands]; exact Array.mem_toList_iff.1 (Array.mem_toList_iff.2 hx))
 simp only [execOp, ho, resolve, e]
theorem undA_ok {ts : Array TypeId} (h : isSl (undA E ts) = true) : ∃ t elem, ts[0]? = some t ∧ und E t = .ok (.slice elem) := by
 unfold undA at h
 cases ht : ts[0]? with
 | none => rw [ht] at h; cases h
 | some t =>
  rw [ht] at h
  simp only at h
  unfold isSl at h
  split at h
  ·rename_i e he; exact ⟨t, e, rfl, he⟩
  ·cases h
theorem v_len {args : Array Operand} {ts : Array TypeId} (ho : o.op = .call { callee := .builtin .len, args, argTypes := ts }) (h : vLen args ts E fr o = .ok v) : VOk E ι o ρ v := by
 unfold vLen vLen1 at h
 split at h
 ·rename_i x hx
  split at h
  ·rename_i k off m ex c esz hp
   rw [R.cond_ok] at h
   obtain ⟨g, h⟩ := h
   injection h with h; subst h
   obtain ⟨t, elem, ht, hd⟩ := undA_ok hE H g
   obtain ⟨l, o', cap, hl, e, q⟩ := H _ _ hp
   have ea : args = #[x] := by apply Array.ext'; simpa using hx
   subst ea
   refine ⟨_, ⟨rfl, rfl⟩, fun w => ?_⟩
   have e0 : (#[x].map ρ) = #[ρ x] := by simp
   simp only [execOp, ho, resolve, invoke, builtin, e0, e, Sem.run_bind, Sem.run_pure, Result.andThen_ok]
   simp only [Builtin.len_, ht, Sem.run_bind, und_run hE hd, Result.andThen_ok]
   simp [go_sem, goInt, und_run hE hd]
  ·cases h
  ·exact v_builtin hE H ho h
  ·cases h
 ·cases h
theorem v_cap {args : Array Operand} {ts : Array TypeId} (ho : o.op = .call { callee := .builtin .cap, args, argTypes := ts }) (h : vCap args ts E fr o = .ok v) : VOk E ι o ρ v := by
 unfold vCap at h
 split at h
 ·rename_i x hx
  split at h
  ·rename_i k off m c esz hp
   rw [R.cond_ok] at h
   obtain ⟨g, h⟩ := h
   injection h with h; subst h
   obtain ⟨t, elem, ht, hd⟩ := undA_ok hE H g
   obtain ⟨l, o', cap, hl, e, q1, q2, q⟩ := H _ _ hp
   have ec := q2 rfl
   subst ec
   have ea : args = #[x] := by apply Array.ext'; simpa using hx
   subst ea
   refine ⟨_, ⟨rfl, rfl⟩, fun w => ?_⟩
   have e0 : (#[x].map ρ) = #[ρ x] := by simp
   simp only [execOp, ho, resolve, invoke, builtin, e0, e, Sem.run_bind, Sem.run_pure, Result.andThen_ok]
   simp only [Builtin.cap_, ht, Sem.run_bind, und_run hE hd, Result.andThen_ok]
   simp [go_sem, goInt, und_run hE hd]
  ·cases h
  ·cases h
 ·cases h
theorem isEq_cases {op : BinOp} {b : Bool} (h : isEq op = some b) : op = .eql ∧ b = true ∨ op = .neq ∧ b = false := by
 cases op <;> simp [isEq] at h <;> subst h <;> simp
end
theorem equal_of {P : Program} {t : TypeId} {x y : Value} {r : Bool} (h : ∀ d w, (Op.equalIn (d + 1) t x y).run P w = .ok r w) (w : World) : (Op.equal t x y).run P w = .ok r w := h 9999 w
def EqOk (P : Program) (t : TypeId) (x y : Value) (r : Bool) : Prop :=
 (∀ w, (binOp .eql t x y).run P w = .ok (.bool r) w) ∧ (∀ w, (binOp .neq t x y).run P w = .ok (.bool (!r)) w) ∧ ∀ w op X Y, (eqGuard op t X Y x y).run P w = .ok () w
theorem EqOk.mk' {P : Program} {t : TypeId} {x y : Value} {r : Bool} (h : ∀ d w, (Op.equalIn (d + 1) t x y).run P w = .ok r w)
  (h1 : binOp .eql t x y = (do pure (.bool (← Op.equal t x y)))) (h2 : binOp .neq t x y = (do pure (.bool (!(← Op.equal t x y))))) (h3 : ∀ op X Y, eqGuard op t X Y x y = pure ()) : EqOk P t x y r :=
 ⟨fun w => by rw [h1]; simp only [Sem.run_bind, equal_of h w, Result.andThen_ok]; rfl, fun w => by rw [h2]; simp only [Sem.run_bind, equal_of h w, Result.andThen_ok]; rfl, fun w op X Y => by rw [h3]; rfl⟩
/-- equality with nil, at types that allow it -/
theorem eqn_ok {E : Env} (hE : EnvOk E) {ι : Io} {p q : AV} {x y : Value} (hp : rel ι p x) (hq : rel ι q y) {r : Bool} {t : TypeId} {d : TypeDesc} (hd : und E t = .ok d) (h : aeqn d p q = .ok r) : EqOk E.P t x y r := by
 have hu := und_run hE hd
 unfold aeqn at h
 split at h
 ·split at h
  ·injection h with h; subst h
   obtain ⟨l, hl, rfl⟩ := hp
   obtain ⟨rfl, _⟩ := hq
   refine EqOk.mk' (fun d w => ?_) rfl rfl (fun op X Y => ?_)
   ·simp only [Op.equalIn, Sem.run_bind, hu, Result.andThen_ok]; rfl
   ·unfold eqGuard; cases op <;> rfl
  ·injection h with h; subst h
   obtain ⟨rfl, _⟩ := hp
   obtain ⟨l, hl, rfl⟩ := hq
   refine EqOk.mk' (fun d w => ?_) rfl rfl (fun op X Y => ?_)
   ·simp only [Op.equalIn, Sem.run_bind, hu, Result.andThen_ok]; rfl
   ·unfold eqGuard; cases op <;> rfl
  ·cases h
 ·split at h
  ·injection h with h; subst h
   obtain ⟨a', b', rfl, _⟩ := hp
   obtain ⟨rfl, _⟩ := hq
   refine EqOk.mk' (fun d w => ?_) rfl rfl (fun op X Y => ?_)
   ·simp only [Op.equalIn, Sem.run_bind, hu, Result.andThen_ok]; rfl
   ·unfold eqGuard; cases op <;> rfl
  ·injection h with h; subst h
   obtain ⟨rfl, _⟩ := hp
   obtain ⟨a', b', rfl, _⟩ := hq
   refine EqOk.mk' (fun d w => ?_) rfl rfl (fun op X Y => ?_)
   ·simp only [Op.equalIn, Sem.run_bind, hu, Result.andThen_ok]; rfl
   ·unfold eqGuard; cases op <;> rfl
  ·cases h
 ·split at h
  ·injection h with h; subst h
   obtain ⟨l, hl, rfl⟩ := hp
   obtain ⟨rfl, _⟩ := hq
   refine EqOk.mk' (fun d w => ?_) rfl rfl (fun op X Y => ?_)
   ·simp only [Op.equalIn, Sem.run_bind, hu, Result.andThen_ok]; rfl
   ·unfold eqGuard; cases op <;> rfl
  ·injection h with h; subst h
   obtain ⟨rfl, _⟩ := hp
   obtain ⟨l, hl, rfl⟩ := hq
   refine EqOk.mk' (fun d w => ?_) rfl rfl (fun op X Y => ?_)
   ·simp only [Op.equalIn, Sem.run_bind, hu, Result.andThen_ok]; rfl
   ·unfold eqGuard; cases op <;> rfl
  ·cases h
 ·split at h
  ·injection h with h; subst h
   obtain ⟨l, o', c', hl, rfl, _⟩ := hp
   obtain ⟨rfl, _⟩ := hq
   refine EqOk.mk' (fun d w => ?_) rfl rfl (fun op X Y => ?_)
   ·simp only [Op.equalIn, Sem.run_bind, hu, Result.andThen_ok]; rfl
   ·unfold eqGuard; cases op <;> rfl
  ·injection h with h; subst h
   obtain ⟨rfl, _⟩ := hp
   obtain ⟨l, o', c', hl, rfl, _⟩ := hq
   refine EqOk.mk' (fun d w => ?_) rfl rfl (fun op X Y => ?_)
   ·simp only [Op.equalIn, Sem.run_bind, hu, Result.andThen_ok]; rfl
   ·unfold eqGuard; cases op <;> rfl
  ·cases h
 ·cases h
section
variable {E : Env} (hE : EnvOk E) {ι : Io} {fr : Fr} {ρ : Operand → Value} (H : ERel ι fr ρ) {o : Oper} {v : AV}
include hE H
theorem v_bin2 {op : BinOp} {t t' : TypeId} {x y : Operand} {p q : AV} (ho : o.op = .binOp op t x y t') (hp : aev fr x = .ok p) (hq : aev fr y = .ok q) (h : bin2 E fr o op t p q = .ok v) : VOk E ι o ρ v := by
 unfold bin2 at h
 split at h
 ·rename_i b hb
  split at h
  ·rename_i d hd
   split at h
   ·rename_i r hr
    injection h with h; subst h
    obtain ⟨g1, g2, g3⟩ := eqn_ok hE (H _ _ hp) (H _ _ hq) hd hr
    exact eqn_run H ho hp hq hb g1 g2 (fun w op => g3 w op x y)
   ·exact g_bin H ho h
  ·cases h
 ·exact g_bin H ho h
theorem v_bin {op : BinOp} {t t' : TypeId} {x y : Operand} (ho : o.op = .binOp op t x y t') (h : vBin op t x y E fr o = .ok v) : VOk E ι o ρ v := by
 unfold vBin at h
 split at h
 ·rename_i p hp
  split at h
  ·rename_i q hq
   unfold abin at h
   split at h
   ·rename_i k a
    split at h
    ·rename_i k' b
     split at h
     ·rename_i r hr
      cases hk : sameK k k' with
      | false => rw [hk] at h; exact g_bin H ho h
      | true =>
       rw [hk] at h
       injection h with h; subst h
       have := sameK_eq hk
       subst this
       exact fast_run H ho (H _ _ hp).1 (H _ _ hq).1 hr
     ·exact g_bin H ho h
    ·exact v_bin2 hE H ho hp hq h
   ·exact v_bin2 hE H ho hp hq h
  ·cases h
 ·cases h
end
end Go.Ev
namespace Go.Ev
theorem mapM_list {α β : Type} {P : Program} (f : α → Sem β) (g : α → β) : ∀ (l : List α), (∀ x ∈ l, ∀ w, (f x).run P w = .ok (g x) w) → ∀ w, (l.mapM f).run P w = .ok (l.map g) w
 | [], _, w => by simp only [List.mapM_nil]; rfl
 | a :: r, hf, w => by
  simp only [List.mapM_cons, Sem.run_bind, hf a (by simp) w, Result.andThen_ok, mapM_list f g r (fun x hx => hf x (by simp [hx])) w]
  rfl
theorem mapM_run {α β : Type} {P : Program} (f : α → Sem β) (g : α → β) (arr : Array α) (hf : ∀ x ∈ arr.toList, ∀ w, (f x).run P w = .ok (g x) w) (w : World) :
  (arr.mapM f).run P w = .ok (arr.map g) w := by
 rw [Array.mapM_eq_mapM_toList, map_eq_pure_bind]
 simp only [Sem.run_bind, mapM_list f g arr.toList hf w, Result.andThen_ok]
 show Result.ok _ w = _
 congr 1
 apply Array.ext'
 simp
/-- one part after the other, over a row -/
theorem foldl_set (vs : List Value) : ∀ (k : Nat) (off : Nat) (cells : Array Value), off + k + vs.length ≤ cells.size →
  ((vs.zipIdx k).foldl (fun cs (p : Value × Nat) => cs.setIfInBounds (off + p.2) p.1) cells).size = cells.size ∧
  ∀ i : Nat, ((vs.zipIdx k).foldl (fun cs (p : Value × Nat) => cs.setIfInBounds (off + p.2) p.1) cells)[i]? = if off + k ≤ i ∧ i < off + k + vs.length then vs[i - (off + k)]? else cells[i]? := by
 induction vs with
 | nil =>
  intro k off cells h
  simp
  intro i h1 h2
  omega
 | cons v vs ih =>
  intro k off cells h
  simp only [List.zipIdx_cons, List.foldl_cons, List.length_cons] at h ⊢
  obtain ⟨h1, h2⟩ := ih (k + 1) off (cells.setIfInBounds (off + k) v) (by simp; omega)
  refine ⟨by rw [h1]; simp, fun i => ?_⟩
  rw [h2 i]
  by_cases e : i = off + k
  ·subst e
   rw [if_neg (by omega), if_pos (by omega)]
   have : off + k < cells.size := by omega
   simp [Array.getElem?_setIfInBounds, this]
  ·by_cases e2 : off + (k + 1) ≤ i ∧ i < off + (k + 1) + vs.length
   ·rw [if_pos e2, if_pos (by omega)]
    have : i - (off + k) = (i - (off + (k + 1))) + 1 := by omega
    rw [this, List.getElem?_cons_succ]
   ·rw [if_neg e2, if_neg (by omega), Array.getElem?_setIfInBounds, if_neg (fun h => e h.symm)]
def relP (ι : Io) : List (Nat × AV) → List (Nat × Value) → Prop
 | [], l => l = []
 | p :: r, l => ∃ v vs, l = (p.1, v) :: vs ∧ rel ι p.2 v ∧ relP ι r vs
theorem evParts_rel {ι : Io} {fr : Fr} {ρ : Operand → Value} (H : ERel ι fr ρ) : ∀ {l : List (Nat × Operand)} {r : List (Nat × AV)}, evParts fr l = .ok r → relP ι r (l.map fun p => (p.1, ρ p.2))
 | [], r, h => by simp [evParts] at h; subst h; rfl
 | p :: ps, r, h => by
  simp only [evParts] at h
  cases ha : aev fr p.2 with
  | err c => rw [ha] at h; cases h
  | ok u =>
   rw [ha] at h
   cases hr : evParts fr ps with
   | err c => rw [hr] at h; cases h
   | ok us => rw [hr] at h; injection h with h; subst h; exact ⟨_, _, rfl, H _ _ ha, evParts_rel H hr⟩
theorem fill_rel {ι : Io} {place place' : Nat → Option (Nat × Nat)} (hp : ∀ i x, place i = some x → place' i = some x) :
  ∀ (ps : List (Nat × AV)) (vs : List (Nat × Value)) (cs : List AV) (cells : Array Value) (r : List AV), relP ι ps vs → relL ι cs cells.toList → afill place cs ps = .ok r →
   ∃ cells', Instr.fill place' cells vs = some cells' ∧ relL ι r cells'.toList
 | [], vs, cs, cells, r, hv, hc, h => by
  have : vs = [] := hv
  subst this
  simp [afill] at h; subst h
  exact ⟨cells, rfl, hc⟩
 | (i, a) :: ps, vs, cs, cells, r, hv, hc, h => by
  obtain ⟨v, vs', rfl, ha, hr⟩ := hv
  simp only [afill] at h
  cases hpl : place i with
  | none => rw [hpl] at h; cases h
  | some x =>
   obtain ⟨off, size⟩ := x
   rw [hpl] at h
   simp only at h
   rw [R.cond_ok, beq_eq] at h
   obtain ⟨g, h⟩ := h
   have g := of_decide_eq_true g
   cases hs : setAt cs off (cellsOf a) with
   | err c => rw [hs] at h; cases h
   | ok cs' =>
    rw [hs] at h
    have hcl := cells_rel ha
    obtain ⟨s1, s2, s3⟩ := setAt_spec cs off (cellsOf a) cs' hs
    have hlen : v.cells.toList.length = (cellsOf a).length := hcl.length
    have hsz : v.cells.size = size := by rw [← g, ← hlen]; simp
    have hcs : cells.size = cs.length := by have := hc.length; simpa using this
    obtain ⟨f1, f2⟩ := foldl_set v.cells.toList 0 off cells (by rw [hlen]; omega)
    have hc' : relL ι cs' (((v.cells.toList.zipIdx 0).foldl (fun cs (p : Value × Nat) => cs.setIfInBounds (off + p.2) p.1) cells).toList) := by
     refine relL.of (by simp [f1, hcs, s1]) fun j x hj => ?_
     rw [s3 j] at hj
     simp only [Array.getElem?_toList]
     rw [f2 j]
     by_cases e : off ≤ j ∧ j < off + (cellsOf a).length
     ·rw [if_pos e] at hj
      rw [if_pos (by rw [hlen]; omega)]
      exact hcl.get _ x hj
     ·rw [if_neg e] at hj
      rw [if_neg (by rw [hlen]; omega)]
      have := hc.get j x hj
      simpa using this
    obtain ⟨cells', q1, q2⟩ := fill_rel hp ps vs' cs' _ r hr hc' h
    refine ⟨cells', ?_, q2⟩
    have hsz' : ¬ (v.cells.size ≠ size ∨ cells.size < off + v.cells.size) := by
     have : v.cells.size = (cellsOf a).length := by rw [← hlen]; simp
     omega
    simp only [Instr.fill, hp i _ hpl]
    rw [if_neg (by simpa using hsz')]
    rw [← q1]
    congr 1
    rw [← Array.foldl_toList]
    simp
theorem mapR_ok {α β : Type} {f : α → R β} : ∀ {l : List α} {r : List β}, mapR f l = .ok r → r.length = l.length ∧ ∀ (i : Nat) (x : α), l[i]? = some x → ∃ y, f x = .ok y ∧ r[i]? = some y
 | [], r, h => by simp [mapR] at h; subst h; simp
 | a :: l, r, h => by
  simp only [mapR] at h
  cases ha : f a with
  | err c => rw [ha] at h; cases h
  | ok b =>
   rw [ha] at h
   cases hr : mapR f l with
   | err c => rw [hr] at h; cases h
   | ok bs =>
    rw [hr] at h; injection h with h; subst h
    obtain ⟨h1, h2⟩ := mapR_ok hr
    refine ⟨by simp [h1], fun i x hx => ?_⟩
    cases i with
    | zero => simp at hx; subst hx; exact ⟨b, ha, by simp⟩
    | succ i => simpa using h2 i x (by simpa using hx)
section
variable {E : Env} (hE : EnvOk E) {ι : Io} {fr : Fr} {ρ : Operand → Value} (H : ERel ι fr ρ) {o : Oper} {v : AV}
include hE H
theorem v_build {t : TypeId} {parts : Array (Nat × Operand)} (ho : o.op = .build t parts) (h : vBuild t parts E fr o = .ok v) : VOk E ι o ρ v := by
 unfold vBuild at h
 split at h
 ·rename_i ps hps
  have hp := evParts_rel H hps
  simp only [abuild, R.bind_ok] at h
  obtain ⟨z, hz, d, hd, h⟩ := h
  obtain ⟨zv, hzr, hzrun⟩ := zer_run hE hz
  have hzc := cells_rel (hzr ι)
  have epl : (List.map (fun p : Nat × Operand => (p.1, ρ p.2)) parts.toList) = (parts.map fun p => (p.1, ρ p.2)).toList := by simp
  rw [epl] at hp
  split at h
  ·rename_i fields
   simp only [R.bind_ok, R.pure_ok] at h
   obtain ⟨places, hpl, cs, hcs, h⟩ := h
   subst h
   obtain ⟨p1, p2⟩ := mapR_ok hpl
   obtain ⟨sz, hsz⟩ : ∃ sz : Field → Nat, sz = fun f => match tsz E f.type with | .ok n => n | .err _ => 0 := ⟨_, rfl⟩
   have hfld : ∀ (i : Nat) (f : Field), fields.toList[i]? = some f → tsz E f.type = .ok (sz f) ∧ places[i]? = some (f.offset, sz f) := by
    intro i f hf
    obtain ⟨y, hy, hy2⟩ := p2 i f hf
    simp only [R.bind_ok, R.pure_ok] at hy
    obtain ⟨n, hn, hy⟩ := hy
    have : sz f = n := by rw [hsz]; simp [hn]
    rw [this, hy2, ← hy]
    exact ⟨hn, rfl⟩
   have hrun : ∀ w, (fields.mapM fun f => do pure (f.offset, ← sizeOf f.type) : Sem _).run E.P w = .ok (fields.map fun f => (f.offset, sz f)) w := by
    intro w
    refine mapM_run _ _ fields (fun f hf w => ?_) w
    obtain ⟨i, hi⟩ := List.getElem?_of_mem hf
    have := (hfld i f hi).1
    simp only [Sem.run_bind, tsz_run hE this, Result.andThen_ok]
    rfl
   obtain ⟨cells', q1, q2⟩ := fill_rel (place' := fun i => (fields.map fun f => (f.offset, sz f))[i]?) (fun i x hx => by
    rw [getAt_eq] at hx
    have hlt := (List.getElem?_eq_some_iff.1 hx).1
    have hlt' : i < fields.toList.length := by rw [← p1]; exact hlt
    have h2 := (hfld i _ (List.getElem?_eq_getElem hlt')).2
    rw [hx] at h2
    injection h2 with h2
    subst h2
    simp only [Array.getElem?_map]
    have : fields[i]? = some fields.toList[i] := by simpa using List.getElem?_eq_getElem hlt'
    rw [this]; rfl) _ _ _ _ cs hp hzc hcs
   refine ⟨.agg cells', ⟨cells'.toList, by simp, q2⟩, fun w => ?_⟩
   simp only [execOp, ho]
   simp only [Instr.build, Sem.run_bind, hzrun w, und_run hE hd, Result.andThen_ok, hrun w, q1]
   rfl
  ·rename_i n elem
   simp only [R.bind_ok, R.pure_ok] at h
   obtain ⟨size, hsz, cs, hcs, h⟩ := h
   subst h
   obtain ⟨cells', q1, q2⟩ := fill_rel (place' := fun i => some (i * size, size)) (fun i x hx => hx) _ _ _ _ cs hp hzc hcs
   refine ⟨.agg cells', ⟨cells'.toList, by simp, q2⟩, fun w => ?_⟩
   simp only [execOp, ho]
   simp only [Instr.build, Sem.run_bind, hzrun w, und_run hE hd, Result.andThen_ok, tsz_run hE hsz, q1]
   rfl
  ·cases h
 ·cases h
def Cls.valOf : Cls → Option ValF
 | .val f => some f
 | .vr f _ => some f
 | .vw f _ => some f
 | _ => none
/-- all operations on values alone -/
theorem val_ok {f : ValF} (hc : (cls o.op).valOf = some f) (h : f E fr o = .ok v) : VOk E ι o ρ v := by
 cases hop : o.op with
 | move x => rw [hop] at hc; injection hc with hc; subst hc; exact v_move H (.inl hop) h
 | assign x => rw [hop] at hc; injection hc with hc; subst hc; exact v_move H (.inr hop) h
 | pick c x y => rw [hop] at hc; injection hc with hc; subst hc; exact v_pick H hop h
 | build t parts => rw [hop] at hc; injection hc with hc; subst hc; exact v_build hE H hop h
 | nilCheck x => rw [hop] at hc; injection hc with hc; subst hc; exact v_nil H hop h
 | binOp op t x y t' => rw [hop] at hc; injection hc with hc; subst hc; exact v_bin hE H hop h
 | unOp op t x => rw [hop] at hc; injection hc with hc; subst hc; exact v_un H hop h
 | convert s d x => rw [hop] at hc; injection hc with hc; subst hc; exact v_convert H hop h
 | makeInterface t x => rw [hop] at hc; injection hc with hc; subst hc; exact v_iface hE H hop h
 | makeFunc fn x y => rw [hop] at hc; injection hc with hc; subst hc; exact v_func H hop h
 | slice t x lo hi mx => rw [hop] at hc; injection hc with hc; subst hc; exact v_slice hE H hop h
 | fieldAddr t x f => rw [hop] at hc; injection hc with hc; subst hc; exact v_fieldAddr hE H hop h
 | field t x f => rw [hop] at hc; injection hc with hc; subst hc; exact v_field hE H hop h
 | indexAddr t x i => rw [hop] at hc; injection hc with hc; subst hc; exact v_indexAddr hE H hop h
 | index t x i => rw [hop] at hc; injection hc with hc; subst hc; exact v_index hE H hop h
 | extract t i => rw [hop] at hc; injection hc with hc; subst hc; exact v_extract H hop h
 | call c =>
  rw [hop] at hc
  obtain ⟨callee, args, ts⟩ := c
  cases callee with
  | value f => cases hc
  | invoke r m => cases hc
  | builtin b =>
   cases b with
   | len => injection hc with hc; subst hc; exact v_len hE H hop h
   | cap => injection hc with hc; subst hc; exact v_cap hE H hop h
   | min => injection hc with hc; subst hc; exact v_builtin hE H hop h
   | max => injection hc with hc; subst hc; exact v_builtin hE H hop h
   | _ => cases hc
 | _ => rw [hop] at hc; cases hc
end
end Go.Ev
namespace Go.Ev
theorem cell_of {w : World} {b : Nat} {c : Array Value} {t : TypeId} {f : Nat × Nat} (h : w.heap[b]? = some (.cells c t f)) (i : Nat) : w.cell? ⟨b, i, none⟩ = c[i]? := by
 simp [World.cell?, h]
theorem load_run {P : Program} {w : World} {a : Addr} {v : Value} (h : w.cell? a = some v) : (load a).run P w = .ok v w := by
 simp [load, Sem.run, h]
theorem loadFrom_run {P : Program} {w : World} {b o : Nat} : ∀ (n i : Nat) (acc : Array Value) (l : List Value), l.length = n → (∀ (j : Nat) (v : Value), l[j]? = some v → w.cell? ⟨b, o + (i + j), none⟩ = some v) →
  (loadCellsFrom ⟨b, o, none⟩ i n acc).run P w = .ok (acc ++ l.toArray) w
 | 0, i, acc, l, hl, h => by
  have : l = [] := List.length_eq_zero_iff.1 hl
  subst this
  simp only [loadCellsFrom, Sem.run_pure]
  simp
 | n + 1, i, acc, [], hl, h => by simp at hl
 | n + 1, i, acc, v :: l, hl, h => by
  have h0 : w.cell? ⟨b, o + i, none⟩ = some v := h 0 v (by simp)
  simp only [loadCellsFrom, add_none, Sem.run_bind, load_run h0, Result.andThen_ok]
  rw [loadFrom_run n (i + 1) (acc.push v) l (by simpa using hl) (fun j x hj => by
   have := h (j + 1) x (by simpa using hj)
   rw [show o + (i + 1 + j) = o + (i + (j + 1)) by omega]; exact this)]
  congr 1
  apply Array.ext'
  simp
theorem loadCells_run {P : Program} {w : World} {b o n : Nat} {l : List Value} (hl : l.length = n) (h : ∀ (j : Nat) (v : Value), l[j]? = some v → w.cell? ⟨b, o + j, none⟩ = some v) :
  (loadCells ⟨b, o, none⟩ n).run P w = .ok l.toArray w := by
 have := loadFrom_run (P := P) (w := w) (b := b) (o := o) n 0 #[] l hl (fun j v hj => by rw [Nat.zero_add]; exact h j v hj)
 unfold loadCells
 rw [this]
 simp
/-- the cells behind a name -/
theorem cells_of {ι : Io} {s : St} {w : World} (H : HRel ι s w) {k : Nat} {cs : List AV} (h : acellsR s k = .ok cs) :
  ∃ l c t f, ι k = some l ∧ w.heap[l.b]? = some (.cells c t f) ∧ c.size = l.n ∧ relC ι l.s cs c := by
 unfold acellsR at h
 split at h
 ·rename_i cs' hk
  injection h with h; subst h
  obtain ⟨l, o, q1, q2, c, t, q3, q4, q5⟩ := H.blk k _ hk
  subst q3
  exact ⟨l, c, t, _, q1, q2, q4, q5.1⟩
 ·rename_i cs' hk
  injection h with h; subst h
  obtain ⟨l, o, q1, q2, c, t, f, q3, q4, q5⟩ := H.blk k _ hk
  subst q3
  exact ⟨l, c, t, f, q1, q2, q4, q5⟩
 ·cases h
 ·cases h
/-- a run of cells, read -/
theorem run_of {ι : Io} {s0 : Nat} {cs : List AV} {c : Array Value} (hr : relC ι s0 cs c) {off n : Nat} {r : List AV} (h : subAt cs off n = .ok r) :
  ∃ l, relL ι r l ∧ l.length = n ∧ ∀ (j : Nat) (v : Value), l[j]? = some v → c[s0 + off + j]? = some v := by
 obtain ⟨h1, h2⟩ := subAt_get cs off n r h
 have hg : ∀ i, i < n → ∃ v, c[s0 + off + i]? = some v ∧ ∀ a, r[i]? = some a → rel ι a v := by
  intro i hi
  have hi' : i < r.length := by omega
  have e := h2 i hi
  rw [List.getElem?_eq_getElem hi'] at e
  obtain ⟨v, q1, q2⟩ := hr (off + i) _ e.symm
  refine ⟨v, by rw [Nat.add_assoc]; exact q1, fun a ha => ?_⟩
  rw [List.getElem?_eq_getElem hi'] at ha
  injection ha with ha; rw [← ha]; exact q2
 refine ⟨(List.range n).map fun i => (c[s0 + off + i]?).getD undef, ?_, by simp, ?_⟩
 ·refine relL.of (by simp [h1]) fun i x hx => ?_
  have hi : i < n := by have := (List.getElem?_eq_some_iff.1 hx).1; omega
  obtain ⟨v, q1, q2⟩ := hg i hi
  exact ⟨v, by simp [List.getElem?_range hi, q1], q2 x hx⟩
 ·intro j v hj
  have hjn : j < n := by
   have := (List.getElem?_eq_some_iff.1 hj).1; simpa using this
  obtain ⟨v', q1, _⟩ := hg j hjn
  simp [List.getElem?_range hjn, q1] at hj
  rw [q1, hj]
section
variable {E : Env} (hE : EnvOk E) {ι : Io} {s : St} {w : World} (HR : HRel ι s w)
include hE HR
theorem aload_run {t : TypeId} {a v : AV} (h : aload E s t a = .ok v) {x : Value} (hx : rel ι a x) : ∃ y, rel ι v y ∧ (Instr.loadAt t x).run E.P w = .ok y w := by
 unfold aload at h
 split at h
 ·rename_i k off
  split at h
  ·rename_i cs hcs
   obtain ⟨l, c, ty, f, q1, q2, q3, q4⟩ := cells_of HR hcs
   obtain ⟨l', hl', rfl⟩ := hx
   rw [q1] at hl'; injection hl' with hl'; subst hl'
   unfold partA at h
   split at h
   ·rename_i hag
    split at h
    ·rename_i n hn
     cases hs : subAt cs off n with
     | err c => rw [hs] at h; cases h
     | ok r =>
      rw [hs] at h
      injection h with h; subst h
      obtain ⟨vs, g1, g2, g3⟩ := run_of q4 hs
      refine ⟨.agg vs.toArray, ⟨vs, rfl, g1⟩, ?_⟩
      have hld := loadCells_run (P := E.P) (w := w) (b := l.b) (o := l.s + off) g2 (fun j v hj => by rw [cell_of q2]; exact g3 j v hj)
      simp only [Instr.loadAt, Instr.sureAddr, loadVar, Sem.run_bind, Sem.run_pure, Result.andThen_ok, isAgg_run hE hag, if_true, tsz_run hE hn, hld]
    ·cases h
   ·rename_i hag
    rw [getAt_eq] at h
    cases hg : cs[off]? with
    | none => rw [hg] at h; cases h
    | some u =>
     rw [hg] at h
     injection h with h; subst h
     obtain ⟨y, g1, g2⟩ := q4 off u hg
     refine ⟨y, g2, ?_⟩
     have hld := load_run (P := E.P) (w := w) (a := ⟨l.b, l.s + off, none⟩) (v := y) (by rw [cell_of q2]; exact g1)
     simp only [Instr.loadAt, Instr.sureAddr, loadVar, Sem.run_bind, Sem.run_pure, Result.andThen_ok, isAgg_run hE hag, Bool.false_eq_true, if_false, hld]
   ·cases h
  ·cases h
 ·cases h
end
/-! maps -/
theorem map_of {ι : Io} {s : St} {w : World} (H : HRel ι s w) {m : AV} {r : Nat × List AEnt × Nat} (h : amapOf s m = .ok r) {x : Value} (hx : rel ι m x) :
  ∃ l ms, ι r.1 = some l ∧ m = .map r.1 ∧ x = .map (some l.b) ∧ s.h.get r.1 = some (.map r.2.1 r.2.2) ∧ w.heap[l.b]? = some (.map (List.toArray ms) r.2.2) ∧ relE ι r.2.1 ms := by
 unfold amapOf at h
 split at h
 ·rename_i k
  split at h
  ·rename_i es c hk
   injection h with h; subst h
   obtain ⟨l, o, q1, q2, ms, q3, q4⟩ := H.blk k _ hk
   subst q3
   obtain ⟨l', hl', rfl⟩ := hx
   rw [q1] at hl'; injection hl' with hl'; subst hl'
   exact ⟨l, ms, q1, rfl, rfl, hk, q2, q4⟩
  ·cases h
 ·cases h
theorem getObj_run {P : Program} {w : World} {r : Nat} {ms : Array MapEntry} {c : Nat} (h : w.heap[r]? = some (.map ms c)) : (getObj r).run P w = .ok (.map ms c) w := by
 simp [getObj, Sem.run, h]
theorem relE.length {ι : Io} : ∀ {es : List AEnt} {ms : List MapEntry}, relE ι es ms → ms.length = es.length
 | [], _, e => by rw [e]; rfl
 | _ :: _, _, ⟨m, ms, e, _, _, _, hr⟩ => by rw [e]; simp [hr.length]
theorem key_run {E : Env} {ι : Io} {kt : TypeId} {a b : AV} {r : Bool} (h : keyEq E kt a b = .ok r) {x y : Value} (hx : rel ι a x) (hy : rel ι b y) (w : World) : (Op.equal kt x y).run E.P w = .ok r w := by
 unfold keyEq at h
 split at h
 ·rename_i u v hu hv
  rw [toG_rel a u hu x hx, toG_rel b v hv y hy]
  exact pureRun_ok _ _ _ h w
 ·cases h
/-- the quick search tells what the slow one tells -/
theorem now_eq {P : Program} {kt : TypeId} {d : TypeDesc} (hd : P.underlying kt = some d) {x y : Value} {b : Bool} (h : Instr.sameNow d x y = some b) (w : World) : (Op.equal kt x y).run P w = .ok b w := by
 refine equal_of (fun n w => ?_) w
 have hu : ∀ w, (underlying kt).run P w = .ok d w := fun w => by simp [underlying, go_sem, hd]
 unfold Instr.sameNow at h
 split at h
 ·rename_i k a k' b'
  split at h
  ·rename_i hk
   injection h with h; subst h
   simp only [Op.equalIn, Sem.run_bind, hu, Result.andThen_ok, hk, if_true]; rfl
  ·cases h
 ·injection h with h; subst h
  simp only [Op.equalIn, Sem.run_bind, hu, Result.andThen_ok]; rfl
 ·injection h with h; subst h
  simp only [Op.equalIn, Sem.run_bind, hu, Result.andThen_ok]; rfl
 ·cases h
def Found (P : Program) (kt : TypeId) (x : Value) : List MapEntry → Nat → Option (Nat × Value) → Prop
 | [], _, r => r = none
 | e :: es, i, r => (∀ w, (Op.equal kt x e.key).run P w = .ok true w) ∧ r = some (i, e.val) ∨ (∀ w, (Op.equal kt x e.key).run P w = .ok false w) ∧ Found P kt x es (i + 1) r
theorem found_asking {P : Program} {kt : TypeId} {x : Value} : ∀ {ms : List MapEntry} {i : Nat} {r : Option (Nat × Value)}, Found P kt x ms i r → ∀ w, (Instr.findAsking kt x ms i).run P w = .ok r w
 | [], i, r, h, w => by rw [show r = none from h]; rfl
 | e :: es, i, r, h, w => by
  rcases h with ⟨h1, h2⟩ | ⟨h1, h2⟩
  ·subst h2
   simp only [Instr.findAsking, Sem.run_bind, h1 w, Result.andThen_ok, if_true]; rfl
  ·simp only [Instr.findAsking, Sem.run_bind, h1 w, Result.andThen_ok, Bool.false_eq_true, if_false]
   exact found_asking h2 w
theorem found_now {P : Program} {kt : TypeId} {d : TypeDesc} (hd : P.underlying kt = some d) {x : Value} (w : World) : ∀ {ms : List MapEntry} {i : Nat} {r q : Option (Nat × Value)}, Found P kt x ms i r → Instr.findNow d x ms i = some q → q = r
 | [], i, r, q, h, hn => by
  simp [Instr.findNow] at hn
  rw [← hn, show r = none from h]
 | e :: es, i, r, q, h, hn => by
  simp only [Instr.findNow] at hn
  cases hs : Instr.sameNow d x e.key with
  | none => rw [hs] at hn; cases hn
  | some b =>
   have he := now_eq hd hs w
   rw [hs] at hn
   cases b with
   | true =>
    simp only [Option.some.injEq] at hn
    rcases h with ⟨h1, h2⟩ | ⟨h1, h2⟩
    ·rw [h2, hn]
    ·rw [h1 w] at he; injection he with he; cases he
   | false =>
    simp only at hn
    rcases h with ⟨h1, h2⟩ | ⟨h1, h2⟩
    ·rw [h1 w] at he; injection he with he; cases he
    ·exact found_now hd w h2 hn
theorem find_run {P : Program} {kt : TypeId} {d : TypeDesc} (hd : P.underlying kt = some d) {x : Value} {ms : List MapEntry} {r : Option (Nat × Value)} (h : Found P kt x ms 0 r) (w : World) : (Instr.findKey kt x ms).run P w = .ok r w := by
 have hu : (underlying kt).run P w = .ok d w := by simp [underlying, go_sem, hd]
 unfold Instr.findKey
 simp only [Sem.run_bind, hu, Result.andThen_ok]
 cases hn : Instr.findNow d x ms 0 with
 | none => exact found_asking h w
 | some q => rw [found_now hd w h hn]; rfl
/-- what is found -/
def relF (ι : Io) : Option (Nat × AEnt) → Option (Nat × Value) → Prop
 | none, r => r = none
 | some (i, e), r => ∃ v, r = some (i, v) ∧ rel ι e.val v
theorem afind_found {E : Env} {ι : Io} {kt : TypeId} {k : AV} {x : Value} (hx : rel ι k x) : ∀ {es : List AEnt} {ms : List MapEntry} {i : Nat} {r : Option (Nat × AEnt)}, relE ι es ms → afind E kt k es i = .ok r →
  ∃ q, Found E.P kt x ms i q ∧ relF ι r q ∧ ∀ j e, r = some (j, e) → i ≤ j ∧ es[j - i]? = some e
 | [], ms, i, r, hr, h => by
  simp [afind] at h; subst h
  rw [show ms = [] from hr]
  exact ⟨none, rfl, rfl, fun j e h => by cases h⟩
 | e :: es, _, i, r, ⟨m, ms, rfl, h1, h2, h3, h4⟩, h => by
  simp only [afind] at h
  cases hk : keyEq E kt k e.key with
  | err c => rw [hk] at h; cases h
  | ok b =>
   have he := fun w => key_run hk hx h1 w
   rw [hk] at h
   cases b with
   | true =>
    injection h with h; subst h
    exact ⟨some (i, m.val), .inl ⟨he, rfl⟩, ⟨m.val, rfl, h2⟩, fun j e' h => by
     injection h with h; injection h with ha hb; subst ha; subst hb; simp⟩
   | false =>
    obtain ⟨q, q1, q2, q3⟩ := afind_found hx h4 h
    refine ⟨q, .inr ⟨he, q1⟩, q2, fun j e' hj => ?_⟩
    obtain ⟨g1, g2⟩ := q3 j e' hj
    refine ⟨by omega, ?_⟩
    rw [show j - i = (j - (i + 1)) + 1 by omega, List.getElem?_cons_succ]; exact g2
theorem okKey_run {E : Env} {ι : Io} {kt : TypeId} {k : AV} {b : Bool} {u : Unit} (h : okKey E b kt k = .ok u) {x : Value} (hx : rel ι k x) (w : World) : (Instr.checkKey b 10000 kt x).run E.P w = .ok () w := by
 unfold okKey at h
 split at h
 ·rename_i v hv
  rw [toG_rel k v hv x hx]
  exact pureRun_ok _ _ _ h w
 ·cases h
section
variable {E : Env} (hE : EnvOk E) {ι : Io} {s : St} {w : World} (HR : HRel ι s w)
include hE HR
theorem alookup_run {t : TypeId} {m k v : AV} {ok : Bool} (h : alookup E s t m k ok = .ok v) {x y : Value} (hx : rel ι m x) (hy : rel ι k y) : ∃ z, rel ι v z ∧ (Instr.lookup t x y ok).run E.P w = .ok z w := by
 simp only [alookup, R.bind_ok] at h
 obtain ⟨d, hd, h⟩ := h
 split at h
 ·rename_i kt elem
  simp only [R.bind_ok] at h
  obtain ⟨es, hes, u, hk, r, hf, kd, hk0, h⟩ := h
  have key : ∀ ms : List MapEntry, relE ι es ms → ∃ q z, rel ι v z ∧ (Instr.checkKey (List.toArray ms).isEmpty 10000 kt y).run E.P w = .ok () w ∧ (Instr.findKey kt y ms).run E.P w = .ok q w ∧
    ((∃ j val, q = some (j, val) ∧ z = if ok = true then .tuple #[val, .bool true] else val) ∨ q = none ∧ ∃ zv, (zeroValue elem).run E.P w = .ok zv w ∧ z = if ok = true then .tuple #[zv, .bool false] else zv) := by
   intro ms hms
   have hck := okKey_run hk hy w
   have hemp : (List.toArray ms).isEmpty = es.isEmpty := by
    have := hms.length
    cases ms <;> cases es <;> simp at this ⊢
   rw [← hemp] at hck
   obtain ⟨q, q1, q2, _⟩ := afind_found (E := E) hy hms hf
   have hfk := find_run (und_eq hE hk0) q1 w
   split at h
   ·rename_i j e
    obtain ⟨val, rfl, hval⟩ := q2
    injection h with h; subst h
    cases ok with
    | true => exact ⟨_, _, ⟨[val, .bool true], rfl, val, _, rfl, hval, _, _, rfl, ⟨rfl, rfl⟩, rfl⟩, hck, hfk, .inl ⟨_, val, rfl, rfl⟩⟩
    | false => exact ⟨_, val, hval, hck, hfk, .inl ⟨_, val, rfl, rfl⟩⟩
   ·have hq : q = none := q2
    subst hq
    simp only [R.bind_ok] at h
    obtain ⟨z, hz, h⟩ := h
    injection h with h; subst h
    obtain ⟨zv, hz1, hz2⟩ := zer_run hE hz
    cases ok with
    | true => exact ⟨_, _, ⟨[zv, .bool false], rfl, zv, _, rfl, hz1 ι, _, _, rfl, ⟨rfl, rfl⟩, rfl⟩, hck, hfk, .inr ⟨rfl, zv, hz2 w, rfl⟩⟩
    | false => exact ⟨_, zv, hz1 ι, hck, hfk, .inr ⟨rfl, zv, hz2 w, rfl⟩⟩
  split at hes
  ·injection hes with hes; subst hes
   obtain ⟨q, z, z1, z2, z3, z4⟩ := key [] rfl
   obtain ⟨rfl, _⟩ := hx
   refine ⟨z, z1, ?_⟩
   rcases z4 with ⟨j, val, rfl, rfl⟩ | ⟨rfl, zv, z5, rfl⟩
   ·simp only [Instr.lookup, Sem.run_bind, und_run hE hd, Result.andThen_ok, Sem.run_pure, z2, z3]
   ·simp only [Instr.lookup, Sem.run_bind, und_run hE hd, Result.andThen_ok, Sem.run_pure, z2, z3, z5]
  ·cases hm : amapOf s m with
   | err c => rw [hm] at hes; cases hes
   | ok r' =>
    rw [hm] at hes
    injection hes with hes
    obtain ⟨l, ms, q1, q2, q3, q4, q5, q6⟩ := map_of HR hm hx
    subst hes
    subst q3
    obtain ⟨q, z, z1, z2, z3, z4⟩ := key ms q6
    refine ⟨z, z1, ?_⟩
    rcases z4 with ⟨j, val, rfl, rfl⟩ | ⟨rfl, zv, z5, rfl⟩
    ·simp only [Instr.lookup, Sem.run_bind, und_run hE hd, Result.andThen_ok, Sem.run_pure, getObj_run q5, z2, z3]
    ·simp only [Instr.lookup, Sem.run_bind, und_run hE hd, Result.andThen_ok, Sem.run_pure, getObj_run q5, z2, z3, z5]
 ·cases h
end
/-- an operation that reads: in this world -/
def ROk (E : Env) (ι : Io) (o : Oper) (ρ : Operand → Value) (w : World) (v : AV) : Prop := ∃ x, rel ι v x ∧ (execOp ρ o).run E.P w = .ok (.value x) w
theorem findBorn_ok {b : Nat} : ∀ {es : List AEnt} {i : Nat} {r : Nat × AEnt}, findBorn b es i = .ok r → i ≤ r.1 ∧ es[r.1 - i]? = some r.2 ∧ r.2.born = b ∧ ∀ j, j < r.1 - i → ∀ e, es[j]? = some e → e.born ≠ b
 | [], i, r, h => by simp [findBorn] at h
 | e :: es, i, r, h => by
  simp only [findBorn, beq_eq] at h
  by_cases hb : e.born = b
  ·simp only [hb, decide_true, cond_true] at h
   injection h with h; subst h
   refine ⟨Nat.le_refl _, by simp, hb, fun j hj => by simp at hj⟩
  ·simp only [hb, decide_false, cond_false] at h
   obtain ⟨h1, h2, h3, h4⟩ := findBorn_ok h
   refine ⟨by omega, by rw [show r.1 - i = (r.1 - (i + 1)) + 1 by omega, List.getElem?_cons_succ]; exact h2, h3, fun j hj e' he => ?_⟩
   cases j with
   | zero => simp at he; subst he; exact hb
   | succ j => exact h4 j (by omega) e' (by simpa using he)
theorem relE.get {ι : Io} : ∀ {es : List AEnt} {ms : List MapEntry}, relE ι es ms → ∀ (i : Nat) (e : AEnt), es[i]? = some e → ∃ m, ms[i]? = some m ∧ rel ι e.key m.key ∧ rel ι e.val m.val ∧ m.born = e.born
 | [], _, _, i, e, h => by simp at h
 | a :: es, _, ⟨m, ms, rfl, h1, h2, h3, h4⟩, 0, e, h => by simp at h; subst h; exact ⟨m, by simp, h1, h2, h3⟩
 | a :: es, _, ⟨m, ms, rfl, h1, h2, h3, h4⟩, i + 1, e, h => by
  obtain ⟨m', q1, q2⟩ := h4.get i e (by simpa using h)
  exact ⟨m', by simpa using q1, q2⟩
theorem relE.get' {ι : Io} {es : List AEnt} {ms : List MapEntry} (hr : relE ι es ms) (i : Nat) (m : MapEntry) (h : ms[i]? = some m) : ∃ e, es[i]? = some e ∧ rel ι e.key m.key ∧ rel ι e.val m.val ∧ m.born = e.born := by
 have hlt : i < es.length := by rw [← hr.length]; exact (List.getElem?_eq_some_iff.1 h).1
 obtain ⟨m', q1, q2⟩ := hr.get i _ (List.getElem?_eq_getElem hlt)
 rw [h] at q1; injection q1 with q1; subst q1
 exact ⟨_, List.getElem?_eq_getElem hlt, q2⟩
section
variable {E : Env} (hE : EnvOk E) {ι : Io} {fr : Fr} {ρ : Operand → Value} (H : ERel ι fr ρ) {o : Oper} {v : AV} {s : St} {w : World} (HR : HRel ι s w)
include hE H HR
theorem r_load {t : TypeId} {a : Operand} (ho : o.op = .load t a) (h : rLoad t a E fr s = .ok v) : ROk E ι o ρ w v := by
 unfold rLoad at h
 split at h
 ·rename_i p hp
  obtain ⟨y, hy, hrun⟩ := aload_run hE HR h (H _ _ hp)
  refine ⟨y, hy, ?_⟩
  simp only [execOp, ho, Sem.run_bind, hrun, Result.andThen_ok]; rfl
 ·cases h
theorem ael_ok {x : Operand} {f : AV → R AV} (h : ael fr x f = .ok v) : ∃ p, aev fr x = .ok p ∧ rel ι p (ρ x) ∧ f p = .ok v := by
 unfold ael at h
 split at h
 ·rename_i p hp; exact ⟨p, hp, H _ _ hp, h⟩
 ·cases h
theorem r_lookup {t : TypeId} {x i : Operand} {ok : Bool} (ho : o.op = .lookup t x i ok) (h : rLookup t x i ok E fr s = .ok v) : ROk E ι o ρ w v := by
 unfold rLookup at h
 obtain ⟨p, _, hp, h⟩ := ael_ok hE H HR h
 obtain ⟨q, _, hq, h⟩ := ael_ok hE H HR h
 obtain ⟨y, hy, hrun⟩ := alookup_run hE HR h hp hq
 refine ⟨y, hy, ?_⟩
 simp only [execOp, ho, Sem.run_bind, hrun, Result.andThen_ok]; rfl
theorem r_entry {it : Operand} (ho : o.op = .entry it) (h : rEntry it E fr s = .ok v) : ROk E ι o ρ w v := by
 unfold rEntry at h
 obtain ⟨p, _, hp, h⟩ := ael_ok hE H HR h
 unfold aentry at h
 split at h
 ·rename_i r _
  split at h
  ·rename_i m since b seen stepped hk
   split at h
   ·rename_i es clock hm
    rw [R.cond_ok, beq_eq] at h
    obtain ⟨hc, h⟩ := h
    have hc := of_decide_eq_true hc
    subst hc
    cases hf : findBorn b es 0 with
    | err c => rw [hf] at h; cases h
    | ok re =>
     rw [hf] at h
     injection h with h; subst h
     obtain ⟨f1, f2, f3, f4⟩ := findBorn_ok hf
     obtain ⟨l, ob, q1, q2, q0, m', q3, l', q4, q5⟩ := HR.blk r _ hk
     subst q3 q5
     obtain ⟨lm, om, r1, r2, ms, r3, r4⟩ := HR.blk m _ hm
     subst r3
     rw [q4] at r1; injection r1 with r1; subst r1
     obtain ⟨lp, hlp, e⟩ := hp
     rw [q1] at hlp; injection hlp with hlp; subst hlp
     obtain ⟨mm, m1, m2, m3, m4⟩ := r4.get _ _ f2
     have hfind : ms.find? (fun e => e.born == b) = some mm := by
      rw [List.find?_eq_some_iff_getElem]
      have hlt := (List.getElem?_eq_some_iff.1 m1)
      obtain ⟨g1, g2⟩ := hlt
      refine ⟨by simp [m4, f3], re.1 - 0, g1, g2, fun j hj => ?_⟩
      have hj' : j < ms.length := by omega
      obtain ⟨e', e1, _, _, e4⟩ := r4.get' j _ (List.getElem?_eq_getElem hj')
      have := f4 j (by omega) e' e1
      simp [e4, this]
     refine ⟨.tuple #[mm.key, mm.val], ⟨[mm.key, mm.val], rfl, _, _, rfl, m2, _, _, rfl, m3, rfl⟩, ?_⟩
     have hg : (getObj l.b).run E.P w = .ok (.mapIter (some l'.b) since (List.toArray (b :: seen).reverse) clock) w := by simp [getObj, Sem.run, q2]
     have hback : (List.toArray (b :: seen).reverse).back? = some b := by simp
     simp only [execOp, ho, e, q0, Nat.add_zero]
     simp only [Instr.entry, Sem.run_bind, hg, Result.andThen_ok, hback, getObj_run r2, bne_self_eq_false, Bool.false_eq_true, if_false, List.find?_toArray, hfind]
     rfl
   ·cases h
  ·cases h
 ·cases h
theorem r_len {args : Array Operand} {ts : Array TypeId} (ho : o.op = .call { callee := .builtin .len, args, argTypes := ts }) (h : rLen args ts E fr s = .ok v) : ROk E ι o ρ w v := by
 unfold rLen at h
 split at h
 ·rename_i x hx
  obtain ⟨p, _, hp, h⟩ := ael_ok hE H HR h
  split at h
  ·rename_i r hr
   rw [R.cond_ok] at h
   obtain ⟨g, h⟩ := h
   injection h with h; subst h
   have ⟨t, kt, el, ht, hd⟩ : ∃ t kt el, ts[0]? = some t ∧ und E t = .ok (.map kt el) := by
    unfold undA at g
    cases ht : ts[0]? with
    | none => rw [ht] at g; cases g
    | some t =>
     rw [ht] at g
     simp only at g
     unfold isMp at g
     split at g
     ·rename_i a b he; exact ⟨t, a, b, rfl, he⟩
     ·cases g
   obtain ⟨l, ms, q1, q2, q3, q4, q5, q6⟩ := map_of HR hr hp
   have ea : args = #[x] := by apply Array.ext'; simpa using hx
   subst ea
   refine ⟨_, ⟨rfl, rfl⟩, ?_⟩
   have e0 : (#[x].map ρ) = #[ρ x] := by simp
   have el : (List.toArray ms).size = r.2.1.length := by simp [q6.length]
   simp only [execOp, ho, resolve, invoke, builtin, e0, q3, Sem.run_bind, Sem.run_pure, Result.andThen_ok]
   simp only [Builtin.len_, ht, Sem.run_bind, und_run hE hd, Result.andThen_ok]
   have e1 : (#[Value.map (some l.b)] : Array Value)[0]? = some (.map (some l.b)) := by simp
   simp only [e1, Sem.run_bind, und_run hE hd, Result.andThen_ok, getObj_run q5, el]
   rfl
  ·cases h
 ·cases h
end
end Go.Ev
