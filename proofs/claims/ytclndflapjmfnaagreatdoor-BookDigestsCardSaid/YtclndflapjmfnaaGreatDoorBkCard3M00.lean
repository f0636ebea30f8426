/- Part of the proof of BookDigestsCardSaid. -/
import Derived.Tactics
import Derived.Orders
section
set_option linter.all false
set_option linter.unusedVariables false
namespace Go.Den
inductive Ex where
  | normal
  | exit (id : Nat)
  | ret
inductive LQ where
  | ready
  | busy
  | done (ex : Ex)

inductive CV where
  | v (x : Value)
  | agg (cs : List CV)
  | tup (vs : List CV)
  | ro (cs : List CV) (n : Nat)
  | rp (cs : List CV)
  | own (id off n sz : Nat)
  | op (id off : Nat)
  | cut (id off n sz : Nat)
  | owk (id off n c sz : Nat)
  | fn (f : FuncId) (caps : List CV)
  | mp (id : Nat)
  | fr (cs : List CV) (n : Nat) (e : TypeId) (sz : Nat)
  | ifc (t : TypeId) (c : CV)
  | yd (id : Nat)
  | lpc (f : FuncId) (ps : List Tmp) (as b : Code) (q : LQ)
  | junk

def constC : Value → CV
  | .agg cs => .agg (cs.toList.map .v)
  | x => .v x

structure Row where
  cells : List CV
  e : TypeId
  sz : Nat
  live : Bool

inductive Blk where
  | dead
  | row (r : Row)

abbrev Hp := List Blk

def getRow (H : Hp) (id : Nat) : Option Row := match H[id]? with | some (.row r) => some r | _ => none
def getR (H : Hp) (id : Nat) : Option Row := match H[id]? with | some (.row r) => if r.sz = 0 then none else some r | _ => none
def getM (H : Hp) (id : Nat) : Option Row := match H[id]? with | some (.row r) => if r.sz = 0 ∧ r.e = 0 then some r else none | _ => none
def getL (H : Hp) (id : Nat) : Option (FuncId × List Tmp × Code × Code × LQ × List CV) := match H[id]? with
  | some (.row ⟨.lpc f ps as b q :: s, 1, 0, true⟩) => some (f, ps, as, b, q, s)
  | _ => none
def yId : FuncId := 1000000007

inductive TK where
  | int (k : IntKind) | bool | str
  | struct (fs : List (Nat × TypeId)) (plain : Bool)
  | array (n : Nat) (e : TypeId)
  | slice (e : TypeId)
  | ptr | func
  | map (k v : TypeId)
  | iface
  | other
structure TI where
  k : TK
  sz : Nat
  by_ : Nat
  zero : List CV
  zv : CV
def kindOf (P : Program) (t : TypeId) : TypeDesc → TK
  | .int k => .int k
  | .bool => .bool
  | .string => .str
  | .struct fs => .struct (fs.toList.map fun f => (f.offset, f.type)) (!P.stoodInHeld t && fs.toList.all fun f => f.name != "_")
  | .array n e => .array n e
  | .slice e => .slice e
  | .pointer _ => .ptr
  | .func _ _ _ => .func
  | .map k v => .map k v
  | .interface _ => .iface
  | _ => .other
def tyOf (P : Program) (t : TypeId) : Option TI := match P.info? t with
  | some inf => match inf.zero, P.underlying t with
    | some z, some d => some ⟨kindOf P t d, inf.size, inf.bytes, z.cells.toList.map CV.v, constC z⟩
    | _, _ => none
  | none => none

structure Env where
  ty : TypeId → Option TI
  code : FuncId → Option Func
  prim : FuncId → Option (List CV → Hp → Option (CV × Hp))
  primR : FuncId → Bool
  inl : FuncId → Bool
  frz : FuncId → Bool
  frr : FuncId → Bool
  rgf : FuncId → Bool
  keep : FuncId → Nat → Option (List Nat)
  glob : Nat → Option (List CV)
  meth : TypeId → String → Option FuncId := fun _ _ => none
  onc : FuncId → Bool := fun _ => false

structure St where
  s : List CV
  h : Hp

def valLeaf : Value → Bool
  | .agg _ | .tuple _ => false
  | _ => true

def CV.leaf : CV → Bool
  | .v x => valLeaf x
  | .ro _ _ | .rp _ | .own _ _ _ _ | .cut _ _ _ _ | .owk _ _ _ _ _ | .op _ _ | .fn _ _ | .mp _ | .ifc _ _ | .yd _ => true
  | _ => false
def CV.lo : CV → CV
  | .owk id off n _ sz => .own id off n sz
  | c => c
def CV.flat : CV → Bool
  | .v _ | .junk => true
  | _ => false

def CV.cells : CV → List CV
  | .agg cs => cs
  | c => [c]

def evalO (E : Env) (s : List CV) : Operand → Option CV
  | .tmp t => s[t]?
  | .const x => some (constC x)
  | .func f => if f = yId then none else some (.fn f [])
  | .global g => (E.glob g).map CV.rp

def omap {α β : Type} (f : α → Option β) : List α → Option (List β)
  | [] => some []
  | a :: l => match f a with
    | some b => match omap f l with
      | some bs => some (b :: bs)
      | none => none
    | none => none
def scal : Sem Value → Option CV
  | .pure x => some (.v x)
  | _ => none

def kT (E : Env) (t : TypeId) : Option TK := match E.ty t with | some i => some i.k | none => none
def sizeT (E : Env) (t : TypeId) : Option Nat := (E.ty t).map (·.sz)
def isAggT (E : Env) (t : TypeId) : Option Bool := match E.ty t with
  | some i => match i.k with | .struct _ _ | .array _ _ => some true | _ => some false
  | none => none
def loadC (E : Env) (t : TypeId) (cs : List CV) : Option CV := match E.ty t with
  | some i => match i.k with
    | .struct _ _ | .array _ _ => if i.sz ≤ cs.length then some (.agg (cs.take i.sz)) else none
    | _ => cs.head?
  | none => none

def repCells (zero : List CV) : Nat → List CV
  | 0 => []
  | n + 1 => zero ++ repCells zero n

def splice (cs : List CV) (o : Nat) (xs : List CV) : List CV := cs.take o ++ xs ++ cs.drop (o + xs.length)

def eqCells : List TK → List CV → List CV → Option Bool
  | [], [], [] => some true
  | .int _ :: ks, .v (.int k a) :: xs, .v (.int k' b) :: ys => if k = k' then (match eqCells ks xs ys with | some r => some (a == b && r) | none => none) else none
  | .str :: ks, .v (.string a) :: xs, .v (.string b) :: ys => match eqCells ks xs ys with | some r => some (a == b && r) | none => none
  | .bool :: ks, .v (.bool a) :: xs, .v (.bool b) :: ys => match eqCells ks xs ys with | some r => some (a == b && r) | none => none
  | _, _, _ => none

def placesC (E : Env) (fs : List (Nat × TypeId)) : Option (List (Nat × Nat)) := omap (fun f => match sizeT E f.2 with | some n => some (f.1, n) | none => none) fs

def fillC (place : Nat → Option (Nat × Nat)) (cells : List CV) : List (Nat × CV) → Option (List CV)
  | [] => some cells
  | (i, x) :: rest => match place i with
    | none => none
    | some (off, size) =>
      if x.cells.length = size ∧ off + size ≤ cells.length ∧ x.cells.all CV.leaf = true then fillC place (splice cells off x.cells) rest else none

def asInt64 : CV → Option Int
  | .v (.int _ n) => some n
  | _ => none
def boundC (x : Option CV) (dflt most : Nat) : Option Nat := match x with
  | none => some dflt
  | some (.v (.int _ n)) => if 0 ≤ n ∧ n ≤ most then some n.toNat else none
  | some _ => none

def evalOpt (E : Env) (s : List CV) : Option Operand → Option (Option CV)
  | none => some none
  | some x => (evalO E s x).map some

def sliceC (E : Env) (t : TypeId) (x : CV) (lo hi mx : Option CV) (H : Hp) : Option CV := if mx.isSome = true ∧ hi.isSome = false then none else match E.ty t with
  | some i => match i.k, x with
    | .str, .v (.string b) => match mx, boundC hi b.size b.size with
      | none, some h => match boundC lo 0 h with
        | some l => some (.v (.string (b.extract l h)))
        | none => none
      | _, _ => none
    | .slice e, .v (.slice none 0 0) => match sizeT E e, boundC mx 0 0 with
      | some sz, some m => match boundC hi 0 m with
        | some h => match boundC lo 0 h with
          | some _ => some (.v (.slice none 0 0))
          | none => none
        | none => none
      | _, _ => none
    | .slice e, .ro cs n => match sizeT E e, mx, boundC hi n n with
      | some sz, none, some h => match boundC lo 0 h with
        | some l => if n * sz = cs.length then some (.ro ((cs.drop (l * sz)).take ((h - l) * sz)) (h - l)) else none
        | none => none
      | some sz, some y, _ => match boundC (some y) n n with
        | some m => match boundC hi n m with
          | some h => match boundC lo 0 h with
            | some l => if m = l then some (.cut 0 0 0 sz) else none
            | none => none
          | none => none
        | none => none
      | _, _, _ => none
    | .slice e, .own id off n sz => match sizeT E e with
      | some sz' => if sz' = sz then match boundC mx n n with
          | some m => match boundC hi n m with
            | some h => match boundC lo 0 h with
              | some l => if mx.isSome = true ∧ h = m then some (.cut id (off + l * sz) (h - l) sz) else some (.own id (off + l * sz) (h - l) sz)
              | none => none
            | none => none
          | none => none
        else none
      | none => none
    | .slice e, .owk id off n k sz => match sizeT E e with
      | some sz' => if sz' = sz then match boundC mx k k with
          | some m => match boundC hi n m with
            | some h => match boundC lo 0 h with
              | some l => some (.owk id (off + l * sz) (h - l) (m - l) sz)
              | none => none
            | none => none
          | none => none
        else none
      | none => none
    | .array n e, .op id off => match sizeT E e, boundC mx n n with
      | some sz, some m => match boundC hi n m with
        | some h => match boundC lo 0 h with
          | some l => match getR H id with
            | some r => if off + n * sz ≤ r.cells.length ∧ n ≤ 9223372036854775807 then some (.own id (off + l * sz) (h - l) sz) else none
            | none => none
          | none => none
        | none => none
      | _, _ => none
    | _, _ => none
  | none => none
def elemsC0 (sz : Nat) (H : Hp) : CV → Option (Nat × List CV)
  | .v (.slice none 0 0) => some (0, [])
  | .ro cs n => if n * sz = cs.length then some (n, cs) else none
  | .own id off n sz' => if sz' = sz then match getR H id with
      | some r => if off + n * sz ≤ r.cells.length then some (n, (r.cells.drop off).take (n * sz)) else none
      | none => none
    else none
  | .cut id off n sz' => if n = 0 then some (0, []) else if sz' = sz then match getR H id with
      | some r => if off + n * sz ≤ r.cells.length then some (n, (r.cells.drop off).take (n * sz)) else none
      | none => none
    else none
  | _ => none

def elemsC (sz : Nat) (H : Hp) (y : CV) : Option (Nat × List CV) := elemsC0 sz H y.lo

def bytesC (b : ByteArray) : List CV := b.data.toList.map fun x => .v (.int .u8 x.toNat)

def appendC0 (E : Env) (argTypes : Array TypeId) (x y : CV) (H : Hp) : Option (CV × Hp) :=
  match argTypes[0]?, argTypes[1]? with
  | some t, some t2 => match E.ty t with
    | some i => match i.k with
      | .slice e => match E.ty e with
        | some j => if 0 < j.sz ∧ t2 = t ∧ j.zero.length = j.sz ∧ argTypes.size = 2 then match elemsC j.sz H y with
            | some (m, new) => match x with
              | .v (.slice none 0 0) =>
                if m = 0 then some (x, H)
                else if m ≤ 9223372036854775807 ∧ m * j.by_ ≤ 140737488355328 ∧ new.all CV.leaf = true then some (.own H.length 0 m j.sz, H ++ [.row ⟨new, e, j.sz, true⟩])
                else none
              | .own id off n sz => match getR H id with
                | some r => if sz = j.sz ∧ r.e = e ∧ r.live = true ∧ n * sz = r.cells.length ∧ off = 0 then
                    if m = 0 then some (x, H)
                    else if n + m ≤ 9223372036854775807 ∧ (n + m) * j.by_ ≤ 140737488355328 ∧ new.all CV.leaf = true then some (.own H.length 0 (n + m) sz, H.set id .dead ++ [.row ⟨r.cells ++ new, e, sz, true⟩])
                    else none
                  else if sz = j.sz ∧ r.e = e ∧ r.live = true ∧ n * sz < r.cells.length ∧ off = 0 then
                    if m = 0 then some (x, H)
                    else if n + m ≤ 9223372036854775807 ∧ (n + m) * j.by_ ≤ 140737488355328 ∧ new.all CV.leaf = true then some (.own H.length 0 (n + m) sz, H.set id .dead ++ [.row ⟨r.cells.take (n * sz) ++ new, e, sz, true⟩])
                    else none
                  else none
                | none => none
              | .owk id off n k sz => match getR H id with
                | some r => if sz = j.sz ∧ r.e = e ∧ r.live = true ∧ n * sz ≤ r.cells.length ∧ off = 0 then
                    if m = 0 then some (x, H)
                    else if n + m ≤ k then
                      if (n + m) * sz ≤ r.cells.length ∧ new.all CV.leaf = true then some (.owk id 0 (n + m) k sz, H.set id (.row { r with cells := splice r.cells (n * sz) new }))
                      else none
                    else if n + m ≤ 9223372036854775807 ∧ (n + m) * j.by_ ≤ 140737488355328 ∧ new.all CV.leaf = true then some (.own H.length 0 (n + m) sz, H ++ [.row ⟨r.cells.take (n * sz) ++ new, e, sz, true⟩])
                    else none
                  else none
                | none => none
              | .cut id off n sz => match elemsC j.sz H x with
                | some (n', old) => if sz = j.sz ∧ n' = n ∧ old.length = n * j.sz then
                    if m = 0 then some (x, H)
                    else if n + m ≤ 9223372036854775807 ∧ (n + m) * j.by_ ≤ 140737488355328 ∧ new.all CV.leaf = true then some (.own H.length 0 (n + m) sz, H ++ [.row ⟨old ++ new, e, sz, true⟩])
                    else none
                  else none
                | none => none
              | _ => none
            | none => none
          else none
        | none => none
      | _ => none
    | none => none
  | _, _ => none
def appendZ (E : Env) (argTypes : Array TypeId) (x y : CV) (H : Hp) : Option (CV × Hp) :=
  match argTypes[0]?, y with
  | some t, .v (.int _ l) => match E.ty t with
    | some i => match i.k with
      | .slice e => match E.ty e with
        | some j => if 0 < j.sz ∧ j.zero.length = j.sz ∧ argTypes.size = 2 ∧ 0 ≤ l ∧ l ≤ 9223372036854775807 then match x with
            | .v (.slice none 0 0) => if l = 0 then some (x, H)
              else if l.toNat * j.by_ ≤ 140737488355328 then some (.own H.length 0 l.toNat j.sz, H ++ [.row ⟨repCells j.zero l.toNat, e, j.sz, true⟩])
              else none
            | .owk id off n k sz => match getR H id with
              | some r => if sz = j.sz ∧ r.e = e ∧ n * sz ≤ r.cells.length ∧ off = 0 ∧ k < n + l.toNat ∧ n + l.toNat ≤ 9223372036854775807 ∧ (n + l.toNat) * j.by_ ≤ 140737488355328 then
                  some (.own H.length 0 (n + l.toNat) sz, H ++ [.row ⟨r.cells.take (n * sz) ++ repCells j.zero l.toNat, e, sz, true⟩])
                else none
              | none => none
            | _ => none
          else none
        | none => none
      | _ => none
    | none => none
  | _, _ => none
def intT (E : Env) (ts : Array TypeId) : Bool := match ts[1]? with
  | some t => (match E.ty t with
    | some i => (match i.k with
      | .int _ => true
      | _ => false)
    | none => false)
  | none => false
def strT (E : Env) (ts : Array TypeId) : Bool := match ts[1]? with
  | some t => (match E.ty t with
    | some i => (match i.k with
      | .str => true
      | _ => false)
    | none => false)
  | none => false
def appendS (E : Env) (argTypes : Array TypeId) (x y : CV) (H : Hp) : Option (CV × Hp) :=
  match argTypes[0]?, y with
  | some t, .v (.string b) => match E.ty t with
    | some i => match i.k with
      | .slice e => match E.ty e with
        | some j => if j.sz = 1 ∧ j.by_ = 1 ∧ j.zero.length = 1 ∧ argTypes.size = 2 then match x with
            | .v (.slice none 0 0) => if b.size = 0 then some (x, H)
              else if b.size ≤ 140737488355328 then some (.own H.length 0 b.size 1, H ++ [.row ⟨bytesC b, e, 1, true⟩])
              else none
            | .own id off n sz => match getR H id with
              | some r => if sz = 1 ∧ r.e = e ∧ r.live = true ∧ n = r.cells.length ∧ off = 0 then
                  if b.size = 0 then some (x, H)
                  else if n + b.size ≤ 140737488355328 then some (.own H.length 0 (n + b.size) 1, H.set id .dead ++ [.row ⟨r.cells ++ bytesC b, e, 1, true⟩])
                  else none
                else none
              | none => none
            | _ => none
          else none
        | none => none
      | _ => none
    | none => none
  | _, _ => none
def appendC (E : Env) (argTypes : Array TypeId) (x y : CV) (H : Hp) : Option (CV × Hp) := if intT E argTypes then appendZ E argTypes x y H else if strT E argTypes then appendS E argTypes x y H else appendC0 E argTypes x y H

def copyC0 (E : Env) (argTypes : Array TypeId) (x y : CV) (H : Hp) : Option (CV × Hp) :=
  match argTypes[0]?, argTypes[1]? with
  | some t, some t2 => match E.ty t, E.ty t2 with
    | some i, some i2 => match i.k, i2.k with
      | .slice e, .slice e2 => match E.ty e with
        | some j => if 0 < j.sz ∧ e2 = e then match elemsC j.sz H y, x with
            | some (m, new), .own id off n sz => match getR H id with
              | some r => if sz = j.sz ∧ r.live = true ∧ off + n * sz ≤ r.cells.length ∧ (new.take (min n m * sz)).all CV.leaf = true then
                  some (.v (.int .i64 (min n m : Nat)), H.set id (.row { r with cells := splice r.cells off (new.take (min n m * sz)) }))
                else none
              | none => none
            | _, _ => none
          else none
        | none => none
      | _, _ => none
    | _, _ => none
  | _, _ => none

def copyC (E : Env) (argTypes : Array TypeId) (x y : CV) (H : Hp) : Option (CV × Hp) := copyC0 E argTypes x.lo y H
def clearC0 (E : Env) (t : TypeId) (x : CV) (H : Hp) : Option (CV × Hp) := match E.ty t with
  | some i => match i.k with
    | .slice e => match E.ty e with
      | some j => match x with
        | .own id off n sz => match getR H id with
          | some r => if sz = j.sz ∧ 0 < j.sz ∧ j.zero.length = j.sz ∧ r.live = true ∧ off + n * sz ≤ r.cells.length ∧ j.zero.all CV.leaf = true then
              some (.v undef, H.set id (.row { r with cells := splice r.cells off (repCells j.zero n) }))
            else none
          | none => none
        | _ => none
      | none => none
    | _ => none
  | none => none
def clearC (E : Env) (t : TypeId) (x : CV) (H : Hp) : Option (CV × Hp) := clearC0 E t x.lo H

def lenC0 (E : Env) (t : TypeId) (x : CV) : Option CV := match E.ty t with
  | some i => match i.k, x with
    | .str, .v (.string b) => some (.v (.int .i64 b.size))
    | .slice _, .v (.slice none 0 0) => some (.v (.int .i64 0))
    | .slice _, .ro _ n => some (.v (.int .i64 n))
    | .slice _, .own _ _ n _ => some (.v (.int .i64 n))
    | .slice _, .cut _ _ n _ => some (.v (.int .i64 n))
    | .array n _, _ => some (.v (.int .i64 n))
    | _, _ => none
  | none => none

def lenC (E : Env) (t : TypeId) (x : CV) : Option CV := lenC0 E t x.lo
def capC (E : Env) (t : TypeId) (x : CV) : Option CV := match E.ty t with
  | some i => match i.k, x with
    | .slice _, .v (.slice none 0 0) => some (.v (.int .i64 0))
    | .slice _, .owk _ _ _ c _ => some (.v (.int .i64 c))
    | _, _ => none
  | none => none
def kindsOf (E : Env) (fs : List (Nat × TypeId)) : Option (List TK) :=
  if fs.map (·.1) = List.range fs.length then omap (fun f => kT E f.2) fs else none
def nilC : TK → CV → Option Bool
  | .slice _, .v (.slice none 0 0) => some true
  | .slice _, .ro _ _ | .slice _, .own _ _ _ _ | .slice _, .cut _ _ _ _ | .slice _, .owk _ _ _ _ _ => some false
  | .ptr, .v (.pointer none) => some true
  | .ptr, .op _ _ | .ptr, .rp _ => some false
  | .func, .v .nilFunc => some true
  | .func, .fn _ _ => some false
  | .map _ _, .v (.map none) => some true
  | .map _ _, .mp _ => some false
  | .iface, .v .nilIface => some true
  | .iface, .ifc _ _ => some false
  | _, _ => none

def isNilV : CV → Bool
  | .v (.slice none 0 0) | .v (.pointer none) | .v .nilFunc | .v (.map none) | .v .nilIface => true
  | _ => false
def nilCmp (E : Env) (op : BinOp) (t : TypeId) (x y : CV) : Option CV := match kT E t with
  | some k => match op, nilC k y, nilC k x with
    | .eql, some true, some b => some (.v (.bool b))
    | .neq, some true, some b => some (.v (.bool (!b)))
    | _, _, _ => none
  | none => none

def binC (E : Env) (op : BinOp) (t : TypeId) (x y : CV) : Option CV := if isNilV y then nilCmp E op t x y else if isNilV x then nilCmp E op t y x else match x, y with
  | .v (.int k a), .v (.int k' b) => scal (binOp op t (.int k a) (.int k' b))
  | .v (.string a), .v (.string b) => scal (binOp op t (.string a) (.string b))
  | .v (.bool a), .v (.bool b) => match op, kT E t with
    | .eql, some .bool => some (.v (.bool (a == b)))
    | .neq, some .bool => some (.v (.bool (!(a == b))))
    | _, _ => none
  | .agg xs, .agg ys => match op, kT E t with
    | .eql, some (.struct fs true) => match kindsOf E fs with
      | some ks => (eqCells ks xs ys).map (fun b => .v (.bool b))
      | none => none
    | .neq, some (.struct fs true) => match kindsOf E fs with
      | some ks => (eqCells ks xs ys).map (fun b => .v (.bool (!b)))
      | none => none
    | _, _ => none
  | _, _ => none

def constO : Operand → Bool
  | .const _ => true
  | _ => false
def isNI : CV → Bool
  | .v .nilIface => true
  | _ => false
def binO (E : Env) (op : BinOp) (t : TypeId) (x y : Operand) (a b : CV) : Option CV := match isNI a, isNI b, constO x || constO y with
  | true, true, false => none
  | _, _, _ => binC E op t a b

def convC (E : Env) (src dst : TypeId) (x : CV) : Option CV := match kT E src, kT E dst, x with
  | some (.int _), some (.int k), .v (.int _ n) => some (.v (.int k (k.wrap n)))
  | some .str, some .str, .v (.string b) => some (.v (.string b))
  | _, _, _ => none
def strOfC : List CV → Option (List Int)
  | [] => some []
  | .v (.int .u8 n) :: l => match strOfC l with
    | some ns => some (n :: ns)
    | none => none
  | _ => none
def mkStr (ns : List Int) : ByteArray := ⟨(ns.map fun n => UInt8.ofNat n.toNat).toArray⟩
def cvH (E : Env) (src dst : TypeId) : Bool := match kT E src, kT E dst with
  | some (.slice _), some .str => true
  | some .str, some (.slice _) => true
  | _, _ => false
def convS (E : Env) (src dst : TypeId) (x : CV) (H : Hp) : Option CV := match kT E src, kT E dst with
  | some (.slice e), some .str => match kT E e with
    | some (.int .u8) => match elemsC 1 H x with
      | some (_, cs) => match strOfC cs with
        | some ns => some (.v (.string (mkStr ns)))
        | none => none
      | none => none
    | _ => none
  | some .str, some (.slice e) => match kT E e, x with
    | some (.int .u8), .v (.string b) => if b.size ≤ 140737488355328 then some (.ro (bytesC b) b.size) else none
    | _, _ => none
  | _, _ => none
def convA (E : Env) (src dst : TypeId) (x : CV) (H : Hp) : Option CV := if cvH E src dst then convS E src dst x H else convC E src dst x

def fieldC (E : Env) (t : TypeId) (f : Nat) : Option (Nat × TypeId) := match E.ty t with
  | some i => match i.k with
    | .struct fs _ => fs[f]?
    | _ => none
  | none => none

def addrAdd (x : CV) (n : Nat) : Option CV := match x with
  | .op id off => some (.op id (off + n))
  | .rp cs => some (.rp (cs.drop n))
  | _ => none

def indexAddrC0 (E : Env) (t : TypeId) (x ix : CV) : Option CV := match E.ty t, ix with
  | some i, .v (.int _ n) => match i.k, x with
    | .slice e, .ro cs m => match sizeT E e with
      | some sz => if 0 ≤ n ∧ n < m ∧ n.toNat * sz < cs.length then some (.rp (cs.drop (n.toNat * sz))) else none
      | none => none
    | .slice e, .own id off m sz => match sizeT E e with
      | some sz' => if sz' = sz ∧ 0 < sz ∧ 0 ≤ n ∧ n < m then some (.op id (off + n.toNat * sz)) else none
      | none => none
    | .array m e, x => match sizeT E e with
      | some sz => if 0 ≤ n ∧ n < m then addrAdd x (n.toNat * sz) else none
      | none => none
    | _, _ => none
  | _, _ => none

def indexAddrC (E : Env) (t : TypeId) (x ix : CV) : Option CV := indexAddrC0 E t x.lo ix

def indexC (E : Env) (t : TypeId) (x ix : CV) : Option CV := match E.ty t, ix with
  | some i, .v (.int _ n) => match i.k, x with
    | .str, .v (.string b) => if 0 ≤ n then match b[n.toNat]? with
        | some c => some (.v (.int .u8 c.toNat))
        | none => none
      else none
    | .array m e, .agg cs => match E.ty e with
      | some j => if 0 ≤ n ∧ n < m then loadC E e (cs.drop (n.toNat * j.sz)) else none
      | none => none
    | _, _ => none
  | _, _ => none

def loadAt (E : Env) (t : TypeId) (a : CV) (H : Hp) : Option CV := match a with
  | .rp cs => loadC E t cs
  | .op id off => match getR H id with
    | some r => loadC E t (r.cells.drop off)
    | none => none
  | _ => none

def storeAt (E : Env) (t : TypeId) (a x : CV) (H : Hp) : Option Hp := match a with
  | .op id off => match getR H id, sizeT E t with
    | some r, some sz => if r.live = true ∧ x.cells.length = sz ∧ off + sz ≤ r.cells.length ∧ x.cells.all CV.leaf = true then
        some (H.set id (.row { r with cells := splice r.cells off x.cells }))
      else none
    | _, _ => none
  | _ => none
def isKeyC : TK → CV → Bool
  | .int k, .v (.int k' _) => k' = k
  | .str, .v (.string _) => true
  | .bool, .v (.bool _) => true
  | _, _ => false
def keyEqC : CV → CV → Bool
  | .v (.int _ a), .v (.int _ b) => a == b
  | .v (.string a), .v (.string b) => a == b
  | .v (.bool a), .v (.bool b) => a == b
  | _, _ => false
def keysOk (k : TK) : List CV → Bool
  | [] => true
  | y :: _ :: l => isKeyC k y && keysOk k l
  | _ => false
def findM (x : CV) : List CV → Nat → Option Nat
  | y :: _ :: l, i => if keyEqC x y then some i else findM x l (i + 1)
  | _, _ => none
def mapCells (H : Hp) : CV → Option (List CV)
  | .v (.map none) => some []
  | .mp id => (getM H id).map (·.cells)
  | _ => none
def mapT (E : Env) (t : TypeId) : Option (TK × TypeId) := match E.ty t with
  | some i => match i.k with
    | .map k v => match kT E k with
      | some kk => some (kk, v)
      | none => none
    | _ => none
  | none => none

def lookupC (E : Env) (t : TypeId) (x k : CV) (ok : Bool) (H : Hp) : Option CV := match mapT E t, mapCells H x with
  | some (kk, vt), some cs => if isKeyC kk k = true ∧ keysOk kk cs = true then match findM k cs 0 with
      | some j => match cs[2 * j + 1]? with
        | some v => some (if ok then .tup [v, .v (.bool true)] else v)
        | none => none
      | none => match E.ty vt with
        | some i => some (if ok then .tup [i.zv, .v (.bool false)] else i.zv)
        | none => none
    else none
  | _, _ => none

def updateC (E : Env) (t : TypeId) (x k v : CV) (H : Hp) : Option Hp := match mapT E t, x with
  | some (kk, _), .mp id => match getM H id with
    | some r => if r.live = true ∧ isKeyC kk k = true ∧ keysOk kk r.cells = true then match findM k r.cells 0 with
        | some j => some (H.set id (.row { r with cells := r.cells.set (2 * j + 1) v }))
        | none => some (H.set id (.row { r with cells := r.cells ++ [k, v] }))
      else none
    | none => none
  | _, _ => none

def deleteC (E : Env) (t : TypeId) (x k : CV) (H : Hp) : Option Hp := match mapT E t, x with
  | some (kk, _), .mp id => match getM H id with
    | some r => if r.live = true ∧ isKeyC kk k = true ∧ keysOk kk r.cells = true then match findM k r.cells 0 with
        | some j => some (H.set id (.row { r with cells := r.cells.take (2 * j) ++ r.cells.drop (2 * j + 2) }))
        | none => some H
      else none
    | none => none
  | _, _ => none

def makeSliceC (E : Env) (t : TypeId) (n c : CV) (H : Hp) : Option (CV × Hp) := match E.ty t, n, c with
  | some i, .v (.int _ n), .v (.int _ c) => match i.k with
    | .slice e => match E.ty e with
      | some j => if 0 ≤ n ∧ n ≤ c ∧ c ≤ 9223372036854775807 ∧ j.by_ * c.toNat ≤ 140737488355328 ∧ 0 < j.sz ∧ j.zero.length = j.sz then
          some (.own H.length 0 n.toNat j.sz, H ++ [.row ⟨repCells j.zero n.toNat, e, j.sz, true⟩])
        else none
      | none => none
    | _ => none
  | _, _, _ => none

def minmaxC (mx : Bool) : List CV → Option CV
  | [.v (.int k a), .v (.int k' b)] => if k = k' then some (.v (.int k (if mx then (if a < b then b else a) else (if b < a then b else a)))) else none
  | _ => none

def builtinC (E : Env) (b : Builtin) (argTypes : Array TypeId) (args : List CV) (H : Hp) : Option (CV × Hp) := match b, args with
  | .len, [x] => match argTypes[0]? with
    | some t => match x with
      | .mp id => match getM H id, mapT E t with
        | some r, some _ => some (.v (.int .i64 (r.cells.length / 2 : Nat)), H)
        | _, _ => none
      | _ => (lenC E t x).map (fun r => (r, H))
    | none => none
  | .append, [x, y] => appendC E argTypes x y H
  | .copy, [x, y] => copyC E argTypes x y H
  | .cap, [x] => match argTypes[0]? with
    | some t => (capC E t x).map (fun r => (r, H))
    | none => none
  | .clear, [x] => match argTypes[0]? with
    | some t => clearC E t x H
    | none => none
  | .delete, [x, y] => match argTypes[0]? with
    | some t => (deleteC E t x y H).map (fun H' => (.v undef, H'))
    | none => none
  | .min, [x, y] => (minmaxC false [x, y]).map (fun r => (r, H))
  | .max, [x, y] => (minmaxC true [x, y]).map (fun r => (r, H))
  | _, _ => none

def newRowC (cells : List CV) (e : TypeId) (sz : Nat) (H : Hp) : Option (Nat × Hp) :=
  if cells.all CV.leaf = true ∧ 0 < sz then some (H.length, H ++ [.row ⟨cells, e, sz, true⟩]) else none

def ptrs : List (Nat × Operand) → (Operand → Option CV) → Option (List (Nat × CV))
  | [], _ => some []
  | (i, x) :: l, ev => match ev x, ptrs l ev with
    | some c, some r => some ((i, c) :: r)
    | _, _ => none
def stepOp (E : Env) (call : FuncId → List CV → Hp → Option (CV × Hp)) (o : Oper) (s : List CV) (H : Hp) : Option (CV × Hp) := match o.op with
  | .move x | .assign x => (evalO E s x).map (fun r => (r, H))
  | .pick c a b => match evalO E s c with
    | some (.v (.bool t)) => (evalO E s (if t then a else b)).map (fun r => (r, H))
    | _ => none
  | .alloc t => match E.ty t with
    | some i => (newRowC i.zero t i.sz H).map (fun r => (.op r.1 0, r.2))
    | none => none
  | .box t x => match evalO E s x, E.ty t with
    | some c, some i => if c.cells.length = i.sz then (newRowC c.cells t i.sz H).map (fun r => (.op r.1 0, r.2)) else none
    | _, _ => none
  | .build t parts => match E.ty t, ptrs parts.toList (evalO E s) with
    | some i, some ps => match i.k with
      | .struct fs _ => match placesC E fs with
        | some pl => (fillC (fun j => pl[j]?) i.zero ps).map (fun r => (.agg r, H))
        | none => none
      | .array _ e => match sizeT E e with
        | some sz => (fillC (fun j => some (j * sz, sz)) i.zero ps).map (fun r => (.agg r, H))
        | none => none
      | _ => none
    | _, _ => none
  | .buildSlice t len parts => match E.ty t, ptrs parts.toList (evalO E s) with
    | some i, some ps => match i.k with
      | .slice e => match E.ty e with
        | some j => if len * j.sz ≤ 16777216 ∧ j.zero.length = j.sz ∧ len ≤ 9223372036854775807 then match fillC (fun q => some (q * j.sz, j.sz)) (repCells j.zero len) ps with
            | some cs => (newRowC cs e j.sz H).map (fun r => (.own r.1 0 len j.sz, r.2))
            | none => none
          else none
        | none => none
      | _ => none
    | _, _ => none
  | .load t a => match evalO E s a with
    | some p => (loadAt E t p H).map (fun r => (r, H))
    | none => none
  | .store t a x => match evalO E s a, evalO E s x with
    | some p, some c => (storeAt E t p c H).map (fun H' => (.v undef, H'))
    | _, _ => none
  | .makeMap _ none => some (.mp H.length, H ++ [.row ⟨[], 0, 0, true⟩])
  | .lookup t x k ok => match evalO E s x, evalO E s k with
    | some a, some b => (lookupC E t a b ok H).map (fun r => (r, H))
    | _, _ => none
  | .mapUpdate t m k x | .insert t m k x => match evalO E s m, evalO E s k, evalO E s x with
    | some a, some b, some c => (updateC E t a b c H).map (fun H' => (.v undef, H'))
    | _, _, _ => none
  | .makeSlice t n c => match evalO E s n, evalO E s c with
    | some a, some b => makeSliceC E t a b H
    | _, _ => none
  | .nilCheck x => match evalO E s x with
    | some (.op id off) => some (.op id off, H)
    | some (.rp cs) => some (.rp cs, H)
    | _ => none
  | .binOp op t x y _ => match evalO E s x, evalO E s y with
    | some a, some b => (binO E op t x y a b).map (fun r => (r, H))
    | _, _ => none
  | .unOp op _ x => match evalO E s x with
    | some (.v a) => (scal (Op.unary op a)).map (fun r => (r, H))
    | _ => none
  | .convert src dst x => match evalO E s x with
    | some a => (convA E src dst a H).map (fun r => (r, H))
    | none => none
  | .makeInterface t x => match evalO E s x, kT E t with
    | some c, some k => match k with
      | .iface | .other => none
      | _ => some (.ifc t c, H)
    | _, _ => none
  | .makeFunc (.func f) first captured => if first.size = 0 ∧ ¬ f = yId then (omap (evalO E s) captured.toList).map (fun cs => (.fn f cs, H)) else none
  | .slice t x lo hi mx => match evalO E s x, evalOpt E s lo, evalOpt E s hi, evalOpt E s mx with
    | some a, some l, some h, some m => (sliceC E t a l h m H).map (fun r => (r, H))
    | _, _, _, _ => none
  | .fieldAddr t x f => match evalO E s x, fieldC E t f with
    | some a, some (off, ft) => match sizeT E ft with
      | some (_ + 1) => (addrAdd a off).map (fun r => (r, H))
      | _ => none
    | _, _ => none
  | .field t x f => match evalO E s x, fieldC E t f with
    | some (.agg cs), some (off, ft) => (loadC E ft (cs.drop off)).map (fun r => (r, H))
    | _, _ => none
  | .indexAddr t x ix => match evalO E s x, evalO E s ix with
    | some a, some i => (indexAddrC E t a i).map (fun r => (r, H))
    | _, _ => none
  | .index t x ix => match evalO E s x, evalO E s ix with
    | some a, some i => (indexC E t a i).map (fun r => (r, H))
    | _, _ => none
  | .extract x i => match evalO E s x with
    | some (.tup vs) => (vs[i]?).map (fun r => (r, H))
    | _ => none
  | .call c => match omap (evalO E s) c.args.toList with
    | some args => match c.callee with
      | .value f => match evalO E s f with
        | some (.fn g caps) => call g (args ++ caps) H
        | some (.yd id) => call yId (.yd id :: args) H
        | _ => none
      | .builtin b => builtinC E b c.argTypes args H
      | .invoke x m => match evalO E s x with
        | some (.ifc t q) => match E.meth t m with
          | some g => if g = yId then none else call g (q :: args) H
          | none => none
        | _ => none
    | none => none
  | _ => none

def St.put (st : St) (d : Option Tmp) (c : CV) (H : Hp) : St := match d with
  | some t => ⟨st.s.set t c, H⟩
  | none => ⟨st.s, H⟩
def wantedC (ops : Array Oper) (o : Oper) (s : List CV) : Option Bool := match o.guard with
  | none => some true
  | some (g, want) => match (ops[g]?).bind (·.dst) with
    | some t => match s[t]? with
      | some (.v (.bool b)) => some (b == want)
      | some (.v (.tuple _)) => some false
      | _ => none
    | none => none

def runList (E : Env) (call : FuncId → List CV → Hp → Option (CV × Hp)) (ops : Array Oper) : List Oper → St → Option St
  | [], st => some st
  | o :: l, st => match wantedC ops o st.s with
    | some true => match stepOp E call o st.s st.h with
      | some (c, H) => runList E call ops l (st.put o.dst c H)
      | none => none
    | some false => runList E call ops l (st.put o.dst (.v undef) st.h)
    | none => none

def firstRid : Code → Nat
  | .region id _ _ => id
  | .seq a _ => firstRid a
  | .cond _ a _ => firstRid a
  | .block _ b => firstRid b
  | .loop b => firstRid b
  | .scope b => firstRid b
  | _ => 0

def normS (ks : List Nat) : Nat → List CV → List CV
  | _, [] => []
  | i, c :: cs => (if ks.contains i then c else .junk) :: normS ks (i + 1) cs

def norm (E : Env) (f : FuncId) (b : Code) (st : St) : St := match E.keep f (firstRid b) with
  | some ks => ⟨normS ks 0 st.s, st.h⟩
  | none => st

def iter (g : St → Option (Ex × St)) : Nat → St → Option (Ex × St)
  | 0, _ => none
  | n + 1, st => match g st with
    | some (.normal, st') => iter g n st'
    | r => r
def rounds : Nat := 4194304
def isRf (E : Env) (f : FuncId) : Bool := match E.prim f with
  | some _ => E.primR f
  | none => !(E.inl f || E.frz f || E.onc f)
def isW (E : Env) (s : List CV) (o : Oper) : Bool := match o.op with
  | .store _ _ _ | .mapUpdate _ _ _ _ | .insert _ _ _ _ => true
  | .call c => match c.callee with
    | .value f => match evalO E s f with
      | some (.fn g _) => !isRf E g
      | _ => true
    | .builtin .len | .builtin .min | .builtin .max => false
    | _ => true
  | _ => false
inductive Cl where
  | pure
  | load (id off sz : Nat)
  | new (id : Nat)
  | read
  | store (id off sz : Nat)
  | turn (id : Nat)
  | write

def isP (E : Env) (o : Oper) : Bool := match o.op with
  | .convert src dst _ => !cvH E src dst
  | .move _ | .assign _ | .pick _ _ _ | .binOp _ _ _ _ _ | .unOp _ _ _ | .makeInterface _ _ | .fieldAddr _ _ _ | .field _ _ _ | .indexAddr _ _ _ | .index _ _ _ | .extract _ _ | .nilCheck _ | .makeFunc _ _ _ | .build _ _ => true
  | .call c => match c.callee with | .builtin .min | .builtin .max => true | _ => false
  | _ => false
def mayW (o : Oper) : Bool := match o.op with
  | .store _ _ _ | .mapUpdate _ _ _ _ | .insert _ _ _ _ => true
  | .call c => match c.callee with | .builtin .len | .builtin .min | .builtin .max => false | _ => true
  | _ => false

def turnsC : List CV → Nat → Cl
  | [.own id _ _ _, _], _ => .turn id
  | [.owk id _ _ _ _, _], _ => .turn id
  | [.mp id, _], _ => .turn id
  | [.v _, _], n => .turn n
  | [.cut _ _ _ _, _], n => .turn n
  | _, _ => .write

def clCall (E : Env) (c : Call) (s : List CV) (H : Hp) : Cl := match c.callee with
  | .builtin .append | .builtin .copy | .builtin .delete => match omap (evalO E s) c.args.toList with
    | some args => turnsC args H.length
    | none => .write
  | .builtin .len => match omap (evalO E s) c.args.toList with
    | some [.mp _] => .read
    | _ => .pure
  | .value f => match evalO E s f with
    | some (.fn g _) => if isRf E g then .read else .write
    | _ => .write
  | _ => .write

def clOf (E : Env) (o : Oper) (s : List CV) (H : Hp) : Cl := if isP E o then .pure else match o.op with
  | .slice _ x _ _ _ => match evalO E s x with
    | some (.op _ _) => .read
    | _ => .pure
  | .load t a => match evalO E s a, E.ty t with
    | some (.op id off), some i => .load id off (max i.sz 1)
    | some (.rp _), _ => .pure
    | _, _ => .read
  | .alloc _ | .box _ _ | .buildSlice _ _ _ | .makeMap _ _ | .makeSlice _ _ _ => .new H.length
  | .mapUpdate _ m _ _ | .insert _ m _ _ => match evalO E s m with
    | some (.mp id) => .turn id
    | _ => .write
  | .store t a _ => match evalO E s a, E.ty t with
    | some (.op id off), some i => .store id off i.sz
    | _, _ => .write
  | .call c => clCall E c s H
  | _ => .read
def runT (E : Env) (call : FuncId → List CV → Hp → Option (CV × Hp)) (ops : Array Oper) : List Oper → St → Option (List Cl × St)
  | [], st => some ([], st)
  | o :: l, st => match wantedC ops o st.s with
    | some true => match stepOp E call o st.s st.h with
      | some (c, H) => if st.h.length ≤ H.length then match runT E call ops l (st.put o.dst c H) with
          | some (cs, r) => some (clOf E o st.s st.h :: cs, r)
          | none => none
        else none
      | none => none
    | some false => match runT E call ops l (st.put o.dst (.v undef) st.h) with
      | some (cs, r) => some (.pure :: cs, r)
      | none => none
    | none => none

def ancOf (acc : List Nat) (o : Oper) : Nat := o.after.toList.foldl (fun s e => if Region.binds .any e then s ||| 2 ^ e.on ||| acc.getD e.on 0 else s) 0
def before (acc : List Nat) : List Oper → List Nat
  | [] => acc
  | o :: l => before (acc ++ [ancOf acc o]) l

def looks (ops : Array Oper) (o : Oper) : List Tmp :=
  (o.op.operands.toList.filterMap fun | .tmp t => some t | _ => none) ++
  (match o.guard with | some (g, _) => ((ops[g]?).bind (·.dst)).toList | none => [])
def apartS (ops : Array Oper) (oi ok : Oper) : Bool :=
  (match oi.dst with | some d => !(looks ops ok).contains d && ok.dst != some d | none => true) &&
  (match ok.dst with | some d => !(looks ops oi).contains d | none => true)

def allB {α : Type} (p : Nat → α → Bool) : Nat → List α → Bool
  | _, [] => true
  | i, a :: l => p i a && allB p (i + 1) l
def drawS (ops : Array Oper) : Bool :=
  Region.noSelect ops &&
  allB (fun k ok => (ok.after.toList.all fun e => !Region.binds .any e || decide (e.on < k)) &&
    allB (fun i oi => decide (k ≤ i) || ((before [] ops.toList).getD k 0).testBit i || apartS ops oi ok) 0 ops.toList) 0 ops.toList
def pairs (E : Env) (ops : Array Oper) : List (Nat × Nat) :=
  (List.range ops.size).flatMap fun k => (List.range k).filterMap fun i => match ops[i]?, ops[k]? with
    | some oi, some ok => if ((before [] ops.toList).getD k 0).testBit i || isP E oi || isP E ok || (!mayW oi && !mayW ok) then none else some (i, k)
    | _, _ => none

def Cl.wr : Cl → Bool
  | .store _ _ _ | .turn _ | .write => true
  | _ => false
def okPair : Cl → Cl → Bool
  | .pure, _ => true
  | _, .pure => true
  | .load i o s, .store j q t => i != j || decide (o + s ≤ q) || decide (q + t ≤ o)
  | .store j q t, .load i o s => i != j || decide (o + s ≤ q) || decide (q + t ≤ o)
  | .load i _ _, .turn j => i != j
  | .turn j, .load i _ _ => i != j
  | .new i, .store j _ _ => i != j
  | a, b => !a.wr && !b.wr

def drawOk (E : Env) (ops : Array Oper) (cs : List Cl) : Bool :=
  drawS ops && (pairs E ops).all fun p => okPair (cs.getD p.1 .write) (cs.getD p.2 .write)

def runC (E : Env) (call : FuncId → List CV → Hp → Option (CV × Hp)) (f : FuncId) : Code → St → Option (Ex × St)
  | .skip, st => some (.normal, st)
  | .label _, st => some (.normal, st)
  | .region _ ops draw, st => match draw with
    | false => (runList E call ops ops.toList st).map (fun r => (.normal, r))
    | true => match runT E call ops ops.toList st with
      | some (cs, r) => if drawOk E ops cs = true then some (.normal, r) else none
      | none => none
  | .seq a b, st => match runC E call f a st with
    | some (.normal, st') => runC E call f b st'
    | r => r
  | .cond c a b, st => match evalO E st.s c with
    | some (.v (.bool t)) => match t with
      | true => runC E call f a st
      | false => runC E call f b st
    | _ => none
  | .block id b, st => match runC E call f b st with
    | some (.exit i, st') => if i = id then some (.normal, st') else some (.exit i, st')
    | r => r
  | .loop b, st => iter (fun st' => runC E call f b (norm E f b st')) rounds st
  | .exit id, st => some (.exit id, st)
  | .ret, st => some (.ret, st)
  | .rangeFunc g ps as b, st => if E.rgf f = true then match evalO E st.s g with
      | some (.fn gf caps) => match call gf (.yd (st.h.length + 1) :: caps) (st.h ++ [.row ⟨[], 2, 0, true⟩, .row ⟨.lpc f ps.toList as b .ready :: st.s, 1, 0, true⟩]) with
        | some (_, H1) => match getL H1 (st.h.length + 1) with
          | some (_, _, _, _, q, _) => match q with
            | .ready => some (.normal, ⟨st.s, H1.set (st.h.length + 1) .dead⟩)
            | .done ex => some (ex, ⟨st.s, H1.set (st.h.length + 1) .dead⟩)
            | .busy => none
          | none => none
        | none => none
      | _ => none
    else none
  | _, _ => none

def resultC (E : Env) (st : St) : ResultVar → Option CV
  | .tmp t => some ((st.s[t]?).getD (.v undef))
  | .cell a t => match st.s[a]? with
    | some p => loadAt E t p st.h
    | none => none

def resultsC (E : Env) (fn : Func) (st : St) : Option (CV × Hp) := match omap (resultC E st) fn.results.toList with
  | some [c] => some (c, st.h)
  | some vs => some (.tup vs, st.h)
  | none => none
def snap (H : Hp) : Nat → CV → Option CV
  | 0, _ => none
  | k + 1, c => match c with
    | .v x => some (.v x)
    | .ro cs n => some (.ro cs n)
    | .cut _ _ n sz => if n = 0 then some (.cut 0 0 0 sz) else none
    | .agg cs => (omap (snap H k) cs).map .agg
    | .ifc t c => if c.flat = true then some (.ifc t c) else none
    | .own id off n sz => match getR H id with
      | some r => if off + n * sz ≤ r.cells.length then (omap (snap H k) ((r.cells.drop off).take (n * sz))).map (fun cs => .ro cs n) else none
      | none => none
    | _ => none
def ids (H : Hp) : Nat → CV → List Nat
  | 0, _ => []
  | k + 1, c => match c with
    | .agg cs => cs.flatMap (ids H k)
    | .tup cs => cs.flatMap (ids H k)
    | .own id off n sz => id :: (match getR H id with
      | some r => ((r.cells.drop off).take (n * sz)).flatMap (ids H k)
      | none => [])
    | _ => []

def depth : Nat := 8
def rel1 (H : Hp) : CV → Option CV
  | .v x => some (.v x)
  | .ro cs n => some (.ro cs n)
  | .cut _ _ n sz => if n = 0 then some (.cut 0 0 0 sz) else none
  | .ifc t c => if c.flat = true then some (.ifc t c) else none
  | .own id off n sz => match getR H id with
    | some r => if r.live = true ∧ off = 0 ∧ n * sz = r.cells.length ∧ 0 < sz then (omap (snap H depth) r.cells).map (fun cs => .fr cs n r.e sz) else none
    | none => none
  | _ => none

def relV (H : Hp) : CV → Option CV
  | .agg cs => (omap (rel1 H) cs).map .agg
  | c => rel1 H c

def rel (H : Hp) : CV → Option CV
  | .tup vs => (omap (relV H) vs).map .tup
  | c => relV H c

def flatR : CV → List CV
  | .agg cs => cs
  | .tup vs => vs.flatMap CV.cells
  | c => [c]

def tops : List CV → List Nat
  | [] => []
  | .own id _ _ _ :: l => id :: tops l
  | _ :: l => tops l

def nests (H : Hp) : List CV → List Nat
  | [] => []
  | .own id _ _ _ :: l => (match getR H id with | some r => r.cells.flatMap (ids H depth) | none => []) ++ nests H l
  | _ :: l => nests H l

def nodupB : List Nat → Bool
  | [] => true
  | a :: l => !l.contains a && nodupB l

def release (H : Hp) (r : CV) : Option CV :=
  if nodupB (tops (flatR r)) = true ∧ ((tops (flatR r)).all fun t => !(nests H (flatR r)).contains t) = true then rel H r else none
def vOnly : CV → Bool
  | .v _ => true
  | .ifc _ c => c.flat
  | .cut _ _ 0 _ => true
  | _ => false
def freshLeaf : CV → Bool
  | .v _ => true
  | .ifc _ c => c.flat
  | .cut _ _ 0 _ => true
  | .fr cs _ _ _ => cs.all vOnly
  | _ => false
def freshRes (r : CV) : Bool := (flatR r).all freshLeaf

def freeze (is : List Nat) : Nat → Hp → Hp
  | _, [] => []
  | i, b :: l => (if is.contains i then (match b with | .row r => .row { r with live := false } | d => d) else b) :: freeze is (i + 1) l

def inst1 (H : Hp) : CV → CV × Hp
  | .fr cs n e sz => (.own H.length 0 n sz, H ++ [.row ⟨cs, e, sz, true⟩])
  | c => (c, H)
def instL : Hp → List CV → List CV × Hp
  | H, [] => ([], H)
  | H, c :: cs => ((inst1 H c).1 :: (instL (inst1 H c).2 cs).1, (instL (inst1 H c).2 cs).2)
def inst2 (H : Hp) : CV → CV × Hp
  | .agg cs => (.agg (instL H cs).1, (instL H cs).2)
  | c => inst1 H c
def instL2 : Hp → List CV → List CV × Hp
  | H, [] => ([], H)
  | H, c :: cs => ((inst2 H c).1 :: (instL2 (inst2 H c).2 cs).1, (instL2 (inst2 H c).2 cs).2)
def install (H : Hp) : CV → CV × Hp
  | .tup vs => (.tup (instL2 H vs).1, (instL2 H vs).2)
  | c => inst2 H c
def snapT (H : Hp) : CV → Option CV
  | .tup vs => (omap (snap H depth) vs).map .tup
  | c => snap H depth c
def pureC (H : Hp) : Nat → CV → Bool
  | 0, _ => false
  | k + 1, c => match c with
    | .v _ => true
    | .cut _ _ _ _ => true
    | .agg cs => cs.all (pureC H k)
    | .ifc _ c => c.flat
    | .own id _ _ _ => match getR H id with
      | some r => r.cells.all (pureC H k)
      | none => false
    | _ => false
def pureT (H : Hp) : CV → Bool
  | .tup vs => vs.all (pureC H depth)
  | c => pureC H depth c
def sealR (H H1 : Hp) (r : CV) (none' : Bool) : Option (CV × Hp) := if (none' || pureT H1 r) = true then (snapT H1 r).map (fun c => (c, H)) else none
def callB (E : Env) (den : FuncId → List CV → Hp → Option (CV × Hp)) (f : FuncId) (args : List CV) (H : Hp) : Option (CV × Hp) :=
  match omap (snap H depth) args with
  | some args' => match den f args' [] with
    | some (r, H1) => if E.frr f && !E.frz f then sealR H H1 r (args.flatMap (ids H depth)).isEmpty else match release H1 r with
      | some r' => if E.frz f then some (install (freeze (args.flatMap (ids H depth)) 0 H) r') else if freshRes r' then some (install H r') else if (args.flatMap (ids H depth)).isEmpty then some (install H r') else none
      | none => none
    | none => none
  | none => none
def onceC (E : Env) (den : FuncId → List CV → Hp → Option (CV × Hp)) (args : List CV) (H : Hp) : Option (CV × Hp) := match args with
  | [.op id off, .fn g caps] => match getR H id with
    | some r => match r.cells[off]?, r.cells[off + 1]? with
      | some (.v (.int .u32 d)), some (.v (.int .i32 s)) => if d = 0 then
          if s = 0 ∧ r.live = true ∧ ¬ g = yId then match den g caps (H.set id (.row { r with cells := r.cells.set (off + 1) (.v (.int .i32 1)) })) with
            | some (_, H2) => match getR H2 id with
              | some r2 => match r2.cells[off]?, r2.cells[off + 1]? with
                | some (.v (.int .u32 d2)), some (.v (.int .i32 s2)) => if d2 = 0 ∧ s2 = 1 ∧ r2.live = true then
                    some (.tup [], H2.set id (.row { r2 with cells := (r2.cells.set off (.v (.int .u32 1))).set (off + 1) (.v (.int .i32 0)) }))
                  else none
                | _, _ => none
              | none => none
            | none => none
          else none
        else some (.tup [], H)
      | _, _ => none
    | none => none
  | _ => none

def callV (E : Env) (den : FuncId → List CV → Hp → Option (CV × Hp)) (f : FuncId) (args : List CV) (H : Hp) : Option (CV × Hp) :=
  match E.prim f with
  | some p => p args H
  | none => if E.onc f then onceC E den args H else if E.inl f then den f args H else callB E den f args H
def hasRF : Code → Bool
  | .seq a b => hasRF a || hasRF b
  | .cond _ a b => hasRF a || hasRF b
  | .block _ b => hasRF b
  | .loop b => hasRF b
  | .rangeFunc _ _ _ _ => true
  | _ => false
def setP : List CV → List Tmp → List CV → List CV
  | s, t :: ts, a :: as => setP (s.set t a) ts as
  | s, _, _ => s
def busyL (H : Hp) (id : Nat) : Option Hp := match getL H id with
  | some (f, ps, as, b, q, s) => match q with
    | .ready => some (H.set id (.row ⟨.lpc f ps as b .busy :: s, 1, 0, true⟩))
    | _ => none
  | none => none
def endL (H : Hp) (id : Nat) (q' : LQ) : Option Hp := match getL H id with
  | some (f, ps, as, b, q, s) => match q with
    | .busy => some (H.set id (.row ⟨.lpc f ps as b q' :: s, 1, 0, true⟩))
    | _ => none
  | none => none
def roundY (E : Env) (call : FuncId → List CV → Hp → Option (CV × Hp)) : List CV → Hp → Option (CV × Hp)
  | .yd id :: xs, H => match getL H id with
    | some (f, ps, as, b, q, s) => match q with
      | .ready => if xs.length = ps.length ∧ hasRF as = false ∧ hasRF b = false then match runC E call f as ⟨setP s ps xs, H⟩ with
          | some (.normal, s1) => match busyL s1.h id with
            | some H1 => match runC E call f b ⟨s1.s, H1⟩ with
              | some (.normal, s2) => (endL s2.h id .ready).map fun H2 => (.v (.bool true), H2)
              | some (ex, s2) => (endL s2.h id (.done ex)).map fun H2 => (.v (.bool false), H2)
              | none => none
            | none => none
          | _ => none
        else none
      | _ => none
    | none => none
  | _, _ => none
def isDfB (H : Hp) (i : Nat) : Bool := match H[i]? with
  | some (.row r) => r.sz == 0 && r.e == 2 && r.live
  | _ => false
def killD (H0 : Hp) : Nat → Hp → Hp
  | _, [] => []
  | i, b :: l => (match b with | .row r => if r.sz == 0 && r.e == 2 && r.live && !isDfB H0 i then .dead else .row r | .dead => .dead) :: killD H0 (i + 1) l
def endH (E : Env) (f : FuncId) (H0 : Hp) (r : Option (CV × Hp)) : Option (CV × Hp) := if E.rgf f = true then r.map fun p => (p.1, killD H0 0 p.2) else r

def den (E : Env) : Nat → FuncId → List CV → Hp → Option (CV × Hp)
  | 0, _, _, _ => none
  | d + 1, f, args, H => match E.code f with
    | some fn => match fn.body with
      | some c => match runC E (callV E (den E d)) f c ⟨args ++ List.replicate (fn.ntmps - args.length) (.v undef), H⟩ with
        | some (.ret, st) => endH E f H (resultsC E fn st)
        | some (.normal, st) => endH E f H (resultsC E fn st)
        | _ => none
      | none => none
    | none => if f = yId then roundY E (callV E (den E d)) args H else none
def denB (E : Env) (d : Nat) (f : FuncId) (args : List CV) : Option CV := match den E d f args [] with
  | some (r, H1) => release H1 r
  | none => none

end Go.Den
end
