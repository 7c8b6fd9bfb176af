/- By an AI agent. What is proved here: an evaluator's values, worlds and the soundness of its single steps, first part. -/
import Derived.RangeFuncLeaves
import Derived.OrdersIn
import Derived.Laws.BytesArg
import Derived.Laws.Rows
import Derived.Laws.Cells
import Derived.Laws.AppendOwn
import Derived.Laws.StructEq
import Derived.Laws.Tables
import Derived.Great.BuildSlice
import Derived.IntWalk
section
set_option linter.unusedVariables false
set_option linter.unusedSimpArgs false
/-! A plain evaluator of the program's code, on values of its own: slices that are not written are plain lists, what a call lays lies in a heap of its own. EvSound shows that what it computes is what the machine does. -/
namespace Go.Ev

inductive V where
  | bool (b : Bool)
  | int (k : IntKind) (n : Int)
  | flt (k : FloatKind) (bits : Nat)
  | str (s : ByteArray)
  | pnil
  | ptr (b i j : Nat)
  | ipt (β : Bool) (cs : List V) (o : Nat)
  | snil
  | sl (b o n z : Nat) (c : Option Nat)
  | imm (β : Bool) (z : Nat) (clip : Bool) (es : List (List V))
  | mnil
  | map (b : Nat)
  | fn (f : Fn) (first captured : List V)
  | yld (b : Nat)
  | fnil
  | ifc (t : Nat) (v : V)
  | inil
  | agg (cs : List V)
  | tup (vs : List V)
  /-- whatever it is -/
  | any
  deriving Inhabited

def V.und : V := .tup []
/-- a value's cells; a tuple has none -/
def V.cl : V → Option (List V)
  | .agg cs => some cs
  | .tup _ => none
  | .any => none
  | v => some [v]
def V.one : V → Bool
  | .agg _ | .tup _ | .any => false
  | _ => true

mutual
/-- No reference to a local block lies in it. -/
def V.pure : V → Bool
  | .agg cs => V.pures cs
  | .tup vs => V.pures vs
  | .ifc _ v => v.pure
  | .ptr .. | .sl .. | .map _ | .yld _ => false
  | .fn _ f c => V.pures f && V.pures c
  | _ => true
def V.pures : List V → Bool
  | [] => true
  | v :: vs => v.pure && V.pures vs
end
mutual
/-- It has slices of local rows, but no pointers, maps, closures over them. -/
def V.frz : V → Bool
  | .agg cs => V.frzs cs
  | .tup vs => V.frzs vs
  | .ifc _ v => v.frz
  | .ptr .. | .map _ | .yld _ => false
  | .fn _ f c => V.frzs f && V.frzs c
  | _ => true
def V.frzs : List V → Bool
  | [] => true
  | v :: vs => v.frz && V.frzs vs
end
mutual
/-- Something borrowed lies in it. -/
def V.bor : V → Bool
  | .agg cs => V.bors cs
  | .tup vs => V.bors vs
  | .ifc _ v => v.bor
  | .imm β _ _ _ => β
  | .ipt β _ _ => β
  | .fn _ f c => V.bors f || V.bors c
  | _ => false
def V.bors : List V → Bool
  | [] => false
  | v :: vs => v.bor || V.bors vs
end

inductive Tr (α : Type) where
  | nil
  | node (l : Tr α) (x : Option α) (r : Tr α)
def Tr.get {α : Type} : Tr α → Nat → Option α
  | .nil, _ => none
  | .node l x r, n => cond (n.beq 0) x (cond ((n % 2).beq 1) (l.get (n / 2)) (r.get (n / 2 - 1)))
def Tr.setF {α : Type} : Nat → Tr α → Nat → α → Tr α
  | 0, t, _, _ => t
  | d + 1, .nil, n, a => cond (n.beq 0) (.node .nil (some a) .nil) (cond ((n % 2).beq 1) (.node (setF d .nil (n / 2) a) none .nil) (.node .nil none (setF d .nil (n / 2 - 1) a)))
  | d + 1, .node l x r, n, a => cond (n.beq 0) (.node l (some a) r) (cond ((n % 2).beq 1) (.node (setF d l (n / 2) a) x r) (.node l x (setF d r (n / 2 - 1) a)))
def Tr.set {α : Type} (t : Tr α) (n : Nat) (a : α) : Tr α := setF (n + 1) t n a

structure Lp where
  st : LoopState
  pend : Option Code
  tmps : List V
  params : List Nat
  assign : Code
  body : Code
inductive Ob where
  | cells (rows : List (List V)) (z : Nat)
  | map (es : List (V × V))
  | loop (l : Lp)
  | dead
structure Hp where
  tr : Tr Ob
  next : Nat
  low : Nat
def Hp.empty : Hp := ⟨.nil, 0, 0⟩
def Hp.get (h : Hp) (b : Nat) : Option Ob := h.tr.get b
def Hp.add (h : Hp) (o : Ob) : Hp := ⟨h.tr.set h.next o, h.next + 1, h.low⟩
def Hp.put (h : Hp) (b : Nat) (o : Ob) : Hp := ⟨h.tr.set b o, h.next, min h.low b⟩
/-- a new variable -/
def Hp.var (h : Hp) (cs : List V) : Hp := h.add (.cells [cs] cs.length)

structure St where
  tm : List V
  h : Hp
def St.put (s : St) (d : Option Nat) (v : V) : St := match d with | some d => { s with tm := s.tm.set d v } | none => s

inductive Td where
  | bool | int (k : IntKind) | flt (k : FloatKind) | str | ptr (e : Nat) | slice (e : Nat) | arr (n e : Nat) | map (k e : Nat)
  | strct (fs : List (Nat × Nat)) | iface | func | other
inductive K3 where
  | b | i | s
  deriving DecidableEq
structure Ti where
  agg : Bool
  size : Nat
  bytes : Nat
  zero : Option V
  flat : Option (List K3)
  d : Td
inductive Out where
  | normal | ret | exit (id : Nat)
inductive Rs where
  | out (e : Out) (s : St)
  | val (v : V) (h : Hp)
inductive Tk where
  | code (c : Code) (s : St)
  | call (f : Nat) (args : List V) (h : Hp)
  | pcall (f : Nat) (args : List V)
inductive M where
  | ret (r : Rs)
  | no
  | call (t : Tk) (k : Rs → M)
def M.run (rec : Tk → Option Rs) : M → Option Rs
  | .ret r => some r
  | .no => none
  | .call t k => match rec t with
    | some r => (k r).run rec
    | none => none

/-- the same, where what a call comes to is told by a relation -/
def M.runR (R : Tk → Rs → Prop) : M → Rs → Prop
  | .ret r', r => r = r'
  | .no, _ => False
  | .call t k, r => ∃ r1, R t r1 ∧ (k r1).runR R r

/-- What the evaluator is told of the program. -/
structure Cx where
  fn : Nat → Option Func
  ty : Nat → Option Ti
  inl : Nat → Bool
  meth : Nat → String → Option Nat
  prim : Nat → Option (List V → Option V)
  /-- what is known beforehand of calls that are given nothing to write on -/
  spec : Nat → Option (List V → Option V)
def specOf (cx : Cx) (f : Nat) (args : List V) : Option V :=
  match cx.spec f with
  | some p => p args
  | none => none

def ofScalar : Value → Option V
  | .bool b => some (.bool b)
  | .int k n => some (.int k n)
  | .float k b => some (.flt k b)
  | .string s => some (.str s)
  | .pointer none => some .pnil
  | .slice none 0 0 => some .snil
  | .map none => some .mnil
  | .nilFunc => some .fnil
  | .nilIface => some .inil
  | _ => none
def ofScalars : List Value → Option (List V)
  | [] => some []
  | v :: vs => match ofScalar v with
    | some x => match ofScalars vs with
      | some xs => some (x :: xs)
      | none => none
    | none => none
def ofConst : Value → Option V
  | .agg cs => match ofScalars cs.toList with
    | some l => some (.agg l)
    | none => none
  | .tuple vs => if vs.isEmpty then some .und else none
  | v => ofScalar v
def ev (tm : List V) : Operand → Option V
  | .tmp t => tm[t]?
  | .const v => ofConst v
  | .func f => some (.fn (.func f) [] [])
  | .global _ => none
def evs (tm : List V) : List Operand → Option (List V)
  | [] => some []
  | o :: os => match ev tm o with
    | some v => match evs tm os with
      | some vs => some (v :: vs)
      | none => none
    | none => none

/-- n elements from place o on, if so many are there -/
def seg {α : Type} (cs : List α) (o n : Nat) : Option (List α) := if o + n ≤ cs.length then some ((cs.drop o).take n) else none
/-- vs in place of what stands in cs from o on, if there is room -/
def lay {α : Type} (cs : List α) (o : Nat) (vs : List α) : Option (List α) :=
  if o + vs.length ≤ cs.length then some (cs.take o ++ vs ++ cs.drop (o + vs.length)) else none
/-- what stands in an element's cells -/
def rdCells (i : Ti) (cs : List V) (o : Nat) : Option V := if i.agg then (seg cs o i.size).map .agg else cs[o]?
def loadAt (cx : Cx) (h : Hp) (t : Nat) (a : V) : Option V :=
  match cx.ty t with
  | none => none
  | some i => match a with
    | .ptr b r j => match h.get b with
      | some (.cells rows _) => match rows[r]? with
        | some cs => rdCells i cs j
        | none => none
      | _ => none
    | .ipt _ cs o => rdCells i cs o
    | _ => none
def storeAt (cx : Cx) (h : Hp) (t : Nat) (a v : V) : Option Hp :=
  match cx.ty t, a with
  | some i, .ptr b r j => match h.get b with
    | some (.cells rows z) => match rows[r]? with
      | some cs => match v.cl with
        | some l => if l.length = i.size ∧ 0 < l.length then match lay cs j l with
          | some cs' => some (h.put b (.cells (rows.set r cs') z))
          | none => none else none
        | none => none
      | none => none
    | _ => none
  | _, _ => none
/-- the elements of a slice -/
def rowOf (h : Hp) (z : Nat) : V → Option (List (List V))
  | .snil => some []
  | .imm _ z' _ es => if z' = z then some es else none
  | .sl b o n z' _ => if z' = z then match h.get b with
    | some (.cells rows z2) => if z2 = z then seg rows o n else none
    | _ => none else none
  | _ => none

def mapO {α β : Type} (f : α → Option β) : List α → Option (List β)
  | [] => some []
  | a :: as => match f a with
    | some b => match mapO f as with
      | some bs => some (b :: bs)
      | none => none
    | none => none
/-- Lay a value free of the local heap. -/
def fz (β : Bool) (h : Hp) : Nat → V → Option V
  | 0, _ => none
  | d + 1, v => if v.pure then some v else match v with
    | .agg cs => (mapO (fz β h d) cs).map .agg
    | .tup cs => (mapO (fz β h d) cs).map .tup
    | .ifc t v => (fz β h d v).map (.ifc t)
    | .sl b o n z _ => match h.get b with
      | some (.cells rows z') => if z' = z then match seg rows o n with
        | some l => match mapO (mapO (fz β h d)) l with
          | some l' => some (.imm (β || l'.any V.bors) z false l')
          | none => none
        | none => none else none
      | _ => none
    | _ => none
def fzDepth : Nat := 40

/-- the parts laid into the cells, each at its place -/
def fill (place : Nat → Option (Nat × Nat)) (cells : List V) : List (Nat × V) → Option (List V)
  | [] => some cells
  | (i, v) :: rest => match place i, v.cl with
    | some (off, size), some l => if l.length = size then match lay cells off l with
      | some cs => fill place cs rest
      | none => none else none
    | _, _ => none
/-- the parts laid into a row, each in place of an element -/
def fillRow (z : Nat) (rows : List (List V)) : List (Nat × V) → Option (List (List V))
  | [] => some rows
  | (i, v) :: rest => match v.cl with
    | some l => if l.length = z ∧ i < rows.length then fillRow z (rows.set i l) rest else none
    | none => none
def parts (tm : List V) : List (Nat × Operand) → Option (List (Nat × V))
  | [] => some []
  | (i, x) :: rest => match ev tm x with
    | some v => match parts tm rest with
      | some l => some ((i, v) :: l)
      | none => none
    | none => none

/-- '==' of a cell, by its kind -/
def eq1 : K3 → V → V → Option Bool
  | .b, .bool a, .bool b => some (a == b)
  | .i, .int k a, .int k' b => if k = k' then some (a == b) else none
  | .s, .str a, .str b => some (a == b)
  | _, _, _ => none
/-- '==' of cells -/
def eqK : List K3 → List V → List V → Option Bool
  | [], [], [] => some true
  | k :: ks, x :: xs, y :: ys => match eq1 k x y with
    | some a => match eqK ks xs ys with
      | some r => some (a && r)
      | none => none
    | none => none
  | _, _, _ => none
def isNil : V → Option Bool
  | .pnil | .snil | .mnil | .fnil | .inil => some true
  | .ptr .. | .ipt .. | .sl .. | .imm .. | .map _ | .fn .. | .yld _ | .ifc .. => some false
  | _ => none
def nilLit : V → Bool
  | .pnil | .snil | .mnil | .fnil | .inil => true
  | _ => false
/-- which nil a type has -/
def nilFits : Td → V → Bool
  | .ptr _, .pnil | .slice _, .snil | .map _ _, .mnil | .func, .fnil => true
  | _, _ => false
def kindFits : Td → V → Bool
  | .ptr _, .pnil | .ptr _, .ptr .. | .ptr _, .ipt .. | .slice _, .snil | .slice _, .sl .. | .slice _, .imm .. | .map _ _, .mnil | .map _ _, .map _
  | .func, .fnil | .func, .fn .. | .func, .yld _ => true
  | _, _ => false
def eqV (cx : Cx) (t : Nat) (x y : V) : Option Bool :=
  match cx.ty t with
  | none => none
  | some i => match x, y with
    | .bool a, .bool b => match i.d with | .bool => some (a == b) | _ => none
    | .agg xs, .agg ys => match i.agg, i.flat with | true, some ks => eqK ks xs ys | _, _ => none
    | x, y => if nilFits i.d y && kindFits i.d x then isNil x else if nilFits i.d x && kindFits i.d y then isNil y else none
def binI (op : BinOp) (k : IntKind) (a b : Int) : Option V :=
  match op with
  | .add => some (.int k (k.wrap (a + b)))
  | .sub => some (.int k (k.wrap (a - b)))
  | .mul => some (.int k (k.wrap (a * b)))
  | .quo => if b = 0 then none else some (.int k (k.wrap (a.tdiv b)))
  | .rem => if b = 0 then none else some (.int k (a.tmod b))
  | .and => some (.int k (k.wrap (BitVec.ofInt k.bits a &&& BitVec.ofInt k.bits b).toNat))
  | .or => some (.int k (k.wrap (BitVec.ofInt k.bits a ||| BitVec.ofInt k.bits b).toNat))
  | .xor => some (.int k (k.wrap (BitVec.ofInt k.bits a ^^^ BitVec.ofInt k.bits b).toNat))
  | .andNot => some (.int k (k.wrap (BitVec.ofInt k.bits a &&& ~~~(BitVec.ofInt k.bits b)).toNat))
  | .eql => some (.bool (a == b))
  | .neq => some (.bool (a != b))
  | .lss => some (.bool (a < b))
  | .leq => some (.bool (a ≤ b))
  | .gtr => some (.bool (a > b))
  | .geq => some (.bool (a ≥ b))
  | _ => none
def binShift (op : BinOp) (k : IntKind) (a b : Int) : Option V :=
  if b < 0 then none else
  match op with
  | .shl => some (.int k (k.wrap (a * 2 ^ (min b.toNat k.bits))))
  | .shr => some (.int k (a.fdiv (2 ^ (min b.toNat k.bits))))
  | _ => none
def isShift : BinOp → Bool
  | .shl | .shr => true
  | _ => false
def binV (cx : Cx) (op : BinOp) (t : Nat) (x y : V) : Option V :=
  match x, y with
  | .int k a, .int k' b => if isShift op then binShift op k a b else if k = k' then binI op k a b else none
  | .str a, .str b => match op with
    | .eql => some (.bool (a == b))
    | .neq => some (.bool !(a == b))
    | _ => none
  | _, _ => match op with
    | .eql => (eqV cx t x y).map .bool
    | .neq => (eqV cx t x y).map fun b => .bool !b
    | _ => none
def unV (op : UnOp) (x : V) : Option V :=
  match op, x with
  | .neg, .int k n => some (.int k (k.wrap (0 - n)))
  | .not, .bool b => some (.bool !b)
  | _, _ => none
def strRows (s : ByteArray) : List (List V) := s.data.toList.map fun b => [.int .u8 b.toNat]
def numsOf : List (List V) → Option (List Int)
  | [] => some []
  | [.int .u8 n] :: r => match numsOf r with
    | some l => some (n :: l)
    | none => none
  | _ => none
def conv (cx : Cx) (h : Hp) (src dst : Nat) (x : V) : Option (V × Hp) :=
  match cx.ty src, cx.ty dst with
  | some j, some i => match j.d, i.d, x with
    | .int _, .int k, .int _ n => some (.int k (k.wrap n), h)
    | .int _, .flt k, .int _ n => some (.flt k (k.nearest n), h)
    | .flt _, .int k, .flt s b => match (s.decode b).toInt .zero with
      | some n => if k.min ≤ n ∧ n ≤ k.max then some (.int k n, h) else none
      | none => none
    | .str, .str, .str s => some (.str s, h)
    | .str, .slice e, .str s => match cx.ty e with
      | some ⟨_, 1, _, _, _, .int .u8⟩ => some (.sl h.next 0 s.size 1 none, h.add (.cells (strRows s) 1))
      | _ => none
    | .slice e, .str, x => match cx.ty e, rowOf h 1 x with
      | some ⟨_, _, _, _, _, .int .u8⟩, some cs => match numsOf cs with
        | some l => some (.str (strOfNums l), h)
        | none => none
      | _, _ => none
    | _, _, _ => none
  | _, _ => none
def addrField (cx : Cx) (s f : Nat) (x : V) : Option V :=
  match cx.ty s with
  | some i => match i.d with
    | .strct fs => match fs[f]? with
      | some (ft, off) => match cx.ty ft with
        | some j => if j.size = 0 then none else match x with
          | .ptr b r o => some (.ptr b r (o + off))
          | .ipt β cs o => some (.ipt β cs (o + off))
          | _ => none
        | none => none
      | none => none
    | _ => none
  | none => none
def partOf (cx : Cx) (t : Nat) (cs : List V) (off : Nat) : Option V :=
  match cx.ty t with
  | some i => rdCells i cs off
  | none => none
def fieldV (cx : Cx) (s f : Nat) (x : V) : Option V :=
  match cx.ty s, x with
  | some i, .agg cs => match i.d with
    | .strct fs => match fs[f]? with
      | some (ft, off) => partOf cx ft cs off
      | none => none
    | _ => none
  | _, _ => none
def sizeOf (cx : Cx) (t : Nat) : Option Nat := match cx.ty t with | some i => some i.size | none => none
def zeroOf (cx : Cx) (t : Nat) : Option V := match cx.ty t with | some i => i.zero | none => none
def zeroCl (cx : Cx) (t : Nat) : Option (List V) := match zeroOf cx t with | some z => z.cl | none => none
def atSlice (z : Nat) (i : Int) : V → Option V
  | .sl b o n z' _ => if z' = z ∧ 0 ≤ i ∧ i < n then some (.ptr b (o + i.toNat) 0) else none
  | .imm β z' _ es => if z' = z ∧ 0 ≤ i then match es[i.toNat]? with
    | some cs => some (.ipt β cs 0)
    | none => none else none
  | _ => none
def addrIndex (cx : Cx) (t : Nat) (x i : V) : Option V :=
  match cx.ty t, i with
  | some ti, .int _ i => match ti.d with
    | .arr n e => match sizeOf cx e with
      | some z => if 0 ≤ i ∧ i < n then match x with
        | .ptr b r o => some (.ptr b r (o + i.toNat * z))
        | .ipt β cs o => some (.ipt β cs (o + i.toNat * z))
        | _ => none else none
      | none => none
    | .slice e => match sizeOf cx e with
      | some z => if z = 0 then none else atSlice z i x
      | none => none
    | _ => none
  | _, _ => none
def indexV (cx : Cx) (t : Nat) (x i : V) : Option V :=
  match cx.ty t, i with
  | some ti, .int _ i => match ti.d, x with
    | .arr n e, .agg cs => match sizeOf cx e with
      | some z => if 0 ≤ i ∧ i < n then partOf cx e cs (i.toNat * z) else none
      | none => none
    | .str, .str s => if 0 ≤ i then match s.data.toList[i.toNat]? with
      | some b => some (.int .u8 b.toNat)
      | none => none else none
    | _, _ => none
  | _, _ => none
/-- a bound of a slice expression -/
def bnd : Option V → Nat → Option Nat
  | none, d => some d
  | some (.int _ i), _ => if 0 ≤ i then some i.toNat else none
  | some _, _ => none
def optEv (tm : List V) : Option Operand → Option (Option V)
  | none => some none
  | some o => match ev tm o with | some v => some (some v) | none => none
def cutRow (z : Nat) (lo hi mx : Option V) (n : Nat) (k : Nat → Nat → Nat → Option V) : Option V :=
  match bnd lo 0, bnd hi n, bnd mx n with
  | some l, some h, some m => if l ≤ h ∧ h ≤ m ∧ m ≤ n ∧ 0 < z ∧ (mx.isNone || hi.isSome) = true then k l h m else none
  | _, _, _ => none
def sliceV (cx : Cx) (t : Nat) (x : V) (lo hi mx : Option V) : Option V :=
  match cx.ty t with
  | none => none
  | some ti => match ti.d, x with
    | .str, .str s => match bnd lo 0, bnd hi s.size, mx with
      | some l, some h, none => if l ≤ h ∧ h ≤ s.size then some (.str (s.extract l h)) else none
      | _, _, _ => none
    | .slice e, .snil => match sizeOf cx e with
      | some z => cutRow z lo hi mx 0 fun _ _ _ => some .snil
      | none => none
    | .slice e, .imm β z' clip es => match sizeOf cx e with
      | some z => if z' = z then cutRow z lo hi mx es.length fun l h m => some (.imm (β && l != h) z (match mx with | none => clip && h == es.length | some _ => m == h) ((es.drop l).take (h - l))) else none
      | none => none
    | .slice e, .sl b o n z' c => match sizeOf cx e with
      | some z => if z' = z then cutRow z lo hi mx n fun l h m => some (.sl b (o + l) (h - l) z (match mx with | none => c.map (· - l) | some _ => some (m - l))) else none
      | none => none
    | _, _ => none
def lookM (kk : K3) (k : V) : List (V × V) → Option (Option V)
  | [] => some none
  | (k', v) :: r => match eq1 kk k k' with
    | some true => some (some v)
    | some false => lookM kk k r
    | none => none
def setM (kk : K3) (k v : V) : List (V × V) → Option (List (V × V))
  | [] => some [(k, v)]
  | (k', v') :: r => match eq1 kk k k' with
    | some true => some ((k, v) :: r)
    | some false => match setM kk k v r with | some l => some ((k', v') :: l) | none => none
    | none => none
def keyKind (cx : Cx) (t : Nat) : Option K3 := match cx.ty t with | some ⟨false, _, _, _, some [kk], _⟩ => some kk | _ => none
def entries (h : Hp) : V → Option (List (V × V))
  | .mnil => some []
  | .map b => match h.get b with | some (.map es) => some es | _ => none
  | _ => none
def lookV (cx : Cx) (h : Hp) (t : Nat) (x k : V) (ok : Bool) : Option V :=
  match cx.ty t, entries h x with
  | some ti, some es => match ti.d with
    | .map kt e => match keyKind cx kt, zeroOf cx e with
      | some kk, some z => match lookM kk k es with
        | some (some v) => some (if ok then .tup [v, .bool true] else v)
        | some none => some (if ok then .tup [z, .bool false] else z)
        | none => none
      | _, _ => none
    | _ => none
  | _, _ => none
def maxI (k : IntKind) : Int → List V → Option Int
  | a, [] => some a
  | a, .int k' b :: r => if k = k' then maxI k (if b > a then b else a) r else none
  | _, _ => none
def minI (k : IntKind) : Int → List V → Option Int
  | a, [] => some a
  | a, .int k' b :: r => if k = k' then minI k (if b < a then b else a) r else none
  | _, _ => none
def capLt (c : Option Nat) (n : Nat) : Bool := match c with | some c => decide (c < n) | none => false
/-- the row that an append leaves: a new block; the old one may be written, so it is dead from here on -/
def grow (h : Hp) (z : Nat) (rows : List (List V)) : V → Option (V × Hp)
  | .snil => some (.sl h.next 0 rows.length z none, h.add (.cells rows z))
  | .imm _ _ true _ => some (.sl h.next 0 rows.length z none, h.add (.cells rows z))
  | .sl b _ _ _ c => if capLt c rows.length
      then some (.sl h.next 0 rows.length z none, h.add (.cells rows z))
      else some (.sl h.next 0 rows.length z none, (h.put b .dead).add (.cells rows z))
  | _ => none
def appendV (cx : Cx) (h : Hp) (t : Nat) (s x : V) : Option (V × Hp) :=
  match cx.ty t with
  | some ti => match ti.d with
    | .slice e => match cx.ty e with
      | some te => match rowOf h te.size s, (match x with | .str b => if te.size = 1 then some (strRows b) else none | x => rowOf h te.size x) with
        | some old, some new =>
          if new.isEmpty then some (s, h) else
          if (old.length + new.length) * te.bytes ≤ 2 ^ 46 ∧ old.length + new.length ≤ 2 ^ 46 ∧ 0 < te.size ∧ 0 < te.bytes ∧ (zeroCl cx e).map List.length = some te.size then grow h te.size (old ++ new) s else none
        | _, _ => none
      | none => none
    | _ => none
  | none => none
def lenV (cx : Cx) (h : Hp) (t : Nat) (x : V) : Option V :=
  match cx.ty t with
  | some ti => match ti.d, x with
    | .str, .str s => some (.int .i64 s.size)
    | .slice _, .snil => some (.int .i64 0)
    | .slice _, .sl _ _ n _ _ => some (.int .i64 n)
    | .slice _, .imm _ _ _ es => some (.int .i64 es.length)
    | .map _ _, x => match entries h x with | some es => some (.int .i64 es.length) | none => none
    | .arr n _, _ => some (.int .i64 n)
    | _, _ => none
  | none => none
def clearV (cx : Cx) (h : Hp) (t : Nat) (x : V) : Option (V × Hp) :=
  match cx.ty t with
  | some ti => match ti.d, x with
    | .map _ _, .mnil => some (.und, h)
    | .map _ _, .map b => match h.get b with | some (.map _) => some (.und, h.put b (.map [])) | _ => none
    | .slice _, .snil => some (.und, h)
    | .slice e, .sl b o n z _ => match zeroCl cx e, h.get b with
      | some zv, some (.cells rows z') => if zv.length = z ∧ z' = z then match lay rows o (List.replicate n zv) with
        | some rows' => some (.und, h.put b (.cells rows' z'))
        | none => none else none
      | _, _ => none
    | _, _ => none
  | none => none
def builtinV (cx : Cx) (h : Hp) (b : Builtin) (argTypes : List Nat) (args : List V) : Option (V × Hp) :=
  match b, args, argTypes with
  | .len, [x], t :: _ => match lenV cx h t x with | some v => some (v, h) | none => none
  | .append, [s, x], [t, u] => match cx.ty u with
    | some ui => match ui.d with
      | .int _ => none
      | _ => appendV cx h t s x
    | none => none
  | .max, .int k a :: r, _ => match maxI k a r with | some n => some (.int k n, h) | none => none
  | .min, .int k a :: r, _ => match minI k a r with | some n => some (.int k n, h) | none => none
  | .clear, [x], t :: _ => clearV cx h t x
  | _, _, _ => none
def keep (h : Hp) : Option V → Option (V × Hp)
  | some v => some (v, h)
  | none => none
def opMove (s : St) (x : Operand) : Option (V × Hp) := keep s.h (ev s.tm x)
def opPick (s : St) (c a b : Operand) : Option (V × Hp) :=
  match ev s.tm c with
  | some (.bool c) => keep s.h (if c then ev s.tm a else ev s.tm b)
  | _ => none
def opAlloc (cx : Cx) (s : St) (e : Nat) : Option (V × Hp) :=
  match zeroCl cx e with
  | some z => some (.ptr s.h.next 0 0, s.h.var z)
  | none => none
def opBox (s : St) (x : Operand) : Option (V × Hp) :=
  match ev s.tm x with
  | some v => match v.cl with
    | some cs => some (.ptr s.h.next 0 0, s.h.var cs)
    | none => none
  | none => none
def placeIn (cx : Cx) (fs : List (Nat × Nat)) (i : Nat) : Option (Nat × Nat) :=
  match fs[i]? with
  | some (ft, off) => match sizeOf cx ft with | some z => some (off, z) | none => none
  | none => none
def buildV (cx : Cx) (t : Nat) (l : List (Nat × V)) : Option V :=
  match cx.ty t with
  | some ti => match zeroCl cx t, ti.d with
    | some z, .strct fs => (fill (placeIn cx fs) z l).map .agg
    | some z, .arr _ e => match sizeOf cx e with
      | some sz => (fill (fun i => some (i * sz, sz)) z l).map .agg
      | none => none
    | _, _ => none
  | none => none
def opBuild (cx : Cx) (s : St) (t : Nat) (ps : Array (Nat × Operand)) : Option (V × Hp) :=
  match parts s.tm ps.toList with
  | some l => keep s.h (buildV cx t l)
  | none => none
def opBuildSlice (cx : Cx) (s : St) (t n : Nat) (ps : Array (Nat × Operand)) : Option (V × Hp) :=
  match cx.ty t, parts s.tm ps.toList with
  | some ti, some l => match ti.d with
    | .slice e => match cx.ty e with
      | some te => match zeroCl cx e with
        | some z => if n * te.size ≤ 2 ^ 24 ∧ z.length = te.size ∧ 0 < te.size then
            match fillRow te.size (List.replicate n z) l with
            | some rows => some (.sl s.h.next 0 n te.size (some n), s.h.add (.cells rows te.size))
            | none => none else none
        | none => none
      | none => none
    | _ => none
  | _, _ => none
def opLoad (cx : Cx) (s : St) (t : Nat) (a : Operand) : Option (V × Hp) :=
  match ev s.tm a with
  | some a => keep s.h (loadAt cx s.h t a)
  | none => none
def opStore (cx : Cx) (s : St) (t : Nat) (a x : Operand) : Option (V × Hp) :=
  match ev s.tm a, ev s.tm x with
  | some a, some x => match storeAt cx s.h t a x with | some h => some (.und, h) | none => none
  | _, _ => none
def opNilCheck (s : St) (x : Operand) : Option (V × Hp) :=
  match ev s.tm x with
  | some (.ptr b i j) => some (.ptr b i j, s.h)
  | some (.ipt β cs o) => some (.ipt β cs o, s.h)
  | _ => none
def opBin (cx : Cx) (s : St) (op : BinOp) (t : Nat) (x y : Operand) : Option (V × Hp) :=
  match ev s.tm x, ev s.tm y with
  | some x, some y => keep s.h (binV cx op t x y)
  | _, _ => none
def opUn (s : St) (op : UnOp) (x : Operand) : Option (V × Hp) :=
  match ev s.tm x with
  | some x => keep s.h (unV op x)
  | none => none
def opConv (cx : Cx) (s : St) (src dst : Nat) (x : Operand) : Option (V × Hp) :=
  match ev s.tm x with
  | some x => conv cx s.h src dst x
  | none => none
def opMkIface (cx : Cx) (s : St) (t : Nat) (x : Operand) : Option (V × Hp) :=
  match cx.ty t, ev s.tm x with
  | some ti, some x => match ti.d with | .iface => none | _ => some (.ifc t x, s.h)
  | _, _ => none
def opMkFunc (s : St) (f : Fn) (first cap : Array Operand) : Option (V × Hp) :=
  match evs s.tm first.toList, evs s.tm cap.toList with
  | some a, some b => some (.fn f a b, s.h)
  | _, _ => none
def opMkMap (s : St) : Option (V × Hp) := some (.map s.h.next, s.h.add (.map []))
def opMkSlice (cx : Cx) (s : St) (t : Nat) (l c : Operand) : Option (V × Hp) :=
  match cx.ty t, ev s.tm l, ev s.tm c with
  | some ti, some (.int _ l), some (.int _ c) => match ti.d with
    | .slice e => match cx.ty e with
      | some te => match zeroCl cx e with
        | some z => if 0 ≤ l ∧ l = c ∧ l * te.bytes ≤ 2 ^ 46 ∧ l ≤ 2 ^ 46 ∧ z.length = te.size ∧ 0 < te.size then
            some (.sl s.h.next 0 l.toNat te.size (some l.toNat), s.h.add (.cells (List.replicate l.toNat z) te.size)) else none
        | none => none
      | none => none
    | _ => none
  | _, _, _ => none
def opSlice (cx : Cx) (s : St) (t : Nat) (x : Operand) (lo hi mx : Option Operand) : Option (V × Hp) :=
  match ev s.tm x, optEv s.tm lo, optEv s.tm hi, optEv s.tm mx with
  | some x, some lo, some hi, some mx => keep s.h (sliceV cx t x lo hi mx)
  | _, _, _, _ => none
def opFieldAddr (cx : Cx) (s : St) (t : Nat) (x : Operand) (f : Nat) : Option (V × Hp) :=
  match ev s.tm x with
  | some x => keep s.h (addrField cx t f x)
  | none => none
def opField (cx : Cx) (s : St) (t : Nat) (x : Operand) (f : Nat) : Option (V × Hp) :=
  match ev s.tm x with
  | some x => keep s.h (fieldV cx t f x)
  | none => none
def opIndexAddr (cx : Cx) (s : St) (t : Nat) (x i : Operand) : Option (V × Hp) :=
  match ev s.tm x, ev s.tm i with
  | some x, some i => keep s.h (addrIndex cx t x i)
  | _, _ => none
def opIndex (cx : Cx) (s : St) (t : Nat) (x i : Operand) : Option (V × Hp) :=
  match ev s.tm x, ev s.tm i with
  | some x, some i => keep s.h (indexV cx t x i)
  | _, _ => none
def opLookup (cx : Cx) (s : St) (t : Nat) (x i : Operand) (ok : Bool) : Option (V × Hp) :=
  match ev s.tm x, ev s.tm i with
  | some x, some i => keep s.h (lookV cx s.h t x i ok)
  | _, _ => none
def opMapUpdate (cx : Cx) (s : St) (t : Nat) (m k x : Operand) : Option (V × Hp) :=
  match ev s.tm m, ev s.tm k, ev s.tm x, cx.ty t with
  | some (.map b), some k, some x, some ti => match s.h.get b, ti.d with
    | some (.map es), .map kt _ => match keyKind cx kt with
      | some kk => match setM kk k x es with | some es => some (.und, s.h.put b (.map es)) | none => none
      | none => none
    | _, _ => none
  | _, _, _, _ => none
def opTypeAssert (cx : Cx) (s : St) (x : Operand) (t : Nat) (ok : Bool) : Option (V × Hp) :=
  match ev s.tm x, cx.ty t with
  | some x, some ti => match ti.d, x with
    | .iface, _ => none
    | _, .ifc t' v => if t' = t then some (if ok then .tup [v, .bool true] else v, s.h) else if ok then match ti.zero with | some z => some (.tup [z, .bool false], s.h) | none => none else none
    | _, _ => none
  | _, _ => none
def opExtract (s : St) (t : Operand) (i : Nat) : Option (V × Hp) :=
  match ev s.tm t with
  | some (.tup vs) => keep s.h vs[i]?
  | _ => none
/-- an operation that calls nothing -/
def opP (cx : Cx) (s : St) : Op → Option (V × Hp)
  | .move x => opMove s x
  | .assign x => opMove s x
  | .pick c a b => opPick s c a b
  | .alloc e => opAlloc cx s e
  | .box _ x => opBox s x
  | .build t ps => opBuild cx s t ps
  | .buildSlice t n ps => opBuildSlice cx s t n ps
  | .load t a => opLoad cx s t a
  | .store t a x => opStore cx s t a x
  | .nilCheck x => opNilCheck s x
  | .binOp op t x y _ => opBin cx s op t x y
  | .unOp op _ x => opUn s op x
  | .convert src dst x => opConv cx s src dst x
  | .makeInterface t x => opMkIface cx s t x
  | .makeFunc f first cap => opMkFunc s f first cap
  | .makeMap _ none => opMkMap s
  | .makeSlice t l c => opMkSlice cx s t l c
  | .slice t x lo hi mx => opSlice cx s t x lo hi mx
  | .fieldAddr t x f => opFieldAddr cx s t x f
  | .field t x f => opField cx s t x f
  | .indexAddr t x i => opIndexAddr cx s t x i
  | .index t x i => opIndex cx s t x i
  | .lookup t x i ok => opLookup cx s t x i ok
  | .mapUpdate t m k x => opMapUpdate cx s t m k x
  | .typeAssert x _ t ok => opTypeAssert cx s x t ok
  | .extract t i => opExtract s t i
  | _ => none

def setParams : List Nat → List V → List V → List V
  | p :: ps, a :: as, tm => setParams ps as (tm.set p a)
  | _, _, tm => tm
def onVal (k : V → Hp → M) : Rs → M
  | .val v h => k v h
  | _ => .no
def onPure (h : Hp) (k : V → Hp → M) : Rs → M
  | .val v _ => k v h
  | _ => .no
def onLent (h : Hp) (k : V → Hp → M) : Rs → M
  | .val v _ => if v.bor then .no else k v h
  | _ => .no
/-- a function is called: 'k' gets what it gives back -/
def callF (cx : Cx) (f : Nat) (args : List V) (h : Hp) (k : V → Hp → M) : M :=
  match cx.prim f with
  | some p => match p args with
    | some v => k v h
    | none => .no
  | none =>
    if cx.inl f then .call (.call f args h) (onVal k)
    else if V.pures args then .call (.pcall f args) (onPure h k)
    else match (if V.frzs args then mapO (fz true h fzDepth) args else none) with
      | some args' => .call (.pcall f args') (onLent h k)
      | none => .call (.call f args h) (onVal k)
/-- how a round of a range over a function is left -/
def left : Out → LoopState × Option Code
  | .normal => (.ready, none)
  | .ret => (.done, some .ret)
  | .exit id => (.done, some (.exit id))
def onRound (b : Nat) (k : V → Hp → M) : Rs → M
  | .out e s => match s.h.get b with
    | some (.loop l) => k (.bool (left e).2.isNone) (s.h.put b (.loop { l with st := (left e).1, pend := (left e).2 }))
    | _ => .no
  | _ => .no
def onAssign (b : Nat) (body : Code) (k : V → Hp → M) : Rs → M
  | .out .normal s => match s.h.get b with
    | some (.loop l) => match l.st with
      | .ready => .call (.code body ⟨s.tm, s.h.put b (.loop { l with st := .busy })⟩) (onRound b k)
      | _ => .no
    | _ => .no
  | _ => .no
def callV (cx : Cx) (g : V) (args : List V) (h : Hp) (k : V → Hp → M) : M :=
  match g with
  | .fn (.func f) first cap => callF cx f (first ++ args ++ cap) h k
  | .yld b => match h.get b with
    | some (.loop l) => if args.length = l.params.length then .call (.code l.assign ⟨setParams l.params args l.tmps, h⟩) (onAssign b l.body k) else .no
    | _ => .no
  | _ => .no
def evCall (cx : Cx) (s : St) (c : Call) (k : V → Hp → M) : M :=
  match evs s.tm c.args.toList with
  | none => .no
  | some args => match c.callee with
    | .builtin b => match builtinV cx s.h b c.argTypes.toList args with
      | some (v, h) => k v h
      | none => .no
    | .value f => match ev s.tm f with
      | some g => callV cx g args s.h k
      | none => .no
    | .invoke r m => match ev s.tm r with
      | some (.ifc t v) => match cx.meth t m with
        | some f => callF cx f (v :: args) s.h k
        | none => .no
      | _ => .no
def wanted (ops : List Oper) (tm : List V) (o : Oper) : Bool :=
  match o.guard with
  | none => true
  | some (j, want) => match ops[j]? with
    | some oj => match oj.dst with
      | some d => match tm[d]? with
        | some (.bool b) => b == want
        | _ => false
      | none => false
    | none => false
def evOp (cx : Cx) (s : St) (o : Oper) (k : V → Hp → M) : M :=
  match o.op with
  | .call c => evCall cx s c k
  | op => match opP cx s op with
    | some (v, h) => k v h
    | none => .no
def evOps (cx : Cx) (ops : List Oper) : List Oper → St → (St → M) → M
  | [], s, k => k s
  | o :: rest, s, k =>
    if wanted ops s.tm o then evOp cx s o fun v h => evOps cx ops rest (St.put ⟨s.tm, h⟩ o.dst v) k
    else evOps cx ops rest (s.put o.dst .und) k
/-! A region that draws its order: what must hold for the order of the text to serve every order. -/
/-- a mask of the operations that have come up before this one may -/
def maskOf (pm : Tr Nat) : List Edge → Nat
  | [] => 0
  | e :: es => if Region.binds .any e then (2 ^ e.on ||| (pm.get e.on).getD 0) ||| maskOf pm es else maskOf pm es
def masks (pm : Tr Nat) (i : Nat) : List Oper → List Nat
  | [] => []
  | o :: r => maskOf pm o.after.toList :: masks (pm.set i (maskOf pm o.after.toList)) (i + 1) r
/-- an operation that neither looks at the heap nor turns it -/
def free : Op → Bool
  | .move _ | .assign _ | .pick .. | .build .. | .nilCheck _ | .binOp .. | .unOp .. | .makeInterface .. | .makeFunc .. | .slice .. | .fieldAddr .. | .field .. | .indexAddr .. | .index .. | .extract .. => true
  | _ => false
/-- the temporaries that an operation looks at -/
def readsOf (ops : List Oper) (o : Oper) : List Nat :=
  (o.op.operands.toList.filterMap fun | .tmp t => some t | _ => none) ++ (match o.guard with | some (j, _) => (match ops[j]? with | some oj => oj.dst.toList | none => []) | none => [])
def setAll (t : Tr Nat) (b : Nat) : List Nat → Tr Nat
  | [] => t
  | x :: xs => setAll (t.set x ((t.get x).getD 0 ||| b)) b xs
/-- each reads what those before it have written, and writes what those before it have read; none writes what another writes -/
def drawP (ops : List Oper) : List Oper → List Nat → Nat → Tr Nat → Tr Nat → Bool
  | o :: r, a :: as, i, wr, rs =>
    o.after.toList.all (fun e => !Region.binds .any e || e.on.blt i) &&
    (readsOf ops o).all (fun t => match wr.get t with | none => true | some j => a.testBit j) &&
    (match o.dst with
      | none => drawP ops r as (i + 1) wr (setAll rs (2 ^ i) (readsOf ops o))
      | some d => (wr.get d).isNone && (match rs.get d with | none => true | some k => (k &&& a).beq k) && drawP ops r as (i + 1) (wr.set d i) (setAll rs (2 ^ i) (readsOf ops o)))
  | [], [], _, _, _ => true
  | _, _, _, _, _ => false
/-- What has come up so far of the operations that are not free: all; those that may turn any block; those that turn no old block; those that turn one block; those that look at one block or lay new ones alone. -/
structure Dc where
  all : Nat
  om : Nat
  gm : Nat
  ws : List (Nat × Nat)
  ls : List (Nat × Nat × Nat)
inductive Kd where
  | load (b : Nat)
  | alloc
  | w (b : Nat)
  | gen
def blk : Option V → Option Nat
  | some (.ptr b _ _) => some b
  | some (.sl b _ _ _ _) => some b
  | _ => none
def kindD (s : St) : Op → Kd
  | .load _ a => match blk (ev s.tm a) with | some b => .load b | none => .alloc
  | .alloc _ | .box .. | .buildSlice .. | .makeSlice .. | .makeMap .. => .alloc
  | .store _ a _ => match blk (ev s.tm a) with | some b => .w b | none => .gen
  | .call c => match c.callee, c.args.toList with
    | .builtin .append, x :: _ => match blk (ev s.tm x) with | some b => .w b | none => .gen
    | _, _ => .gen
  | _ => .gen
def sub (a b : Nat) : Bool := (a &&& b).beq a
def okD (d : Dc) (a nx : Nat) : Kd → Bool
  | .load b => b.blt nx && sub d.om a && d.ws.all fun x => a.testBit x.1 || !(x.2.beq b)
  | .alloc => sub d.om a
  | .w b => b.blt nx && sub d.om a && sub d.gm a && d.ws.all (fun x => a.testBit x.1) && d.ls.all fun x => a.testBit x.1 || !(x.2.1.ble b && b.blt x.2.2)
  | .gen => false
def stepD (s : St) (o : Op) (i a : Nat) (d : Dc) (h : Hp) : Option Dc :=
  if free o then some d
  else match kindD s o with
    | kd => if okD d a s.h.next kd then (match kd with
        | .load b => some { d with all := d.all ||| 2 ^ i, ls := (i, b, b + 1) :: d.ls }
        | .alloc => some { d with all := d.all ||| 2 ^ i, ls := (i, s.h.next, h.next) :: d.ls }
        | .w b => some { d with all := d.all ||| 2 ^ i, ws := (i, b) :: d.ws }
        | .gen => none)
      else if s.h.next.ble h.low && sub d.om a && d.ws.all (fun x => a.testBit x.1) then some { d with all := d.all ||| 2 ^ i, gm := d.gm ||| 2 ^ i }
      else if sub d.all a then some { d with all := d.all ||| 2 ^ i, om := d.om ||| 2 ^ i }
      else none
/-- the operations of a region that draws its order, in the order of the text, if that serves every order -/
def evDraw (cx : Cx) (ops : List Oper) : List Oper → List Nat → Nat → Dc → St → (St → M) → M
  | [], _, _, _, s, k => k s
  | o :: rest, a :: as, i, d, s, k =>
    if wanted ops s.tm o then evOp cx ⟨s.tm, ⟨s.h.tr, s.h.next, s.h.next⟩⟩ o fun v h =>
      match stepD s o.op i a d h with
      | some d' => evDraw cx ops rest as (i + 1) d' (St.put ⟨s.tm, ⟨h.tr, h.next, min s.h.low h.low⟩⟩ o.dst v) k
      | none => .no
    else evDraw cx ops rest as (i + 1) d (s.put o.dst .und) k
  | _ :: _, [], _, _, _, _ => .no
def evDraws (cx : Cx) (ops : List Oper) (s : St) (k : St → M) : M :=
  match masks .nil 0 ops with
  | ms => if drawP ops ops ms 0 .nil .nil then evDraw cx ops ops ms 0 ⟨0, 0, 0, [], []⟩ s k else .no
def resV (cx : Cx) (s : St) : List ResultVar → Option (List V)
  | [] => some []
  | .tmp t :: r => match s.tm[t]?, resV cx s r with
    | some v, some l => some (v :: l)
    | _, _ => none
  | .cell a t :: r => match s.tm[a]? with
    | some p => match loadAt cx s.h t p, resV cx s r with
      | some v, some l => some (v :: l)
      | _, _ => none
    | none => none
def tupV : List V → V
  | [v] => v
  | vs => .tup vs
def onSeq (b : Code) : Rs → M
  | .out .normal s => .call (.code b s) .ret
  | r => .ret r
def onBlock (id : Nat) : Rs → M
  | .out (.exit j) s => .ret (.out (if j = id then .normal else .exit j) s)
  | r => .ret r
def onRange (b : Nat) (tm : List V) (_ : V) (h : Hp) : M :=
  match h.get b with
  | some (.loop l) => match l.st with
    | .busy => .no
    | _ => match l.pend with
      | none => .ret (.out .normal ⟨tm, h.put b (.loop { l with st := .exhausted })⟩)
      | some .ret => .ret (.out .ret ⟨tm, h.put b (.loop { l with st := .exhausted })⟩)
      | some (.exit id) => .ret (.out (.exit id) ⟨tm, h.put b (.loop { l with st := .exhausted })⟩)
      | _ => .no
  | _ => .no
def onBody (cx : Cx) (fn : Func) (k : V → Hp → M) : Rs → M
  | .out (.exit _) _ => .no
  | .out _ s => match resV cx s fn.results.toList with
    | some vs => k (tupV vs) s.h
    | none => .no
  | _ => .no
def frameOf (fn : Func) (args : List V) : List V := args ++ List.replicate (fn.ntmps - args.length) .und
def shut (v : V) (h : Hp) : M :=
  match fz false h fzDepth v with
  | some v => .ret (.val v .empty)
  | none => .no
def stepCode (cx : Cx) (c : Code) (s : St) : M :=
  match c with
  | .skip => .ret (.out .normal s)
  | .ret => .ret (.out .ret s)
  | .label _ => .ret (.out .normal s)
  | .scope c => .call (.code c s) .ret
  | .exit id => .ret (.out (.exit id) s)
  | .seq a b => .call (.code a s) (onSeq b)
  | .cond c a b => match ev s.tm c with
    | some (.bool t) => .call (.code (if t then a else b) s) .ret
    | _ => .no
  | .block id c => .call (.code c s) (onBlock id)
  | .loop c => .call (.code c s) (onSeq (.loop c))
  | .region _ ops false => evOps cx ops.toList ops.toList s fun s' => .ret (.out .normal s')
  | .region _ ops true => evDraws cx ops.toList s fun s' => .ret (.out .normal s')
  | .rangeFunc g ps assign body => match ev s.tm g with
    | some (.fn (.func f) first cap) => .call (.call f (first ++ [.yld s.h.next] ++ cap) (s.h.add (.loop ⟨.ready, none, s.tm, ps.toList, assign, body⟩))) (onVal (onRange s.h.next s.tm))
    | _ => .no
  | _ => .no
def step (cx : Cx) : Tk → M
  | .code c s => stepCode cx c s
  | .call f args h => match cx.fn f with
    | some fn => match fn.body with
      | some c => .call (.code c ⟨frameOf fn args, h⟩) (onBody cx fn fun v h => .ret (.val v h))
      | none => .no
    | none => .no
  | .pcall f args => match specOf cx f args with
    | some v => .ret (.val v .empty)
    | none => match cx.fn f with
      | some fn => match fn.body with
        | some c => .call (.code c ⟨frameOf fn args, .empty⟩) (onBody cx fn shut)
        | none => .no
      | none => .no
def evF (cx : Cx) : Nat → Tk → Option Rs
  | 0, _ => none
  | n + 1, t => (step cx t).run (evF cx n)

/-! What the evaluator is told, out of the program itself. -/
def tdOf (d : TypeDesc) : Td :=
  match d with
  | .bool => .bool | .int k => .int k | .float k => .flt k | .string => .str | .pointer e => .ptr e | .slice e => .slice e
  | .array n e => .arr n e | .map k e => .map k e | .struct fs => .strct (fs.toList.map fun f => (f.type, f.offset))
  | .interface _ => .iface | .func .. => .func | _ => .other
/-- a type whose cells are whole numbers, bools and strings alone, each of which counts: their kinds -/
def flatFs (P : Program) (g : Nat → Option (List K3)) : List Field → Nat → Option (List K3)
  | [], _ => some []
  | f :: fs, off => if f.name ≠ "_" ∧ f.offset = off then match g f.type, P.info? f.type with
    | some ks, some i => if i.size = ks.length then match flatFs P g fs (off + ks.length) with
      | some r => some (ks ++ r)
      | none => none else none
    | _, _ => none else none
def flatK (P : Program) : Nat → Nat → Option (List K3)
  | 0, _ => none
  | d + 1, t => match P.underlying t with
    | some .bool => some [.b]
    | some (.int _) => some [.i]
    | some .string => some [.s]
    | some (.struct fs) => if P.stoodInHeld t then none else flatFs P (flatK P d) fs.toList 0
    | _ => none
def aggT : TypeDesc → Bool
  | .struct _ | .array _ _ => true
  | _ => false
/-- each field's type is known -/
def known (P : Program) : TypeDesc → Bool
  | .struct fs => fs.toList.all fun f => (P.info? f.type).isSome
  | _ => true
def tyOf (P : Program) (t : Nat) : Option Ti :=
  match P.info? t, P.underlying t with
  | some i, some d => if !known P d then none else some { agg := aggT d, size := i.size, bytes := i.bytes, zero := i.zero.bind ofConst, flat := flatK P 8 t, d := tdOf d }
  | _, _ => none
def methOf (P : Program) (t : Nat) (m : String) : Option Nat :=
  match P.info? t, P.underlying t with
  | some i, some d => match i.methods.find? (·.name == m) with
    | some x => if x.path.isEmpty then match x.func, d with
      | some (f, true), .pointer _ => some f
      | some (_, false), .pointer _ => none
      | some (f, false), _ => some f
      | _, _ => none else none
    | none => none
  | _, _ => none
end Go.Ev
end

section
set_option linter.unusedVariables false
set_option linter.unusedSimpArgs false
namespace Go.Ev
abbrev FM := Nat → Option (Nat × Nat × Nat)
abbrev GM := Bool → Nat → Prop
def noF : FM := fun _ => none
def GM.cut (G : GM) (β : Bool) : GM := fun b => G (b && β)
def ones (cs : List V) : Prop := ∀ v ∈ cs, v.one = true
mutual
def VR (w : World) : FM → GM → V → Value → Prop
  | _, _, .bool b, x => x = .bool b
  | _, _, .int k n, x => x = .int k n
  | _, _, .flt k n, x => x = .float k n
  | _, _, .str s, x => x = .string s
  | _, _, .pnil, x => x = .pointer none
  | f, _, .ptr b i j, x => ∃ k s z, f b = some (k, s, z) ∧ x = .pointer (some ⟨k, s + i * z + j, none⟩)
  | _, G, .ipt β cs o, x => ∃ k a cc e fr, G β k ∧ x = .pointer (some ⟨k, a + o, none⟩) ∧ w.heap[k]? = some (.cells cc e fr) ∧ ones cs ∧ VRs w noF (G.cut β) cs (fun i => cc[a + i]?)
  | _, _, .snil, x => x = .slice none 0 0
  | f, _, .sl b o n z c, x => ∃ k s c' a, f b = some (k, s, z) ∧ x = .slice (some a) n c' ∧ (c' ≠ 0 → a = ⟨k, s + o * z, none⟩) ∧ n ≤ c' ∧ (∀ y, c = some y → c' = y) ∧ ∃ cc e fr, w.heap[k]? = some (.cells cc e fr) ∧ s + o * z + c' * z ≤ cc.size
  | _, G, .imm β z clip es, x => ∃ a c', x = .slice (some a) es.length c' ∧ es.length ≤ c' ∧ (clip = true → c' = es.length) ∧
      (es ≠ [] → a.spot = none ∧ G β a.block ∧ ∃ cc e fr, w.heap[a.block]? = some (.cells cc e fr) ∧ VRr w noF (G.cut β) z es (fun i => cc[a.off + i]?))
  | _, _, .mnil, x => x = .map none
  | f, _, .map b, x => ∃ k s z, f b = some (k, s, z) ∧ x = .map (some k)
  | f, G, .fn g a c, x => ∃ a' c', x = .func g a' c' ∧ a'.size = a.length ∧ c'.size = c.length ∧ VRs w f G a (fun i => a'[i]?) ∧ VRs w f G c (fun i => c'[i]?)
  | f, _, .yld b, x => ∃ k s z, f b = some (k, s, z) ∧ x = .func (.yield k) #[] #[]
  | _, _, .fnil, x => x = .nilFunc
  | f, G, .ifc t v, x => ∃ u, x = .iface t u ∧ VR w f G v u
  | _, _, .inil, x => x = .nilIface
  | f, G, .agg cs, x => ∃ c', x = .agg c' ∧ c'.size = cs.length ∧ ones cs ∧ VRs w f G cs (fun i => c'[i]?)
  | _, _, .any, x => ∀ b, x ≠ .bool b
  | f, G, .tup vs, x => ∃ c', x = .tuple c' ∧ c'.size = vs.length ∧ VRs w f G vs (fun i => c'[i]?)
def VRs (w : World) : FM → GM → List V → (Nat → Option Value) → Prop
  | _, _, [], _ => True
  | f, G, v :: vs, g => (∃ u, g 0 = some u ∧ VR w f G v u) ∧ VRs w f G vs (fun i => g (i + 1))
def VRr (w : World) : FM → GM → Nat → List (List V) → (Nat → Option Value) → Prop
  | _, _, _, [], _ => True
  | f, G, z, r :: rs, g => r.length = z ∧ ones r ∧ VRs w f G r g ∧ VRr w f G z rs (fun i => g (z + i))
end
end Go.Ev
end

section
set_option linter.unusedVariables false
set_option linter.unusedSimpArgs false
namespace Go.Ev
def FLe (f f' : FM) : Prop := ∀ b y, f b = some y → f' b = some y
def GLe (G G' : GM) : Prop := ∀ β k, G β k → G' β k
def SKept (w w' : World) : Prop := ∀ (k : Nat) (cc : Array Value) (e : TypeId) (fr : Nat × Nat), w.heap[k]? = some (Obj.cells cc e fr) → ∃ (cc' : Array Value) (e' : TypeId) (fr' : Nat × Nat), w'.heap[k]? = some (Obj.cells cc' e' fr') ∧ cc'.size = cc.size
theorem SKept.refl (w : World) : SKept w w := fun _ cc e fr h => ⟨cc, e, fr, h, rfl⟩
theorem SKept.trans {a b c : World} (x : SKept a b) (y : SKept b c) : SKept a c := fun k cc e fr h => by
  obtain ⟨c1, e1, f1, h1, s1⟩ := x k cc e fr h
  obtain ⟨c2, e2, f2, h2, s2⟩ := y k c1 e1 f1 h1
  exact ⟨c2, e2, f2, h2, s2.trans s1⟩
theorem SKept.of_eq {w w' : World} (h : ∀ k, k < w.heap.size → w'.heap[k]? = w.heap[k]?) : SKept w w' := fun k cc e fr hk => by
  have : k < w.heap.size := (Array.getElem?_eq_some_iff.1 hk).1
  exact ⟨cc, e, fr, by rw [h k this, hk], rfl⟩
def GKept (G : GM) (w w' : World) : Prop := (∀ β k, G β k → w'.heap[k]? = w.heap[k]?) ∧ SKept w w'
theorem GKept.refl (G : GM) (w : World) : GKept G w w := ⟨fun _ _ _ => rfl, SKept.refl w⟩
theorem FLe.refl (f : FM) : FLe f f := fun _ _ h => h
theorem FLe.trans {f g h : FM} (a : FLe f g) (b : FLe g h) : FLe f h := fun x y e => b x y (a x y e)
theorem GLe.refl (G : GM) : GLe G G := fun _ _ h => h
theorem GLe.trans {f g h : GM} (a : GLe f g) (b : GLe g h) : GLe f h := fun x y e => b x y (a x y e)
theorem noF_le (f : FM) : FLe noF f := fun b y h => by simp [noF] at h
theorem GLe.cut {G G' : GM} (h : GLe G G') (β : Bool) : GLe (G.cut β) (G'.cut β) := fun b k => h (b && β) k
theorem GKept.cut {G : GM} {w w' : World} (h : GKept G w w') (β : Bool) : GKept (G.cut β) w w' := ⟨fun b k => h.1 (b && β) k, h.2⟩
mutual
theorem VR.mono {w w' : World} : ∀ (v : V) {f f' : FM} {G G' : GM} {x : Value}, FLe f f' → GLe G G' → GKept G w w' → VR w f G v x → VR w' f' G' v x
  | .bool _, _, _, _, _, _, _, _, _, h => by simpa [VR] using h
  | .int _ _, _, _, _, _, _, _, _, _, h => by simpa [VR] using h
  | .flt _ _, _, _, _, _, _, _, _, _, h => by simpa [VR] using h
  | .str _, _, _, _, _, _, _, _, _, h => by simpa [VR] using h
  | .pnil, _, _, _, _, _, _, _, _, h => by simpa [VR] using h
  | .ptr b i j, _, _, _, _, _, hf, _, _, h => by
    simp only [VR] at h ⊢
    obtain ⟨k, s, z, e, hx⟩ := h
    exact ⟨k, s, z, hf _ _ e, hx⟩
  | .ipt β cs o, f, f', G, G', _, _, hG, hw, h => by
    simp only [VR] at h ⊢
    obtain ⟨k, a, cc, e, fr, hg, hx, hc, ho, hs⟩ := h
    exact ⟨k, a, cc, e, fr, hG _ _ hg, hx, by rw [hw.1 _ _ hg]; exact hc, ho, VRs.mono cs (FLe.refl _) (hG.cut β) (hw.cut β) hs⟩
  | .snil, _, _, _, _, _, _, _, _, h => by simpa [VR] using h
  | .sl _ _ _ _ _, _, _, _, _, _, hf, _, hw, h => by
    simp only [VR] at h ⊢
    obtain ⟨k, s, c', a, e, h1, h2, h3, h4, cc, e', fr, h5, h6⟩ := h
    obtain ⟨cc', e2, fr', h7, h8⟩ := hw.2 k cc e' fr h5
    exact ⟨k, s, c', a, hf _ _ e, h1, h2, h3, h4, cc', e2, fr', h7, by rw [h8]; exact h6⟩
  | .imm β z clip es, f, f', G, G', _, _, hG, hw, h => by
    simp only [VR] at h ⊢
    obtain ⟨a, c', hx, hn, hcl, h⟩ := h
    refine ⟨a, c', hx, hn, hcl, fun hne => ?_⟩
    obtain ⟨hs, hg, cc, e, fr, hc, hr⟩ := h hne
    exact ⟨hs, hG _ _ hg, cc, e, fr, by rw [hw.1 _ _ hg]; exact hc, VRr.mono z es (FLe.refl _) (hG.cut β) (hw.cut β) hr⟩
  | .mnil, _, _, _, _, _, _, _, _, h => by simpa [VR] using h
  | .map _, _, _, _, _, _, hf, _, _, h => by
    simp only [VR] at h ⊢
    obtain ⟨k, s, z, e, hx⟩ := h
    exact ⟨k, s, z, hf _ _ e, hx⟩
  | .fn _ a c, _, _, _, _, _, hf, hG, hw, h => by
    simp only [VR] at h ⊢
    obtain ⟨a', c', hx, h1, h2, h3, h4⟩ := h
    exact ⟨a', c', hx, h1, h2, VRs.mono a hf hG hw h3, VRs.mono c hf hG hw h4⟩
  | .yld _, _, _, _, _, _, hf, _, _, h => by
    simp only [VR] at h ⊢
    obtain ⟨k, s, z, e, hx⟩ := h
    exact ⟨k, s, z, hf _ _ e, hx⟩
  | .fnil, _, _, _, _, _, _, _, _, h => by simpa [VR] using h
  | .ifc _ v, _, _, _, _, _, hf, hG, hw, h => by
    simp only [VR] at h ⊢
    obtain ⟨u, hx, hu⟩ := h
    exact ⟨u, hx, VR.mono v hf hG hw hu⟩
  | .inil, _, _, _, _, _, _, _, _, h => by simpa [VR] using h
  | .agg cs, _, _, _, _, _, hf, hG, hw, h => by
    simp only [VR] at h ⊢
    obtain ⟨c', hx, h1, ho, h2⟩ := h
    exact ⟨c', hx, h1, ho, VRs.mono cs hf hG hw h2⟩
  | .any, _, _, _, _, _, _, _, _, h => by simpa only [VR] using h
  | .tup vs, _, _, _, _, _, hf, hG, hw, h => by
    simp only [VR] at h ⊢
    obtain ⟨c', hx, h1, h2⟩ := h
    exact ⟨c', hx, h1, VRs.mono vs hf hG hw h2⟩
theorem VRs.mono {w w' : World} : ∀ (vs : List V) {f f' : FM} {G G' : GM} {g : Nat → Option Value}, FLe f f' → GLe G G' → GKept G w w' → VRs w f G vs g → VRs w' f' G' vs g
  | [], _, _, _, _, _, _, _, _, _ => by simp [VRs]
  | v :: vs, _, _, _, _, _, hf, hG, hw, h => by
    simp only [VRs] at h ⊢
    obtain ⟨⟨u, e, hu⟩, hr⟩ := h
    exact ⟨⟨u, e, VR.mono v hf hG hw hu⟩, VRs.mono vs hf hG hw hr⟩
theorem VRr.mono {w w' : World} (z : Nat) : ∀ (es : List (List V)) {f f' : FM} {G G' : GM} {g : Nat → Option Value}, FLe f f' → GLe G G' → GKept G w w' → VRr w f G z es g → VRr w' f' G' z es g
  | [], _, _, _, _, _, _, _, _, _ => by simp [VRr]
  | r :: rs, _, _, _, _, _, hf, hG, hw, h => by
    simp only [VRr] at h ⊢
    obtain ⟨h1, h2, h3, h4⟩ := h
    exact ⟨h1, h2, VRs.mono r hf hG hw h3, VRr.mono z rs hf hG hw h4⟩
end
mutual
theorem VR.pure {w : World} : ∀ (v : V) {f : FM} {G : GM} {x : Value}, v.pure = true → VR w f G v x → VR w noF G v x
  | .bool _, _, _, _, _, h => by simpa [VR] using h
  | .int _ _, _, _, _, _, h => by simpa [VR] using h
  | .flt _ _, _, _, _, _, h => by simpa [VR] using h
  | .str _, _, _, _, _, h => by simpa [VR] using h
  | .pnil, _, _, _, _, h => by simpa [VR] using h
  | .ptr _ _ _, _, _, _, hp, _ => by simp [V.pure] at hp
  | .ipt _ _ _, _, _, _, _, h => by simpa [VR] using h
  | .snil, _, _, _, _, h => by simpa [VR] using h
  | .sl _ _ _ _ _, _, _, _, hp, _ => by simp [V.pure] at hp
  | .imm _ _ _ _, _, _, _, _, h => by simpa [VR] using h
  | .mnil, _, _, _, _, h => by simpa [VR] using h
  | .map _, _, _, _, hp, _ => by simp [V.pure] at hp
  | .fn _ a c, _, _, _, hp, h => by
    simp only [VR] at h ⊢
    simp only [V.pure, Bool.and_eq_true] at hp
    obtain ⟨a', c', hx, h1, h2, h3, h4⟩ := h
    exact ⟨a', c', hx, h1, h2, VRs.pure a hp.1 h3, VRs.pure c hp.2 h4⟩
  | .yld _, _, _, _, hp, _ => by simp [V.pure] at hp
  | .fnil, _, _, _, _, h => by simpa [VR] using h
  | .ifc _ v, _, _, _, hp, h => by
    simp only [VR] at h ⊢
    obtain ⟨u, hx, hu⟩ := h
    exact ⟨u, hx, VR.pure v (by simpa [V.pure] using hp) hu⟩
  | .inil, _, _, _, _, h => by simpa [VR] using h
  | .agg cs, _, _, _, hp, h => by
    simp only [VR] at h ⊢
    obtain ⟨c', hx, h1, ho, h2⟩ := h
    exact ⟨c', hx, h1, ho, VRs.pure cs (by simpa [V.pure] using hp) h2⟩
  | .any, _, _, _, _, h => by simpa only [VR] using h
  | .tup vs, _, _, _, hp, h => by
    simp only [VR] at h ⊢
    obtain ⟨c', hx, h1, h2⟩ := h
    exact ⟨c', hx, h1, VRs.pure vs (by simpa [V.pure] using hp) h2⟩
theorem VRs.pure {w : World} : ∀ (vs : List V) {f : FM} {G : GM} {g : Nat → Option Value}, V.pures vs = true → VRs w f G vs g → VRs w noF G vs g
  | [], _, _, _, _, _ => by simp [VRs]
  | v :: vs, _, _, _, hp, h => by
    simp only [VRs] at h ⊢
    simp only [V.pures, Bool.and_eq_true] at hp
    obtain ⟨⟨u, e, hu⟩, hr⟩ := h
    exact ⟨⟨u, e, VR.pure v hp.1 hu⟩, VRs.pure vs hp.2 hr⟩
end
mutual
/-- what bears nothing borrowed lies in memory that stays -/
theorem VR.unlent {w : World} : ∀ (v : V) {f : FM} {G : GM} {x : Value}, v.bor = false → VR w f G v x → VR w f (G.cut false) v x
  | .bool _, _, _, _, _, h => by simpa [VR] using h
  | .int _ _, _, _, _, _, h => by simpa [VR] using h
  | .flt _ _, _, _, _, _, h => by simpa [VR] using h
  | .str _, _, _, _, _, h => by simpa [VR] using h
  | .pnil, _, _, _, _, h => by simpa [VR] using h
  | .ptr _ _ _, _, _, _, _, h => by simpa [VR] using h
  | .ipt β cs _, _, G, _, hp, h => by
    obtain rfl : β = false := by simpa [V.bor] using hp
    simp only [VR] at h ⊢
    have e : (G.cut false).cut false = G.cut false := by funext b; simp [GM.cut]
    rw [e]
    obtain ⟨k, a, cc, e, fr, hg, h⟩ := h
    exact ⟨k, a, cc, e, fr, by simpa [GM.cut] using hg, h⟩
  | .snil, _, _, _, _, h => by simpa [VR] using h
  | .sl _ _ _ _ _, _, _, _, _, h => by simpa [VR] using h
  | .imm β z _ es, _, G, _, hp, h => by
    obtain rfl : β = false := by simpa [V.bor] using hp
    simp only [VR] at h ⊢
    have e : (G.cut false).cut false = G.cut false := by funext b; simp [GM.cut]
    rw [e]
    obtain ⟨a, c', hx, hn, hcl, h⟩ := h
    refine ⟨a, c', hx, hn, hcl, fun hne => ?_⟩
    obtain ⟨hs, hg, h⟩ := h hne
    exact ⟨hs, by simpa [GM.cut] using hg, h⟩
  | .mnil, _, _, _, _, h => by simpa [VR] using h
  | .map _, _, _, _, _, h => by simpa [VR] using h
  | .fn _ a c, _, _, _, hp, h => by
    simp only [VR] at h ⊢
    simp only [V.bor, Bool.or_eq_false_iff] at hp
    obtain ⟨a', c', hx, h1, h2, h3, h4⟩ := h
    exact ⟨a', c', hx, h1, h2, VRs.unlent a hp.1 h3, VRs.unlent c hp.2 h4⟩
  | .yld _, _, _, _, _, h => by simpa [VR] using h
  | .fnil, _, _, _, _, h => by simpa [VR] using h
  | .ifc _ v, _, _, _, hp, h => by
    simp only [VR] at h ⊢
    obtain ⟨u, hx, hu⟩ := h
    exact ⟨u, hx, VR.unlent v (by simpa [V.bor] using hp) hu⟩
  | .inil, _, _, _, _, h => by simpa [VR] using h
  | .agg cs, _, _, _, hp, h => by
    simp only [VR] at h ⊢
    obtain ⟨c', hx, h1, ho, h2⟩ := h
    exact ⟨c', hx, h1, ho, VRs.unlent cs (by simpa [V.bor] using hp) h2⟩
  | .any, _, _, _, _, h => by simpa only [VR] using h
  | .tup vs, _, _, _, hp, h => by
    simp only [VR] at h ⊢
    obtain ⟨c', hx, h1, h2⟩ := h
    exact ⟨c', hx, h1, VRs.unlent vs (by simpa [V.bor] using hp) h2⟩
theorem VRs.unlent {w : World} : ∀ (vs : List V) {f : FM} {G : GM} {g : Nat → Option Value}, V.bors vs = false → VRs w f G vs g → VRs w f (G.cut false) vs g
  | [], _, _, _, _, _ => by simp [VRs]
  | v :: vs, _, _, _, hp, h => by
    simp only [VRs] at h ⊢
    simp only [V.bors, Bool.or_eq_false_iff] at hp
    obtain ⟨⟨u, e, hu⟩, hr⟩ := h
    exact ⟨⟨u, e, VR.unlent v hp.1 hu⟩, VRs.unlent vs hp.2 hr⟩
end
theorem VRs_iff {w : World} {f : FM} {G : GM} : ∀ {vs : List V} {g : Nat → Option Value}, VRs w f G vs g ↔ ∀ i v, vs[i]? = some v → ∃ u, g i = some u ∧ VR w f G v u
  | [], g => by simp [VRs]
  | v :: vs, g => by
    simp only [VRs]
    constructor
    · rintro ⟨h0, h⟩ i u hi
      cases i with
      | zero => simp at hi; subst hi; exact h0
      | succ i => exact VRs_iff.1 h i u (by simpa using hi)
    · intro h
      exact ⟨h 0 v (by simp), VRs_iff.2 fun i u hi => h (i + 1) u (by simpa using hi)⟩
theorem VRr_iff {w : World} {f : FM} {G : GM} {z : Nat} : ∀ {es : List (List V)} {g : Nat → Option Value}, VRr w f G z es g ↔ ∀ i r, es[i]? = some r → r.length = z ∧ ones r ∧ VRs w f G r (fun j => g (i * z + j))
  | [], g => by simp [VRr]
  | r :: rs, g => by
    simp only [VRr]
    constructor
    · rintro ⟨h1, h2, h3, h⟩ i u hi
      cases i with
      | zero => simp at hi; subst hi; simpa using ⟨h1, h2, h3⟩
      | succ i =>
        have := VRr_iff.1 h i u (by simpa using hi)
        refine ⟨this.1, this.2.1, ?_⟩
        have e : (fun j => g ((i + 1) * z + j)) = fun j => g (z + (i * z + j)) := by
          funext j; congr 1; rw [Nat.add_mul]; omega
        rw [e]; exact this.2.2
    · intro h
      have h0 := h 0 r (by simp)
      refine ⟨h0.1, h0.2.1, by simpa using h0.2.2, VRr_iff.2 fun i u hi => ?_⟩
      have := h (i + 1) u (by simpa using hi)
      refine ⟨this.1, this.2.1, ?_⟩
      have e : (fun j => g ((i + 1) * z + j)) = fun j => g (z + (i * z + j)) := by
        funext j; congr 1; rw [Nat.add_mul]; omega
      rw [← e]; exact this.2.2
end Go.Ev
end

section
set_option linter.unusedVariables false
set_option linter.unusedSimpArgs false
namespace Go.Ev
theorem beq_f {a b : Nat} (h : a ≠ b) : a.beq b = false := by
  cases e : a.beq b
  · rfl
  · exact absurd (Nat.eq_of_beq_eq_true e) h
theorem beq_t (a : Nat) : a.beq a = true := Nat.beq_refl a
theorem Tr.get_nil {α : Type} (n : Nat) : (Tr.nil : Tr α).get n = none := rfl
theorem Tr.get_node {α : Type} (l : Tr α) (x : Option α) (r : Tr α) (n : Nat) : (Tr.node l x r).get n = if n = 0 then x else if n % 2 = 1 then l.get (n / 2) else r.get (n / 2 - 1) := by
  simp only [Tr.get]
  by_cases h0 : n = 0
  · subst h0; rfl
  · have : n.beq 0 = false := beq_f h0
    rw [this, if_neg h0]
    by_cases h1 : n % 2 = 1
    · rw [h1, if_pos rfl]; rfl
    · have : (n % 2).beq 1 = false := beq_f h1
      rw [this, if_neg h1]; rfl
theorem Tr.get_setF {α : Type} (a : α) : ∀ (d : Nat) (t : Tr α) (n m : Nat), n < d → (t.setF d n a).get m = if m = n then some a else t.get m := by
  intro d
  induction d with
  | zero => intro t n m h; omega
  | succ d ih =>
    have key : ∀ (l : Tr α) (x : Option α) (r : Tr α) (n m : Nat), n < d + 1 →
        (cond (n.beq 0) (Tr.node l (some a) r) (cond ((n % 2).beq 1) (.node (Tr.setF d l (n / 2) a) x r) (.node l x (Tr.setF d r (n / 2 - 1) a)))).get m = if m = n then some a else (Tr.node l x r).get m := by
      intro l x r n m h
      by_cases h0 : n = 0
      · subst h0
        rw [beq_t, cond_true, Tr.get_node, Tr.get_node]
        by_cases hm : m = 0 <;> simp [hm]
      · have b0 : n.beq 0 = false := beq_f h0
        rw [b0, cond_false]
        by_cases h1 : n % 2 = 1
        · have b1 : (n % 2).beq 1 = true := by rw [h1]; rfl
          rw [b1, cond_true, Tr.get_node, Tr.get_node, ih _ _ _ (by omega)]
          by_cases hm0 : m = 0
          · subst hm0; simp [Ne.symm h0]
          · rw [if_neg hm0, if_neg hm0]
            by_cases hm1 : m % 2 = 1
            · rw [if_pos hm1, if_pos hm1]
              by_cases e : m = n
              · subst e; simp
              · rw [if_neg e, if_neg (by omega)]
            · rw [if_neg hm1, if_neg hm1, if_neg (by omega)]
        · have b1 : (n % 2).beq 1 = false := beq_f h1
          rw [b1, cond_false, Tr.get_node, Tr.get_node, ih _ _ _ (by omega)]
          by_cases hm0 : m = 0
          · subst hm0; simp [Ne.symm h0]
          · rw [if_neg hm0, if_neg hm0]
            by_cases hm1 : m % 2 = 1
            · rw [if_pos hm1, if_pos hm1, if_neg (by omega)]
            · rw [if_neg hm1, if_neg hm1]
              by_cases e : m = n
              · subst e; simp
              · rw [if_neg e, if_neg (by omega)]
    intro t n m h
    cases t with
    | nil =>
      have := key .nil none .nil n m h
      rw [show (Tr.nil : Tr α).setF (d + 1) n a = cond (n.beq 0) (Tr.node .nil (some a) .nil) (cond ((n % 2).beq 1) (.node (Tr.setF d .nil (n / 2) a) none .nil) (.node .nil none (Tr.setF d .nil (n / 2 - 1) a))) from rfl, this]
      congr 1
      rw [Tr.get_node, Tr.get_nil]
      simp [Tr.get_nil]
    | node l x r => exact key l x r n m h
theorem Tr.get_set {α : Type} (t : Tr α) (n : Nat) (a : α) (m : Nat) : (t.set n a).get m = if m = n then some a else t.get m := Tr.get_setF a (n + 1) t n m (Nat.lt_succ_self n)
theorem Hp.get_add (h : Hp) (o : Ob) (b : Nat) : (h.add o).get b = if b = h.next then some o else h.get b := Tr.get_set ..
theorem Hp.get_put (h : Hp) (c : Nat) (o : Ob) (b : Nat) : (h.put c o).get b = if b = c then some o else h.get b := Tr.get_set ..
theorem Hp.get_empty (b : Nat) : Hp.empty.get b = none := rfl
@[simp] theorem Hp.next_add (h : Hp) (o : Ob) : (h.add o).next = h.next + 1 := rfl
@[simp] theorem Hp.low_add (h : Hp) (o : Ob) : (h.add o).low = h.low := rfl
@[simp] theorem Hp.next_put (h : Hp) (c : Nat) (o : Ob) : (h.put c o).next = h.next := rfl
@[simp] theorem Hp.low_put (h : Hp) (c : Nat) (o : Ob) : (h.put c o).low = min h.low c := rfl

/-! ### The heap -/
/-- a map's entries, one by one -/
def ME (w : World) (f : FM) (G : GM) : List (V × V) → List MapEntry → Prop
  | [], [] => True
  | (k, v) :: l, e :: r => VR w f G k e.key ∧ VR w f G v e.val ∧ ME w f G l r
  | _, _ => False
theorem ME.mono {w w' : World} {f f' : FM} {G G' : GM} (hf : FLe f f') (hG : GLe G G') (hw : GKept G w w') : ∀ {l : List (V × V)} {r : List MapEntry}, ME w f G l r → ME w' f' G' l r
  | [], [], _ => trivial
  | (k, v) :: l, e :: r, h => ⟨VR.mono k hf hG hw h.1, VR.mono v hf hG hw h.2.1, ME.mono hf hG hw h.2.2⟩
  | [], _ :: _, h => h
  | (_, _) :: _, [], h => h
theorem ME.length {w : World} {f : FM} {G : GM} : ∀ {l : List (V × V)} {r : List MapEntry}, ME w f G l r → r.length = l.length
  | [], [], _ => rfl
  | (_, _) :: l, _ :: r, h => by simp [ME.length h.2.2]
  | [], _ :: _, h => h.elim
  | (_, _) :: _, [], h => h.elim
/-- A local block against a block of memory. -/
def OR (w : World) (f : FM) (G : GM) (k s z : Nat) : Ob → Prop
  | .cells rows z' => z' = z ∧ ∃ cc e fr, w.heap[k]? = some (.cells cc e fr) ∧ (fr.2 ≤ fr.1 ∨ cc.size ≤ fr.1) ∧ VRr w f G z rows (fun i => cc[s + i]?)
  | .map es => ∃ es' clock, w.heap[k]? = some (.map es' clock) ∧ ME w f G es es'.toList
  | .loop l => ∃ l', w.heap[k]? = some (.loop l') ∧ l'.state = l.st ∧ l'.pending = l.pend ∧ l'.tmps.size = l.tmps.length ∧ VRs w f G l.tmps (fun i => l'.tmps[i]?) ∧ l'.params.toList = l.params ∧ l'.assign = l.assign ∧ l'.body = l.body
  | .dead => True
def live (h : Hp) (b : Nat) : Prop := ∃ o, h.get b = some o ∧ o matches .cells .. | .map .. | .loop ..
structure Inv (w : World) (f : FM) (G : GM) (h : Hp) : Prop where
  dom : ∀ b y, f b = some y → b < h.next
  rng : ∀ b k s z, f b = some (k, s, z) → k < w.heap.size ∧ ∀ β, ¬ G β k
  inj : ∀ b b' k s z s' z', f b = some (k, s, z) → f b' = some (k, s', z') → b ≠ b' → ¬ (live h b ∧ live h b')
  gin : ∀ β k, G β k → k < w.heap.size
  gup : ∀ k, G false k → G true k
  rel : ∀ b k s z o, f b = some (k, s, z) → h.get b = some o → OR w f G k s z o
/-- What has become of the world and the heap. -/
structure Stp (w : World) (f : FM) (G : GM) (h : Hp) (w' : World) (f' : FM) (G' : GM) (h' : Hp) : Prop where
  os : w'.os = w.os
  tape : w'.tape = w.tape
  output : w'.output = w.output
  size : w.heap.size ≤ w'.heap.size
  fle : FLe f f'
  fnew : ∀ b k s z, f' b = some (k, s, z) → f b = none → h.next ≤ b ∧ (w.heap.size ≤ k ∨ ∃ b0 s0 z0, f b0 = some (k, s0, z0) ∧ h'.low ≤ b0)
  gle : GLe G G'
  gnew : ∀ β k, G' β k → G β k ∨ w.heap.size ≤ k
  nle : h.next ≤ h'.next
  lle : h'.low ≤ h.low
  can : ∀ b, b < h.next → b < h'.low → h'.get b = h.get b
  old : ∀ k, k < w.heap.size → (∀ b s z, f b = some (k, s, z) → b < h'.low) → w'.heap[k]? = w.heap[k]?
  sk : SKept w w'
theorem Stp.refl (w : World) (f : FM) (G : GM) (h : Hp) : Stp w f G h w f G h :=
  ⟨rfl, rfl, rfl, Nat.le_refl _, FLe.refl _, (fun b k s z e e' => by rw [e] at e'; cases e'), GLe.refl _, (fun _ _ h => Or.inl h), Nat.le_refl _, Nat.le_refl _, fun _ _ _ => rfl, fun _ _ _ => rfl, SKept.refl w⟩
theorem Stp.trans {w w1 w2 : World} {f f1 f2 : FM} {G G1 G2 : GM} {h h1 h2 : Hp} (a : Stp w f G h w1 f1 G1 h1) (b : Stp w1 f1 G1 h1 w2 f2 G2 h2) : Stp w f G h w2 f2 G2 h2 where
  os := b.os.trans a.os
  tape := b.tape.trans a.tape
  output := b.output.trans a.output
  sk := a.sk.trans b.sk
  size := Nat.le_trans a.size b.size
  fle := a.fle.trans b.fle
  fnew := fun c k s z e e0 => by
    cases e1 : f1 c with
    | some y =>
      have := b.fle _ _ e1
      rw [e] at this
      obtain rfl : (k, s, z) = y := by simpa using this
      obtain ⟨x1, x2⟩ := a.fnew _ _ _ _ e1 e0
      refine ⟨x1, x2.imp id fun ⟨b0, s0, z0, hb, hl⟩ => ⟨b0, s0, z0, hb, Nat.le_trans b.lle hl⟩⟩
    | none =>
      obtain ⟨x1, x2⟩ := b.fnew _ _ _ _ e e1
      refine ⟨Nat.le_trans a.nle x1, ?_⟩
      rcases x2 with x2 | ⟨b0, s0, z0, hb, hl⟩
      · exact .inl (Nat.le_trans a.size x2)
      · cases e2 : f b0 with
        | some y =>
          have := a.fle _ _ e2
          rw [hb] at this
          obtain rfl : (k, s0, z0) = y := by simpa using this
          exact .inr ⟨b0, s0, z0, e2, hl⟩
        | none =>
          obtain ⟨_, y2⟩ := a.fnew _ _ _ _ hb e2
          rcases y2 with y2 | ⟨b1, s1, z1, hb1, hl1⟩
          · exact .inl y2
          · exact .inr ⟨b1, s1, z1, hb1, Nat.le_trans b.lle hl1⟩
  gle := a.gle.trans b.gle
  gnew := fun β k hk => by
    rcases b.gnew β k hk with h' | h'
    · exact a.gnew β k h'
    · exact .inr (Nat.le_trans a.size h')
  nle := Nat.le_trans a.nle b.nle
  lle := Nat.le_trans b.lle a.lle
  can := fun c hc hl => by
    rw [b.can c (Nat.lt_of_lt_of_le hc a.nle) hl, a.can c hc (Nat.lt_of_lt_of_le hl b.lle)]
  old := fun k hk hf => by
    rw [b.old k (Nat.lt_of_lt_of_le hk a.size) ?_, a.old k hk ?_]
    · exact fun c s z e => Nat.lt_of_lt_of_le (hf c s z e) b.lle
    · intro c s z e
      cases e0 : f c with
      | some y =>
        have := a.fle _ _ e0
        rw [e] at this
        obtain rfl : (k, s, z) = y := by simpa using this
        exact hf c s z e0
      | none =>
        obtain ⟨x1, x2⟩ := a.fnew _ _ _ _ e e0
        rcases x2 with x2 | ⟨b0, s0, z0, hb, hl⟩
        · omega
        · exact absurd (hf b0 s0 z0 hb) (by have := b.lle; omega)
theorem Stp.gkept {w w' : World} {f f' : FM} {G G' : GM} {h h' : Hp} (i : Inv w f G h) (a : Stp w f G h w' f' G' h') : GKept G w w' :=
  ⟨fun β k hk => a.old k (i.gin β k hk) fun b s z e => absurd hk ((i.rng b k s z e).2 β), a.sk⟩
theorem VR.step {w w' : World} {f f' : FM} {G G' : GM} {h h' : Hp} (i : Inv w f G h) (a : Stp w f G h w' f' G' h') {v : V} {x : Value} (hv : VR w f G v x) : VR w' f' G' v x :=
  VR.mono v a.fle a.gle (a.gkept i) hv
theorem VRs.step {w w' : World} {f f' : FM} {G G' : GM} {h h' : Hp} (i : Inv w f G h) (a : Stp w f G h w' f' G' h') {vs : List V} {g : Nat → Option Value} (hv : VRs w f G vs g) : VRs w' f' G' vs g :=
  VRs.mono vs a.fle a.gle (a.gkept i) hv
end Go.Ev
end

section
set_option linter.unusedVariables false
set_option linter.unusedSimpArgs false
namespace Go.Ev
variable {P : Program} {cx : Cx} {w : World} {f : FM} {G : GM}
theorem ofScalar_ok {u : Value} {v : V} (h : ofScalar u = some v) : VR w f G v u ∧ v.one = true := by
  unfold ofScalar at h
  split at h <;> first | (cases h; simp [VR, V.one]; done) | cases h
theorem ofScalars_ok : ∀ {us : List Value} {vs : List V}, ofScalars us = some vs → VRs w f G vs (fun i => us[i]?) ∧ vs.length = us.length ∧ ones vs
  | [], vs, h => by simp [ofScalars] at h; subst h; simp [VRs, ones]
  | u :: us, vs, h => by
    simp only [ofScalars] at h
    cases h1 : ofScalar u with
    | none => simp [h1] at h
    | some x =>
      simp only [h1] at h
      cases h2 : ofScalars us with
      | none => simp [h2] at h
      | some xs =>
        simp only [h2, Option.some.injEq] at h
        subst h
        obtain ⟨a, b, c⟩ := ofScalars_ok h2
        obtain ⟨p, q⟩ := ofScalar_ok (w := w) (f := f) (G := G) h1
        refine ⟨?_, by simp [b], by simpa [ones] using ⟨q, c⟩⟩
        simp only [VRs]
        exact ⟨⟨u, by simp, p⟩, by simpa using a⟩
theorem ofConst_ok {u : Value} {v : V} (h : ofConst u = some v) : VR w f G v u := by
  unfold ofConst at h
  split at h
  · rename_i cs
    cases h1 : ofScalars cs.toList with
    | none => simp [h1] at h
    | some l =>
      simp only [h1, Option.some.injEq] at h
      subst h
      obtain ⟨a, b, c⟩ := ofScalars_ok (w := w) (f := f) (G := G) h1
      simp only [VR]
      exact ⟨cs, rfl, by simp [b], c, by simpa using a⟩
  · rename_i vs
    split at h
    · rename_i he
      cases h
      have : vs = #[] := by simpa using he
      subst this
      simp [VR, VRs, V.und]
    · cases h
  · exact (ofScalar_ok h).1
def ActR (w : World) (f : FM) (G : GM) (tm : List V) (a : Act) : Prop := a.tmps.size = tm.length ∧ VRs w f G tm (fun i => a.tmps[i]?)
theorem ev_ok {tm : List V} {a : Act} {o : Operand} {v : V} (ha : ActR w f G tm a) (h : ev tm o = some v) : VR w f G v (a.eval o) := by
  cases o with
  | tmp t =>
    simp only [ev] at h
    obtain ⟨u, hu, hv⟩ := VRs_iff.1 ha.2 t v h
    simpa [Act.eval, Array.getD_eq_getD_getElem?, hu] using hv
  | const c => exact ofConst_ok h
  | global g => simp [ev] at h
  | func g =>
    simp only [ev, Option.some.injEq] at h
    subst h
    simp [Act.eval, VR, VRs]
theorem evs_ok {tm : List V} {a : Act} (ha : ActR w f G tm a) : ∀ {os : List Operand} {vs : List V}, evs tm os = some vs → VRs w f G vs (fun i => (os.map a.eval)[i]?) ∧ vs.length = os.length
  | [], vs, h => by simp [evs] at h; subst h; simp [VRs]
  | o :: os, vs, h => by
    simp only [evs] at h
    cases h1 : ev tm o with
    | none => simp [h1] at h
    | some x =>
      simp only [h1] at h
      cases h2 : evs tm os with
      | none => simp [h2] at h
      | some xs =>
        simp only [h2, Option.some.injEq] at h
        subst h
        obtain ⟨p, q⟩ := evs_ok ha h2
        refine ⟨?_, by simp [q]⟩
        simp only [VRs]
        exact ⟨⟨a.eval o, by simp, ev_ok ha h1⟩, by simpa using p⟩
theorem ActR.put {tm : List V} {a : Act} {d : Option Nat} {v : V} {x : Value} {h : Hp} (ha : ActR w f G tm a) (hv : VR w f G v x) : ActR w f G (St.put ⟨tm, h⟩ d v).tm (a.put d x) := by
  cases d with
  | none => exact ha
  | some d =>
    refine ⟨by simpa [Act.put, St.put] using ha.1, VRs_iff.2 fun i u hi => ?_⟩
    simp only [St.put, List.getElem?_set] at hi
    simp only [Act.put, Array.getElem?_setIfInBounds]
    by_cases e : d = i
    · subst e
      simp only [if_true] at hi ⊢
      split at hi
      · rename_i hl
        cases hi
        exact ⟨x, by simp [ha.1, hl], hv⟩
      · cases hi
    · simp only [if_neg e] at hi ⊢
      exact VRs_iff.1 ha.2 i u hi
theorem VR.und : VR w f G V.und undef := by simp [V.und, VR, VRs, undef]
/-! ### Types -/
structure TyF (P : Program) (t : Nat) (i : Ti) : Prop where
  ex : ∃ (info : TypeInfo) (d : TypeDesc), P.info? t = some info ∧ P.underlying t = some d ∧ i.size = info.size ∧ i.bytes = info.bytes ∧ i.agg = aggT d ∧ i.zero = info.zero.bind ofConst ∧ i.flat = flatK P 8 t ∧ i.d = tdOf d ∧ known P d = true
theorem tyF {t : Nat} {i : Ti} (h : tyOf P t = some i) : TyF P t i := by
  unfold tyOf at h
  split at h
  · rename_i info d h1 h2
    split at h
    · cases h
    rename_i hk
    cases h
    exact ⟨info, d, h1, h2, rfl, rfl, rfl, rfl, rfl, rfl, by simpa using hk⟩
  · cases h
theorem TyF.sizeOf {t : Nat} {i : Ti} (h : TyF P t i) (w : World) : (Go.sizeOf t).run P w = .ok i.size w := by
  obtain ⟨info, d, h1, h2, h3, _⟩ := h
  simp [Go.sizeOf, typeInfo, h1, h3]
theorem TyF.bytes {t : Nat} {i : Ti} (h : TyF P t i) (w : World) : ∃ info, (typeInfo t).run P w = .ok info w ∧ info.bytes = i.bytes ∧ P.info? t = some info ∧ info.zero.bind ofConst = i.zero ∧ info.size = i.size := by
  obtain ⟨info, d, h1, h2, h3, h4, _, h5, _⟩ := h
  exact ⟨info, by simp [typeInfo, h1], h4.symm, h1, h5.symm, h3.symm⟩
theorem TyF.isAgg {t : Nat} {i : Ti} (h : TyF P t i) (w : World) : (Go.isAgg t).run P w = .ok i.agg w := by
  obtain ⟨info, d, h1, h2, _, _, h3, _⟩ := h
  rw [h3]
  unfold Go.isAgg
  simp only [Sem.run_bind, underlying, run_program, Result.andThen_ok, h2]
  cases d <;> simp [aggT]
theorem TyF.und {t : Nat} {i : Ti} (h : TyF P t i) (w : World) : ∃ d, (underlying t).run P w = .ok d w ∧ tdOf d = i.d ∧ P.underlying t = some d := by
  obtain ⟨info, d, h1, h2, _, _, _, _, _, h3, _⟩ := h
  exact ⟨d, by simp [underlying, h2], h3.symm, h2⟩
theorem TyF.zero {t : Nat} {i : Ti} (h : TyF P t i) {z : V} (hz : i.zero = some z) (w : World) : ∃ u, (zeroValue t).run P w = .ok u w ∧ ofConst u = some z := by
  obtain ⟨info, d, h1, h2, _, _, _, h3, _⟩ := h
  rw [h3] at hz
  cases hu : info.zero with
  | none => simp [hu] at hz
  | some u =>
    simp only [hu, Option.bind_some] at hz
    exact ⟨u, by simp [zeroValue, typeInfo, h1, hu], hz⟩
/-- cells -/
theorem cells_one {v : V} {x : Value} (hv : VR w f G v x) (h : v.one = true) : x.cells = #[x] := by
  cases v <;> simp only [V.one, Bool.false_eq_true] at h <;> simp only [VR] at hv
  all_goals first
    | (subst hv; rfl)
    | (obtain ⟨_, _, _, _, rfl⟩ := hv; rfl)
    | (obtain ⟨_, _, _, _, rfl, _⟩ := hv; rfl)
    | (obtain ⟨_, _, _, _, _, rfl, _⟩ := hv; rfl)
    | (obtain ⟨_, _, _, _, _, _, rfl, _⟩ := hv; rfl)
    | (obtain ⟨_, _, rfl, _⟩ := hv; rfl)
    | (obtain ⟨_, rfl, _⟩ := hv; rfl)
theorem cl_ok {v : V} {x : Value} {l : List V} (hv : VR w f G v x) (h : v.cl = some l) : x.cells.size = l.length ∧ VRs w f G l (fun i => x.cells[i]?) ∧ ones l := by
  by_cases h1 : v.one = true
  · have e : l = [v] := by cases v <;> simp [V.cl, V.one] at h h1 ⊢ <;> exact h.symm
    subst e
    rw [cells_one hv h1]
    refine ⟨rfl, ?_, by simp [ones, h1]⟩
    simp only [VRs]
    exact ⟨⟨x, by simp, hv⟩, trivial⟩
  · cases v with
    | agg cs =>
      simp only [V.cl, Option.some.injEq] at h
      subst h
      simp only [VR] at hv
      obtain ⟨c', rfl, h1, h2, h3⟩ := hv
      exact ⟨h1, h3, h2⟩
    | tup vs => simp [V.cl] at h
    | any => simp [V.cl] at h
    | _ => simp [V.one] at h1
theorem one_ok {v : V} {x : Value} (hv : VR w f G v x) (h : v.one = true) : x.oneCell' = true := by
  cases v <;> simp only [V.one, Bool.false_eq_true] at h <;> simp only [VR] at hv
  all_goals first
    | (subst hv; rfl)
    | (obtain ⟨_, _, _, _, rfl⟩ := hv; rfl)
    | (obtain ⟨_, _, _, _, rfl, _⟩ := hv; rfl)
    | (obtain ⟨_, _, _, _, _, rfl, _⟩ := hv; rfl)
    | (obtain ⟨_, _, _, _, _, _, rfl, _⟩ := hv; rfl)
    | (obtain ⟨_, _, rfl, _⟩ := hv; rfl)
    | (obtain ⟨_, rfl, _⟩ := hv; rfl)
end Go.Ev
end

section
set_option linter.unusedVariables false
set_option linter.unusedSimpArgs false
namespace Go.Ev
variable {P : Program} {cx : Cx} {w : World} {f : FM} {G : GM} {h : Hp}
theorem add_none (k o n : Nat) : (⟨k, o, none⟩ : Addr).add n = ⟨k, o + n, none⟩ := by unfold Addr.add; split <;> simp_all
theorem add_off {a : Addr} (hs : a.spot = none) (n : Nat) : a.add n = ⟨a.block, a.off + n, none⟩ := by
  obtain ⟨k, o, sp⟩ := a
  simp only at hs
  subst hs
  exact add_none k o n
theorem seg_some {α : Type} {cs l : List α} {o n : Nat} (h : seg cs o n = some l) : o + n ≤ cs.length ∧ l = (cs.drop o).take n := by
  unfold seg at h
  split at h
  · rename_i hl; cases h; exact ⟨hl, rfl⟩
  · cases h
theorem seg_get {α : Type} {cs l : List α} {o n : Nat} (h : seg cs o n = some l) (i : Nat) : l[i]? = if i < n then cs[o + i]? else none := by
  obtain ⟨h1, rfl⟩ := seg_some h
  rw [List.getElem?_take]
  split
  · rw [List.getElem?_drop]
  · rfl
theorem seg_length {α : Type} {cs l : List α} {o n : Nat} (h : seg cs o n = some l) : l.length = n := by
  obtain ⟨h1, rfl⟩ := seg_some h
  simp; omega
theorem lay_some {α : Type} {cs vs l : List α} {o : Nat} (h : lay cs o vs = some l) : o + vs.length ≤ cs.length ∧ l.length = cs.length ∧ ∀ i, l[i]? = if o ≤ i ∧ i < o + vs.length then vs[i - o]? else cs[i]? := by
  unfold lay at h
  split at h
  · rename_i hl
    cases h
    refine ⟨hl, by simp; omega, fun i => ?_⟩
    by_cases h1 : i < o
    · rw [if_neg (by omega), List.append_assoc, List.getElem?_append_left (by simp; omega), List.getElem?_take, if_pos h1]
    · rw [List.append_assoc, List.getElem?_append_right (by simp; omega)]
      have e : (cs.take o).length = o := by simp; omega
      rw [e]
      by_cases h2 : i < o + vs.length
      · rw [if_pos ⟨by omega, h2⟩, List.getElem?_append_left (by omega)]
      · rw [if_neg (by omega), List.getElem?_append_right (by omega), List.getElem?_drop]
        congr 1; omega
  · cases h
theorem lay_ones {cs vs l : List V} {o : Nat} (h : lay cs o vs = some l) (h1 : ones cs) (h2 : ones vs) : ones l := by
  obtain ⟨_, _, hi⟩ := lay_some h
  intro v hv
  obtain ⟨i, hi'⟩ := List.mem_iff_getElem?.1 hv
  rw [hi] at hi'
  split at hi'
  · exact h2 v (List.mem_iff_getElem?.2 ⟨_, hi'⟩)
  · exact h1 v (List.mem_iff_getElem?.2 ⟨_, hi'⟩)
theorem seg_ones {cs l : List V} {o n : Nat} (h : seg cs o n = some l) (h1 : ones cs) : ones l := by
  obtain ⟨_, rfl⟩ := seg_some h
  exact fun v hv => h1 v (List.mem_of_mem_drop (List.mem_of_mem_take hv))
/-- A variable is read: within an element's cells. -/
theorem rd_ok {t : Nat} {i : Ti} (ht : TyF P t i) {k a o : Nat} {cc : Array Value} {e : TypeId} {fr : Nat × Nat} (hb : w.heap[k]? = some (.cells cc e fr)) {cs : List V} (hc : VRs w f G cs (fun j => cc[a + j]?)) (h1 : ones cs) {v : V} (hr : rdCells i cs o = some v) :
    ∃ u, (loadVar t ⟨k, a + o, none⟩).run P w = .ok u w ∧ VR w f G v u := by
  unfold rdCells at hr
  have hcell : ∀ j, w.cell? ⟨k, j, none⟩ = cc[j]? := fun j => cell_of_row w k j cc e fr hb
  cases ha : i.agg with
  | true =>
    rw [ha, if_pos rfl] at hr
    cases hs : seg cs o i.size with
    | none => simp [hs] at hr
    | some l =>
      simp only [hs, Option.map_some, Option.some.injEq] at hr
      subst hr
      have hl := seg_length hs
      have hget : ∀ j, j < i.size → ∃ u, cc[a + o + j]? = some u ∧ ∃ v, l[j]? = some v ∧ VR w f G v u := fun j hj => by
        have e1 := seg_get hs j
        rw [if_pos hj] at e1
        have : j < l.length := by omega
        obtain ⟨u, hu, hv⟩ := VRs_iff.1 hc (o + j) l[j] (by rw [← e1]; simp [this])
        exact ⟨u, by rw [Nat.add_assoc]; exact hu, l[j], by simp [this], hv⟩
      refine ⟨.agg ((List.range i.size).map fun j => (cc[a + o + j]?).getD undef).toArray, ?_, ?_⟩
      · have := run_loadCells (P := P) w ⟨k, a + o, none⟩ i.size (fun j => (cc[a + o + j]?).getD undef) (fun j hj => by
          obtain ⟨u, hu, _⟩ := hget j hj
          rw [add_none, hcell, hu]; rfl)
        simp [loadVar, ht.isAgg w, ht.sizeOf w, this, ha]
      · simp only [VR]
        refine ⟨_, rfl, by simp [hl], seg_ones hs h1, VRs_iff.2 fun j v hj => ?_⟩
        have hj' : j < i.size := by rw [← hl]; exact (List.getElem?_eq_some_iff.1 hj).1
        obtain ⟨u, hu, v', hv', hr⟩ := hget j hj'
        rw [hj] at hv'; cases hv'
        exact ⟨u, by simp [hj', hu], hr⟩
  | false =>
    rw [ha] at hr
    simp only [Bool.false_eq_true, if_false] at hr
    obtain ⟨u, hu, hv⟩ := VRs_iff.1 hc o v hr
    refine ⟨u, ?_, hv⟩
    have hu' : cc[a + o]? = some u := hu
    simp [loadVar, ht.isAgg w, ha, hcell, hu']
/-! ### writing -/
def setBlk (w : World) (k : Nat) (o : Obj) : World := { w with heap := w.heap.setIfInBounds k o }
theorem setBlk_get (w : World) (k : Nat) (o : Obj) (j : Nat) (hk : k < w.heap.size) : (setBlk w k o).heap[j]? = if j = k then some o else w.heap[j]? := by
  simp only [setBlk, Array.getElem?_setIfInBounds]
  by_cases e : k = j
  · subst e; simp [hk]
  · simp [e, Ne.symm e]
theorem setCell_blk {k o : Nat} {cc : Array Value} {e : TypeId} {fr : Nat × Nat} (hb : w.heap[k]? = some (.cells cc e fr)) (v : Value) : w.setCell ⟨k, o, none⟩ v = setBlk w k (.cells (cc.setIfInBounds o v) e fr) := by
  have hk : k < w.heap.size := (Array.getElem?_eq_some_iff.1 hb).1
  unfold World.setCell setBlk
  congr 1
  apply Array.ext_getElem?
  intro j
  rw [Array.getElem?_modify, Array.getElem?_setIfInBounds]
  by_cases ej : k = j
  · subst ej
    have := (Array.getElem?_eq_some_iff.1 hb).2
    simp [hk, this]
  · simp [ej]
theorem setBlk_setBlk (w : World) (k : Nat) (o o' : Obj) : setBlk (setBlk w k o) k o' = setBlk w k o' := by
  unfold setBlk
  congr 1
  apply Array.ext_getElem?
  intro j
  simp only [Array.getElem?_setIfInBounds, Array.size_setIfInBounds]
  by_cases ej : k = j <;> simp [ej]
theorem storeCells_ok {k off : Nat} {e : TypeId} {fr : Nat × Nat} : ∀ (vs : List Value) (i : Nat) (w : World) (cc : Array Value), w.heap[k]? = some (.cells cc e fr) → (fr.2 ≤ fr.1 ∨ cc.size ≤ fr.1) → off + i + vs.length ≤ cc.size → (∀ v ∈ vs, v.oneCell' = true) →
    ∃ cc', cc'.size = cc.size ∧ (∀ j, cc'[j]? = if off + i ≤ j ∧ j < off + i + vs.length then vs[j - (off + i)]? else cc[j]?) ∧ (storeCells ⟨k, off, none⟩ vs i).run P w = .ok () (setBlk w k (.cells cc' e fr))
  | [], i, w, cc, hb, _, _, _ => by
    have hk : k < w.heap.size := (Array.getElem?_eq_some_iff.1 hb).1
    refine ⟨cc, rfl, fun j => by simp; omega, ?_⟩
    have : setBlk w k (.cells cc e fr) = w := by
      unfold setBlk
      have : w.heap.setIfInBounds k (.cells cc e fr) = w.heap := by
        apply Array.ext_getElem?
        intro j
        rw [Array.getElem?_setIfInBounds]
        by_cases ej : k = j
        · subst ej; simp [hk, (Array.getElem?_eq_some_iff.1 hb).2]
        · simp [ej]
      rw [this]
    rw [this]
    simp [storeCells]
  | v :: vs, i, w, cc, hb, hf, hl, h1 => by
    simp only [List.length_cons] at hl
    have hk : k < w.heap.size := (Array.getElem?_eq_some_iff.1 hb).1
    have hc : w.cell? ⟨k, off + i, none⟩ = some (cc[off + i]'(by omega)) := by rw [cell_of_row w k _ cc e fr hb]; simp
    have hfz : w.frozen? ⟨k, off + i, none⟩ = false := by
      simp only [World.frozen?, hb]
      rw [Bool.and_eq_false_iff]
      rcases hf with hf | hf
      · by_cases hx : fr.1 ≤ off + i
        · right; simp; omega
        · left; simpa using hx
      · left; simp; omega
    have hb2 : (setBlk w k (.cells (cc.setIfInBounds (off + i) v) e fr)).heap[k]? = some (.cells (cc.setIfInBounds (off + i) v) e fr) := by rw [setBlk_get _ _ _ _ hk, if_pos rfl]
    obtain ⟨cc', hs, hg, hr⟩ := storeCells_ok (off := off) vs (i + 1) _ _ hb2 (by rw [Array.size_setIfInBounds]; exact hf) (by rw [Array.size_setIfInBounds]; omega) (fun x hx => h1 x (by simp [hx]))
    refine ⟨cc', by simpa using hs, fun j => ?_, ?_⟩
    · rw [hg]
      simp only [Array.getElem?_setIfInBounds, List.length_cons]
      by_cases c1 : off + (i + 1) ≤ j ∧ j < off + (i + 1) + vs.length
      · rw [if_pos c1, if_pos (by omega)]
        rw [show j - (off + i) = (j - (off + (i + 1))) + 1 by omega]
        simp
      · rw [if_neg c1]
        by_cases c2 : off + i = j
        · subst c2
          rw [if_pos rfl, if_pos (by omega), if_pos (by omega)]
          simp
        · rw [if_neg c2, if_neg (by omega)]
    · simp only [storeCells, Sem.run_bind, add_none, run_store P w _ v .plain (h1 v (by simp)), hc, hfz, Bool.false_eq_true, if_false, Result.andThen_ok]
      rw [setCell_blk hb]
      rw [hr, setBlk_setBlk]
/-! ### blocks come, are written, die -/
def fset (f : FM) (b : Nat) (y : Nat × Nat × Nat) : FM := fun c => if c = b then some y else f c
theorem fset_le (i : Inv w f G h) (y : Nat × Nat × Nat) : FLe f (fset f h.next y) := fun b x e => by
  have := i.dom b x e
  simp only [fset]
  rw [if_neg (by omega), e]
theorem OR.mono {w w' : World} {f f' : FM} {G G' : GM} (hf : FLe f f') (hG : GLe G G') (hw : GKept G w w') {k s z : Nat} (hk : w'.heap[k]? = w.heap[k]?) : ∀ {o : Ob}, OR w f G k s z o → OR w' f' G' k s z o
  | .cells rows z', h => by
    obtain ⟨a, cc, e, fr, h1, h2, h3⟩ := h
    exact ⟨a, cc, e, fr, by rw [hk]; exact h1, h2, VRr.mono z rows hf hG hw h3⟩
  | .map es, h => by
    obtain ⟨es', c, h1, h2⟩ := h
    exact ⟨es', c, by rw [hk]; exact h1, ME.mono hf hG hw h2⟩
  | .loop l, h => by
    obtain ⟨l', h1, h2, h3, h4, h5, h6⟩ := h
    exact ⟨l', by rw [hk]; exact h1, h2, h3, h4, VRs.mono _ hf hG hw h5, h6⟩
  | .dead, _ => trivial
theorem live_add {b : Nat} {o : Ob} (h : Hp) : live (h.add o) b → b = h.next ∨ live h b := by
  rintro ⟨o', h1, h2⟩
  rw [Hp.get_add] at h1
  by_cases e : b = h.next
  · exact .inl e
  · rw [if_neg e] at h1; exact .inr ⟨o', h1, h2⟩
theorem add_ok (i : Inv w f G h) (o' : Obj) (o : Ob) (s z : Nat) (ho : ∀ f', FLe f f' → GKept G w (w.alloc o') → OR (w.alloc o') f' G w.heap.size s z o) :
    Stp w f G h (w.alloc o') (fset f h.next (w.heap.size, s, z)) G (h.add o) ∧ Inv (w.alloc o') (fset f h.next (w.heap.size, s, z)) G (h.add o) := by
  have hold : ∀ k, k < w.heap.size → (w.alloc o').heap[k]? = w.heap[k]? := fun k hk => heap_alloc_old w o' k hk
  have hsk : SKept w (w.alloc o') := SKept.of_eq hold
  have hG : GKept G w (w.alloc o') := ⟨fun β k hk => hold k (i.gin β k hk), hsk⟩
  refine ⟨⟨rfl, rfl, rfl, by simp, fset_le i _, fun b k s' z' e e0 => ?_, GLe.refl _, fun _ _ h => .inl h, by simp, by simp, fun b hb _ => ?_, fun k hk _ => hold k hk, hsk⟩, ⟨fun b y e => ?_, fun b k s' z' e => ?_, fun b b' k s1 z1 s2 z2 e e' hne => ?_, fun β k hk => ?_, i.gup, fun b k s' z' o2 e hg => ?_⟩⟩
  · simp only [fset] at e
    by_cases c : b = h.next
    · rw [if_pos c] at e
      simp only [Option.some.injEq, Prod.mk.injEq] at e
      exact ⟨by omega, .inl (by omega)⟩
    · rw [if_neg c, e0] at e; cases e
  · rw [Hp.get_add, if_neg (by omega)]
  · simp only [fset] at e
    by_cases c : b = h.next
    · simp; omega
    · rw [if_neg c] at e; have := i.dom b y e; simp; omega
  · simp only [fset] at e
    by_cases c : b = h.next
    · rw [if_pos c] at e
      simp only [Option.some.injEq, Prod.mk.injEq] at e
      refine ⟨by simp; omega, fun β hk => ?_⟩
      have := i.gin β k hk
      omega
    · rw [if_neg c] at e
      have := i.rng b k s' z' e
      exact ⟨by simp; omega, this.2⟩
  · simp only [fset] at e e'
    rintro ⟨l1, l2⟩
    by_cases c : b = h.next
    · rw [if_pos c] at e
      simp only [Option.some.injEq, Prod.mk.injEq] at e
      rw [if_neg (by omega)] at e'
      have := (i.rng b' k s2 z2 e').1
      omega
    · rw [if_neg c] at e
      by_cases c' : b' = h.next
      · rw [if_pos c'] at e'
        simp only [Option.some.injEq, Prod.mk.injEq] at e'
        have := (i.rng b k s1 z1 e).1
        omega
      · rw [if_neg c'] at e'
        exact i.inj b b' k s1 z1 s2 z2 e e' hne ⟨(live_add h l1).resolve_left c, (live_add h l2).resolve_left c'⟩
  · have := i.gin β k hk; simp; omega
  · simp only [fset] at e
    rw [Hp.get_add] at hg
    by_cases c : b = h.next
    · rw [if_pos c] at e hg
      simp only [Option.some.injEq, Prod.mk.injEq] at e hg
      obtain ⟨rfl, rfl, rfl⟩ := e
      subst hg
      exact ho _ (fset_le i _) hG
    · rw [if_neg c] at e hg
      exact OR.mono (fset_le i _) (GLe.refl _) hG (hold k (i.rng b k s' z' e).1) (i.rel b k s' z' o2 e hg)
theorem live_put {b c : Nat} {o : Ob} (h : Hp) (hne : b ≠ c) : live (h.put c o) b → live h b := by
  rintro ⟨o', h1, h2⟩
  rw [Hp.get_put, if_neg hne] at h1
  exact ⟨o', h1, h2⟩
theorem put_ok (i : Inv w f G h) {b k s z : Nat} (hb : f b = some (k, s, z)) (hl : live h b) (o' : Obj) (o : Ob) (hsz : ∀ cc e fr, w.heap[k]? = some (.cells cc e fr) → ∃ cc' e' fr', o' = .cells cc' e' fr' ∧ cc'.size = cc.size) (ho : GKept G w (setBlk w k o') → OR (setBlk w k o') f G k s z o) :
    Stp w f G h (setBlk w k o') f G (h.put b o) ∧ Inv (setBlk w k o') f G (h.put b o) := by
  have hk := (i.rng b k s z hb).1
  have hold : ∀ j, j ≠ k → (setBlk w k o').heap[j]? = w.heap[j]? := fun j hj => by rw [setBlk_get _ _ _ _ hk, if_neg hj]
  have hsk : SKept w (setBlk w k o') := fun j cc e fr hj => by
    by_cases ej : j = k
    · subst ej
      obtain ⟨cc', e', fr', h1, h2⟩ := hsz cc e fr hj
      exact ⟨cc', e', fr', by rw [setBlk_get _ _ _ _ hk, if_pos rfl, h1], h2⟩
    · exact ⟨cc, e, fr, by rw [hold j ej, hj], rfl⟩
  have hG : GKept G w (setBlk w k o') := ⟨fun β j hj => hold j fun e => (i.rng b k s z hb).2 β (e ▸ hj), hsk⟩
  have hsz : (setBlk w k o').heap.size = w.heap.size := by simp [setBlk]
  refine ⟨⟨rfl, rfl, rfl, by omega, FLe.refl _, (fun b k s' z' e e0 => by rw [e] at e0; cases e0), GLe.refl _, fun _ _ h => .inl h, by simp, by simp; omega, fun c hc hlow => ?_, fun j hj hfj => hold j fun e => ?_, hsk⟩, ⟨i.dom, fun c j s' z' e => ?_, fun c c' j s1 z1 s2 z2 e e' hne => ?_, fun β j hj => ?_, i.gup, fun c j s' z' o2 e hg => ?_⟩⟩
  · simp only [Hp.low_put] at hlow
    rw [Hp.get_put, if_neg (by omega)]
  · subst e
    have := hfj b s z hb
    simp only [Hp.low_put] at this
    omega
  · rw [hsz]; exact i.rng c j s' z' e
  · rintro ⟨l1, l2⟩
    refine i.inj c c' j s1 z1 s2 z2 e e' hne ⟨?_, ?_⟩
    · by_cases c1 : c = b
      · exact c1 ▸ hl
      · exact live_put h c1 l1
    · by_cases c1 : c' = b
      · exact c1 ▸ hl
      · exact live_put h c1 l2
  · rw [hsz]; exact i.gin β j hj
  · rw [Hp.get_put] at hg
    by_cases c1 : c = b
    · subst c1
      rw [if_pos rfl] at hg
      cases hg
      rw [hb] at e
      simp only [Option.some.injEq, Prod.mk.injEq] at e
      obtain ⟨rfl, rfl, rfl⟩ := e
      exact ho hG
    · rw [if_neg c1] at hg
      cases o2 with
      | dead => trivial
      | _ =>
        refine OR.mono (FLe.refl _) (GLe.refl _) hG (hold j fun ej => ?_) (i.rel c j s' z' _ e hg)
        subst ej
        exact i.inj c b _ s' z' s z e hb c1 ⟨⟨_, hg, rfl⟩, hl⟩
theorem kill_ok (i : Inv w f G h) (b : Nat) : Stp w f G h w f G (h.put b .dead) ∧ Inv w f G (h.put b .dead) := by
  refine ⟨⟨rfl, rfl, rfl, Nat.le_refl _, FLe.refl _, (fun b k s' z' e e0 => by rw [e] at e0; cases e0), GLe.refl _, fun _ _ h => .inl h, by simp, by simp; omega, fun c hc hlow => ?_, fun _ _ _ => rfl, SKept.refl w⟩, ⟨i.dom, i.rng, fun c c' j s1 z1 s2 z2 e e' hne => ?_, i.gin, i.gup, fun c j s' z' o2 e hg => ?_⟩⟩
  · simp only [Hp.low_put] at hlow
    rw [Hp.get_put, if_neg (by omega)]
  · rintro ⟨l1, l2⟩
    have nd : ∀ c, live (h.put b .dead) c → c ≠ b := by
      rintro c ⟨o, h1, h2⟩ rfl
      rw [Hp.get_put, if_pos rfl] at h1
      cases h1
      simp at h2
    exact i.inj c c' j s1 z1 s2 z2 e e' hne ⟨live_put h (nd c l1) l1, live_put h (nd c' l2) l2⟩
  · rw [Hp.get_put] at hg
    by_cases c1 : c = b
    · rw [if_pos c1] at hg; cases hg; trivial
    · rw [if_neg c1] at hg; exact i.rel c j s' z' o2 e hg
theorem Stp.drew (w : World) (f : FM) (G : GM) (h : Hp) : Stp w f G h w.drew f G h :=
  ⟨rfl, rfl, rfl, Nat.le_refl _, FLe.refl _, (fun b k s z e e' => by rw [e] at e'; cases e'), GLe.refl _, (fun _ _ h => Or.inl h), Nat.le_refl _, Nat.le_refl _, fun _ _ _ => rfl, fun _ _ _ => rfl, SKept.of_eq fun _ _ => rfl⟩
theorem Inv.of_heap {w' : World} (i : Inv w f G h) (e : w'.heap = w.heap) : Inv w' f G h := by
  have hG : GKept G w w' := ⟨fun _ _ _ => by rw [e], SKept.of_eq fun _ _ => by rw [e]⟩
  exact ⟨i.dom, fun b k s z hb => by rw [e]; exact i.rng b k s z hb, i.inj, fun β k hk => by rw [e]; exact i.gin β k hk, i.gup, fun b k s z o hb hg => OR.mono (FLe.refl _) (GLe.refl _) hG (by rw [e]) (i.rel b k s z o hb hg)⟩
/-- what an operation has to give -/
def OpR (w : World) (f : FM) (G : GM) (h : Hp) (r : Result Next) (v : V) (h' : Hp) : Prop :=
  ∃ x w' f', (r = .ok (.value x) w' ∨ (r = .ok .skip w' ∧ x = undef)) ∧ Stp w f G h w' f' G h' ∧ Inv w' f' G h' ∧ VR w' f' G v x
theorem OpR.same (i : Inv w f G h) {r : Result Next} {v : V} {x : Value} (hr : r = .ok (.value x) w) (hv : VR w f G v x) : OpR w f G h r v h := ⟨x, w, f, .inl hr, Stp.refl .., i, hv⟩
end Go.Ev
end

section
set_option linter.unusedVariables false
set_option linter.unusedSimpArgs false
namespace Go.Ev
variable {P : Program} {cx : Cx} {w : World} {f : FM} {G : GM} {h : Hp}
structure TyOk (P : Program) (cx : Cx) : Prop where
  ty : ∀ t i, cx.ty t = some i → TyF P t i
theorem cut_le (hg : ∀ k, G false k → G true k) (β : Bool) : GLe (G.cut β) G := fun b k hk => by
  cases b <;> cases β <;> simp [GM.cut] at hk ⊢ <;> first | exact hk | exact hg _ hk
theorem VRs.out (i : Inv w f G h) {β : Bool} {vs : List V} {g : Nat → Option Value} (hv : VRs w noF (G.cut β) vs g) : VRs w f G vs g :=
  VRs.mono vs (noF_le _) (cut_le i.gup β) (GKept.refl _ _) hv
theorem row_ok (i : Inv w f G h) {b k s z z' r : Nat} {rows : List (List V)} {cs : List V} (hf : f b = some (k, s, z)) (hg : h.get b = some (.cells rows z')) (hr : rows[r]? = some cs) :
    z' = z ∧ ∃ cc e fr, w.heap[k]? = some (.cells cc e fr) ∧ (fr.2 ≤ fr.1 ∨ cc.size ≤ fr.1) ∧ cs.length = z ∧ ones cs ∧ VRs w f G cs (fun j => cc[s + r * z + j]?) := by
  obtain ⟨hz, cc, e, fr, h1, h2, h3⟩ := i.rel b k s z _ hf hg
  have := VRr_iff.1 h3 r cs hr
  refine ⟨hz, cc, e, fr, h1, h2, this.1, this.2.1, ?_⟩
  have e : (fun j => cc[s + r * z + j]?) = fun j => cc[s + (r * z + j)]? := by funext j; rw [Nat.add_assoc]
  rw [e]; exact this.2.2
theorem loadAt_ok (hc : TyOk P cx) (i : Inv w f G h) {t : Nat} {a v : V} {x : Value} (ha : VR w f G a x) (hl : loadAt cx h t a = some v) : ∃ u, (Instr.loadAt t x).run P w = .ok u w ∧ VR w f G v u := by
  unfold loadAt at hl
  split at hl
  · cases hl
  · rename_i ti ht
    have hT := hc.ty _ _ ht
    split at hl
    · rename_i b r j
      simp only [VR] at ha
      obtain ⟨k, s, z, hf, rfl⟩ := ha
      split at hl
      · rename_i rows z' hg
        split at hl
        · rename_i cs hr
          obtain ⟨_, cc, e, fr, h1, _, _, h3, h4⟩ := row_ok i hf hg hr
          obtain ⟨u, hu, hv⟩ := rd_ok hT h1 h4 h3 hl
          exact ⟨u, by simpa [Instr.loadAt, Instr.sureAddr] using hu, hv⟩
        · cases hl
      · cases hl
    · rename_i β cs o
      simp only [VR] at ha
      obtain ⟨k, a0, cc, e, fr, hg, rfl, h1, h2, h3⟩ := ha
      obtain ⟨u, hu, hv⟩ := rd_ok hT h1 (h3.out i) h2 hl
      exact ⟨u, by simpa [Instr.loadAt, Instr.sureAddr] using hu, hv⟩
    · cases hl
theorem mul_apart {i r z j j' : Nat} (hne : i ≠ r) (h1 : j < z) (h2 : j' < z) : i * z + j ≠ r * z + j' := by
  rcases Nat.lt_or_ge i r with h | h
  · have : (i + 1) * z ≤ r * z := Nat.mul_le_mul_right z h
    rw [Nat.add_mul] at this
    omega
  · have : (r + 1) * z ≤ i * z := Nat.mul_le_mul_right z (by omega)
    rw [Nat.add_mul] at this
    omega
theorem ones_one {vs : List V} {g : Nat → Option Value} (ho : ones vs) (hv : VRs w f G vs g) {x : Array Value} (hx : x.size = vs.length) (hg : g = fun i => x[i]?) : ∀ u ∈ x.toList, u.oneCell' = true := by
  subst hg
  intro u hu
  obtain ⟨i, hi⟩ := List.mem_iff_getElem?.1 hu
  have hlt : i < vs.length := by rw [← hx]; simpa using (List.getElem?_eq_some_iff.1 hi).1
  obtain ⟨u', hu', hr⟩ := VRs_iff.1 hv i vs[i] (by simp [hlt])
  have : u = u' := by
    have e1 : x[i]? = some u := by simpa using hi
    rw [e1] at hu'; simpa using hu'
  exact this ▸ one_ok hr (ho _ (List.getElem_mem hlt))
theorem storeAt_ok (hc : TyOk P cx) (i : Inv w f G h) {t : Nat} {a v : V} {x y : Value} {h' : Hp} (ha : VR w f G a x) (hv : VR w f G v y) (hs : storeAt cx h t a v = some h') :
    ∃ w', (Instr.storeAt t x y).run P w = .ok () w' ∧ Stp w f G h w' f G h' ∧ Inv w' f G h' := by
  unfold storeAt at hs
  split at hs
  · rename_i ti b r j ht
    have hT := hc.ty _ _ ht
    simp only [VR] at ha
    obtain ⟨k, s, z, hf, rfl⟩ := ha
    split at hs
    · rename_i rows z' hg
      split at hs
      · rename_i cs hr
        split at hs
        · rename_i l hcl
          split at hs
          · rename_i hlen
            split at hs
            · rename_i cs' hlay
              cases hs
              obtain ⟨hz, cc, e, fr, h1, hfz, h2, h3, h4⟩ := row_ok i hf hg hr
              subst hz
              obtain ⟨hy1, hy2, hy3⟩ := cl_ok hv hcl
              obtain ⟨q1, q2, q3⟩ := lay_some hlay
              obtain ⟨hlen, hpos⟩ := hlen
              have hcs : s + r * z' + cs.length ≤ cc.size := by
                have hp : cs.length - 1 < cs.length := by omega
                obtain ⟨u, hu, _⟩ := VRs_iff.1 h4 (cs.length - 1) (cs[cs.length - 1]) (by simp [hp])
                have hu' : cc[s + r * z' + (cs.length - 1)]? = some u := hu
                have := (Array.getElem?_eq_some_iff.1 hu').1
                omega
              obtain ⟨cc', c1, c2, c3⟩ := storeCells_ok (P := P) (k := k) (off := s + r * z' + j) y.cells.toList 0 w cc h1 hfz (by simp; omega) (ones_one hy3 hy2 hy1 rfl)
              have hl : live h b := ⟨_, hg, rfl⟩
              have := put_ok i hf hl (.cells cc' e fr) (.cells (rows.set r cs') z') (fun ccy ey fry hy => ⟨cc', e, fr, rfl, by rw [h1] at hy; simp only [Option.some.injEq, Obj.cells.injEq] at hy; rw [c1, hy.1]⟩) (fun hG => by
                have hk := (i.rng b k s z' hf).1
                obtain ⟨_, ccx, ex, frx, g1, _, g3⟩ := i.rel b k s z' _ hf hg
                rw [h1] at g1
                simp only [Option.some.injEq, Obj.cells.injEq] at g1
                obtain ⟨rfl, rfl, rfl⟩ := g1
                refine ⟨rfl, cc', e, fr, by rw [setBlk_get _ _ _ _ hk, if_pos rfl], by rw [c1]; exact hfz, VRr_iff.2 fun m row hm => ?_⟩
                have cut : ∀ q, (s + r * z' + j + 0 ≤ s + q ∧ s + q < s + r * z' + j + 0 + y.cells.toList.length) ↔ (r * z' + j ≤ q ∧ q < r * z' + j + l.length) := fun q => by
                  simp only [Array.length_toList, hy1]; omega
                rw [List.getElem?_set] at hm
                by_cases em : r = m
                · subst em
                  rw [if_pos rfl] at hm
                  split at hm
                  · cases hm
                    refine ⟨by omega, lay_ones hlay h3 hy3, VRs_iff.2 fun q v' hq => ?_⟩
                    rw [q3] at hq
                    simp only [c2, cut]
                    by_cases hin : j ≤ q ∧ q < j + l.length
                    · rw [if_pos hin] at hq
                      obtain ⟨u, hu, hr'⟩ := VRs_iff.1 hy2 (q - j) v' hq
                      refine ⟨u, ?_, VR.mono v' (FLe.refl _) (GLe.refl _) hG hr'⟩
                      rw [if_pos (by omega)]
                      rw [show s + (r * z' + q) - (s + r * z' + j + 0) = q - j by omega]
                      simpa using hu
                    · rw [if_neg hin] at hq
                      obtain ⟨u, hu, hr'⟩ := VRs_iff.1 h4 q v' hq
                      refine ⟨u, ?_, VR.mono v' (FLe.refl _) (GLe.refl _) hG hr'⟩
                      rw [if_neg (by omega), ← Nat.add_assoc]
                      exact hu
                  · cases hm
                · rw [if_neg em] at hm
                  have gm := VRr_iff.1 g3 m row hm
                  refine ⟨gm.1, gm.2.1, VRs_iff.2 fun q v' hq => ?_⟩
                  obtain ⟨u, hu, hr'⟩ := VRs_iff.1 gm.2.2 q v' hq
                  refine ⟨u, ?_, VR.mono v' (FLe.refl _) (GLe.refl _) hG hr'⟩
                  have hqz : q < z' := by rw [← gm.1]; exact (List.getElem?_eq_some_iff.1 hq).1
                  rw [c2, if_neg ?_]
                  · exact hu
                  · rw [cut]
                    rintro ⟨a1, a2⟩
                    exact mul_apart (z := z') (j := q) (j' := m * z' + q - r * z') (Ne.symm em) hqz (by omega) (by omega))
              refine ⟨_, ?_, this.1, this.2⟩
              have hsz : y.cells.size = ti.size := by omega
              simp [Instr.storeAt, Instr.sureAddr, storeVar, hT.sizeOf w, hsz, c3]
            · cases hs
          · cases hs
        · cases hs
      · cases hs
    · cases hs
  · cases hs
end Go.Ev
end

section
set_option linter.unusedVariables false
set_option linter.unusedSimpArgs false
namespace Go.Ev
variable {P : Program} {cx : Cx} {w : World} {f : FM} {G : GM} {h : Hp}
theorem td_strct {d : TypeDesc} {l : List (Nat × Nat)} (h : tdOf d = .strct l) : ∃ fs, d = .struct fs ∧ l = fs.toList.map fun f => (f.type, f.offset) := by
  cases d <;> simp [tdOf] at h
  exact ⟨_, rfl, h.symm⟩
theorem td_slice {d : TypeDesc} {e : Nat} (h : tdOf d = .slice e) : d = .slice e := by cases d <;> simp [tdOf] at h; exact h ▸ rfl
theorem td_arr {d : TypeDesc} {n e : Nat} (h : tdOf d = .arr n e) : d = .array n e := by cases d <;> simp [tdOf] at h; obtain ⟨rfl, rfl⟩ := h; rfl
theorem td_map {d : TypeDesc} {n e : Nat} (h : tdOf d = .map n e) : d = .map n e := by cases d <;> simp [tdOf] at h; obtain ⟨rfl, rfl⟩ := h; rfl
theorem td_str {d : TypeDesc} (h : tdOf d = .str) : d = .string := by cases d <;> simp [tdOf] at h; rfl
theorem td_bool {d : TypeDesc} (h : tdOf d = .bool) : d = .bool := by cases d <;> simp [tdOf] at h; rfl
theorem td_int {d : TypeDesc} {k : IntKind} (h : tdOf d = .int k) : d = .int k := by cases d <;> simp [tdOf] at h; exact h ▸ rfl
theorem td_flt {d : TypeDesc} {k : FloatKind} (h : tdOf d = .flt k) : d = .float k := by cases d <;> simp [tdOf] at h; exact h ▸ rfl
theorem td_ptr {d : TypeDesc} {e : Nat} (h : tdOf d = .ptr e) : d = .pointer e := by cases d <;> simp [tdOf] at h; exact h ▸ rfl
theorem fs_at {fs : Array Field} {i ft off : Nat} (h : (fs.toList.map fun f => (f.type, f.offset))[i]? = some (ft, off)) : ∃ fd, fs[i]? = some fd ∧ fd.type = ft ∧ fd.offset = off := by
  rw [List.getElem?_map] at h
  cases hi : fs.toList[i]? with
  | none => simp [hi] at h
  | some fd =>
    simp only [hi, Option.map_some, Option.some.injEq, Prod.mk.injEq] at h
    exact ⟨fd, by simpa using hi, h.1, h.2⟩
theorem addrField_ok (hc : TyOk P cx) {s fi : Nat} {a v : V} {x : Value} (ha : VR w f G a x) (hl : addrField cx s fi a = some v) : ∃ u, (Instr.fieldAt s x fi).run P w = .ok u w ∧ VR w f G v u := by
  unfold addrField at hl
  split at hl
  case h_2 => cases hl
  rename_i ti ht
  obtain ⟨d, hd, hdd, _⟩ := (hc.ty _ _ ht).und w
  split at hl
  case h_2 => cases hl
  rename_i fs hfs
  rw [hfs] at hdd
  obtain ⟨fs', rfl, rfl⟩ := td_strct hdd
  split at hl
  case h_2 => cases hl
  rename_i ft off hfo
  obtain ⟨fd, hfd, rfl, rfl⟩ := fs_at hfo
  split at hl
  case h_2 => cases hl
  rename_i tj hj
  have hT := hc.ty _ _ hj
  split at hl
  · cases hl
  rename_i hsz
  split at hl
  · rename_i b r o
    cases hl
    simp only [VR] at ha
    obtain ⟨k, s0, z, hf, rfl⟩ := ha
    refine ⟨_, by simp [Instr.fieldAt, hd, hfd, Instr.sureAddr, fieldPlace, hT.sizeOf w, hsz, add_none]; rfl, ?_⟩
    simp only [VR]
    exact ⟨k, s0, z, hf, by simp [Nat.add_assoc]⟩
  · rename_i β cs o
    cases hl
    simp only [VR] at ha
    obtain ⟨k, a0, cc, e, fr, hg, rfl, h1⟩ := ha
    refine ⟨_, by simp [Instr.fieldAt, hd, hfd, Instr.sureAddr, fieldPlace, hT.sizeOf w, hsz, add_none]; rfl, ?_⟩
    simp only [VR]
    exact ⟨k, a0, cc, e, fr, hg, by simp [Nat.add_assoc], h1⟩
  · cases hl
theorem part_ok {t : Nat} {i : Ti} (ht : TyF P t i) {c' : Array Value} {cs : List V} (hc : VRs w f G cs (fun j => c'[j]?)) (hs : c'.size = cs.length) (h1 : ones cs) {off : Nat} {v : V} (hr : rdCells i cs off = some v) :
    ∃ u, (part t c' off).run P w = .ok u w ∧ VR w f G v u := by
  unfold rdCells at hr
  cases ha : i.agg with
  | true =>
    rw [ha, if_pos rfl] at hr
    cases hsg : seg cs off i.size with
    | none => simp [hsg] at hr
    | some l =>
      simp only [hsg, Option.map_some, Option.some.injEq] at hr
      subst hr
      refine ⟨.agg (c'.extract off (off + i.size)), by simp [part, ht.isAgg w, ha, ht.sizeOf w], ?_⟩
      obtain ⟨hle, _⟩ := seg_some hsg
      simp only [VR]
      refine ⟨_, rfl, by rw [seg_length hsg]; simp; omega, seg_ones hsg h1, VRs_iff.2 fun j v' hj => ?_⟩
      have e1 := seg_get hsg j
      rw [hj] at e1
      split at e1
      · rename_i hlt
        obtain ⟨u, hu, hv⟩ := VRs_iff.1 hc (off + j) v' e1.symm
        refine ⟨u, ?_, hv⟩
        have hu' : c'[off + j]? = some u := hu
        rw [Array.getElem?_extract]
        have := (Array.getElem?_eq_some_iff.1 hu').1
        rw [if_pos (by omega)]
        exact hu'
      · cases e1
  | false =>
    rw [ha] at hr
    simp only [Bool.false_eq_true, if_false] at hr
    obtain ⟨u, hu, hv⟩ := VRs_iff.1 hc off v hr
    have hu' : c'[off]? = some u := hu
    exact ⟨u, by simp [part, ht.isAgg w, ha, hu'], hv⟩
theorem partOf_ok (hc : TyOk P cx) {t : Nat} {c' : Array Value} {cs : List V} (h0 : VRs w f G cs (fun j => c'[j]?)) (hs : c'.size = cs.length) (h1 : ones cs) {off : Nat} {v : V} (hr : partOf cx t cs off = some v) :
    ∃ u, (part t c' off).run P w = .ok u w ∧ VR w f G v u := by
  unfold partOf at hr
  split at hr
  · rename_i i hi
    exact part_ok (hc.ty _ _ hi) h0 hs h1 hr
  · cases hr
theorem fieldV_ok (hc : TyOk P cx) {s fi : Nat} {a v : V} {x : Value} (ha : VR w f G a x) (hl : fieldV cx s fi a = some v) : ∃ u, (Instr.field s x fi).run P w = .ok u w ∧ VR w f G v u := by
  unfold fieldV at hl
  split at hl
  case h_2 => cases hl
  rename_i ti cs ht
  obtain ⟨d, hd, hdd, _⟩ := (hc.ty _ _ ht).und w
  split at hl
  case h_2 => cases hl
  rename_i fs hfs
  rw [hfs] at hdd
  obtain ⟨fs', rfl, rfl⟩ := td_strct hdd
  split at hl
  case h_2 => cases hl
  rename_i ft off hfo
  obtain ⟨fd, hfd, rfl, rfl⟩ := fs_at hfo
  simp only [VR] at ha
  obtain ⟨c', rfl, h1, h2, h3⟩ := ha
  obtain ⟨u, hu, hv⟩ := partOf_ok hc h3 h1 h2 hl
  exact ⟨u, by simp [Instr.field, hd, hfd, asAgg, hu], hv⟩
theorem sizeOf_ok (hc : TyOk P cx) {t z : Nat} (h : sizeOf cx t = some z) (w : World) : (Go.sizeOf t).run P w = .ok z w ∧ ∃ i, cx.ty t = some i ∧ i.size = z := by
  unfold sizeOf at h
  split at h
  · rename_i i hi
    cases h
    exact ⟨(hc.ty _ _ hi).sizeOf w, i, hi, rfl⟩
  · cases h
theorem atSlice_ok {z : Nat} {n : Int} {a v : V} {x : Value} (hz : 0 < z) (ha : VR w f G a x) (hl : atSlice z n a = some v) :
    ∃ base len cap, x = .slice (some base) len cap ∧ 0 ≤ n ∧ n < len ∧ VR w f G v (.pointer (some (base.add (n.toNat * z)))) := by
  unfold atSlice at hl
  split at hl
  · rename_i b o m z' c
    split at hl
    · rename_i hcond
      obtain ⟨rfl, h0, h1⟩ := hcond
      cases hl
      simp only [VR] at ha
      obtain ⟨k, s, c', a0, hf, rfl, hadr, hn, _⟩ := ha
      have := hadr (by omega)
      subst this
      refine ⟨_, m, c', rfl, h0, h1, ?_⟩
      simp only [VR, add_none]
      exact ⟨k, s, z', hf, by simp [Nat.add_mul, Nat.add_assoc]⟩
    · cases hl
  · rename_i β z' clip es
    split at hl
    · rename_i hcond
      obtain ⟨rfl, h0⟩ := hcond
      split at hl
      · rename_i cs hcs
        cases hl
        simp only [VR] at ha
        obtain ⟨a0, c', rfl, hn, _, hrest⟩ := ha
        have hlt := (List.getElem?_eq_some_iff.1 hcs).1
        have hne : es ≠ [] := by rintro rfl; simp at hlt
        obtain ⟨hs, hg, cc, e, fr, hb, hr⟩ := hrest hne
        refine ⟨a0, es.length, c', rfl, h0, by omega, ?_⟩
        obtain ⟨q1, q2, q3⟩ := VRr_iff.1 hr _ _ hcs
        rw [add_off hs]
        simp only [VR]
        refine ⟨a0.block, a0.off + n.toNat * z', cc, e, fr, hg, by simp, hb, q2, ?_⟩
        have e : (fun i => cc[a0.off + n.toNat * z' + i]?) = fun j => cc[a0.off + (n.toNat * z' + j)]? := by funext j; rw [Nat.add_assoc]
        rw [e]; exact q3
      · cases hl
    · cases hl
  · cases hl
theorem addrIndex_ok (hc : TyOk P cx) {t : Nat} {a n v : V} {x y : Value} (ha : VR w f G a x) (hn : VR w f G n y) (hl : addrIndex cx t a n = some v) : ∃ u, (Instr.indexAt t x y).run P w = .ok u w ∧ VR w f G v u := by
  unfold addrIndex at hl
  split at hl
  case h_2 => cases hl
  rename_i ti k0 i0 ht
  simp only [VR] at hn
  subst hn
  obtain ⟨d, hd, hdd, _⟩ := (hc.ty _ _ ht).und w
  split at hl
  · rename_i n e htd
    rw [htd] at hdd
    have := td_arr hdd
    subst this
    split at hl
    case h_2 => cases hl
    rename_i z hz
    obtain ⟨hsz, _⟩ := sizeOf_ok hc hz w
    split at hl
    case isFalse => cases hl
    rename_i hb
    split at hl
    · cases hl
      simp only [VR] at ha
      obtain ⟨k, s, z0, hf, rfl⟩ := ha
      refine ⟨_, by simp [Instr.indexAt, asIntOf, hd, Instr.sureAddr, hb, hsz, add_none]; rfl, ?_⟩
      simp only [VR]
      exact ⟨k, s, z0, hf, by simp [Nat.add_assoc]⟩
    · cases hl
      simp only [VR] at ha
      obtain ⟨k, a0, cc, e, fr, hg, rfl, h1⟩ := ha
      refine ⟨_, by simp [Instr.indexAt, asIntOf, hd, Instr.sureAddr, hb, hsz, add_none]; rfl, ?_⟩
      simp only [VR]
      exact ⟨k, a0, cc, e, fr, hg, by simp [Nat.add_assoc], h1⟩
    · cases hl
  · rename_i e htd
    rw [htd] at hdd
    have := td_slice hdd
    subst this
    split at hl
    case h_2 => cases hl
    rename_i z hz
    obtain ⟨hsz, _⟩ := sizeOf_ok hc hz w
    split at hl
    · cases hl
    rename_i hz0
    obtain ⟨base, len, cap, rfl, h0, h1, hv⟩ := atSlice_ok (by omega) ha hl
    exact ⟨_, by simp [Instr.indexAt, asIntOf, hd, h0, h1, hsz], hv⟩
  · cases hl
theorem indexV_ok (hc : TyOk P cx) {t : Nat} {a n v : V} {x y : Value} (ha : VR w f G a x) (hn : VR w f G n y) (hl : indexV cx t a n = some v) : ∃ u, (Instr.index t x y).run P w = .ok u w ∧ VR w f G v u := by
  unfold indexV at hl
  split at hl
  case h_2 => cases hl
  rename_i ti k0 i0 ht
  simp only [VR] at hn
  subst hn
  obtain ⟨d, hd, hdd, _⟩ := (hc.ty _ _ ht).und w
  split at hl
  · rename_i n e cs htd
    rw [htd] at hdd
    have := td_arr hdd
    subst this
    split at hl
    case h_2 => cases hl
    rename_i z hz
    obtain ⟨hsz, _⟩ := sizeOf_ok hc hz w
    split at hl
    case isFalse => cases hl
    rename_i hb
    simp only [VR] at ha
    obtain ⟨c', rfl, h1, h2, h3⟩ := ha
    obtain ⟨u, hu, hv⟩ := partOf_ok hc h3 h1 h2 hl
    refine ⟨u, ?_, hv⟩
    simp only [Instr.index, asIntOf, Sem.run_bind, Sem.run_pure, Result.andThen_ok, hd, if_pos hb, hsz, hu]
  · rename_i s htd
    rw [htd] at hdd
    have := td_str hdd
    subst this
    simp only [VR] at ha
    subst ha
    split at hl
    case isFalse => cases hl
    rename_i h0
    split at hl
    case h_2 => cases hl
    rename_i b hb
    cases hl
    refine ⟨.int .u8 b.toNat, ?_, by simp [VR]⟩
    have hb' : s[i0.toNat]? = some b := by
      have h1 := (List.getElem?_eq_some_iff.1 hb)
      obtain ⟨hlt, he⟩ := h1
      have hlt' : i0.toNat < s.size := by have h2 := hlt; rw [Array.length_toList] at h2; exact h2
      rw [getElem?_pos s i0.toNat hlt']
      rw [← he]; rfl
    simp only [Instr.index, asIntOf, Sem.run_bind, Sem.run_pure, Result.andThen_ok, hd, if_pos h0, hb']
  · cases hl
end Go.Ev
end

section
set_option linter.unusedVariables false
set_option linter.unusedSimpArgs false
namespace Go.Ev
variable {P : Program} {cx : Cx} {w : World} {f : FM} {G : GM} {h : Hp}
theorem VR_int {k : IntKind} {n : Int} {x : Value} : VR w f G (.int k n) x ↔ x = .int k n := by simp [VR]
/-! ### '==' -/
theorem eqK_nil {xs ys : List V} {b : Bool} (h : eqK [] xs ys = some b) : xs = [] ∧ ys = [] ∧ b = true := by
  cases xs <;> cases ys <;> simp [eqK] at h
  exact ⟨rfl, rfl, h⟩
theorem eqK_cons {k : K3} {ks : List K3} {xs ys : List V} {b : Bool} (h : eqK (k :: ks) xs ys = some b) : ∃ x xs' y ys' a r, xs = x :: xs' ∧ ys = y :: ys' ∧ eq1 k x y = some a ∧ eqK ks xs' ys' = some r ∧ b = (a && r) := by
  cases xs with
  | nil => simp [eqK] at h
  | cons x xs =>
    cases ys with
    | nil => simp [eqK] at h
    | cons y ys =>
      simp only [eqK] at h
      split at h
      · rename_i a ha
        split at h
        · rename_i r hr
          cases h
          exact ⟨x, xs, y, ys, a, r, rfl, rfl, ha, hr, rfl⟩
        · cases h
      · cases h
theorem eqK_append : ∀ {ks r : List K3} {xs ys : List V} {b : Bool}, eqK (ks ++ r) xs ys = some b →
    ∃ b1 b2, eqK ks (xs.take ks.length) (ys.take ks.length) = some b1 ∧ eqK r (xs.drop ks.length) (ys.drop ks.length) = some b2 ∧ b = (b1 && b2)
  | [], r, xs, ys, b, h => ⟨true, b, by simp [eqK], by simpa using h, by simp⟩
  | k :: ks, r, xs, ys, b, h => by
    rw [List.cons_append] at h
    obtain ⟨x, xs', y, ys', a, r', rfl, rfl, ha, hr, rfl⟩ := eqK_cons h
    obtain ⟨b1, b2, e1, e2, rfl⟩ := eqK_append hr
    exact ⟨a && b1, b2, by simp [eqK, ha, e1], by simpa using e2, by simp [Bool.and_assoc]⟩
theorem eqK_length : ∀ {ks : List K3} {xs ys : List V} {b : Bool}, eqK ks xs ys = some b → xs.length = ks.length ∧ ys.length = ks.length
  | [], xs, ys, b, h => by obtain ⟨rfl, rfl, _⟩ := eqK_nil h; simp
  | k :: ks, xs, ys, b, h => by
    obtain ⟨x, xs', y, ys', a, r', rfl, rfl, ha, hr, rfl⟩ := eqK_cons h
    have := eqK_length hr
    simp [this]
theorem VRs_take {vs : List V} {g : Nat → Option Value} (h : VRs w f G vs g) (n : Nat) : VRs w f G (vs.take n) g :=
  VRs_iff.2 fun i v hi => by
    rw [List.getElem?_take] at hi
    split at hi
    · exact VRs_iff.1 h i v hi
    · cases hi
theorem VRs_drop {vs : List V} {g : Nat → Option Value} (h : VRs w f G vs g) (n : Nat) : VRs w f G (vs.drop n) (fun i => g (n + i)) :=
  VRs_iff.2 fun i v hi => by
    rw [List.getElem?_drop] at hi
    exact VRs_iff.1 h (n + i) v hi
theorem fieldsOf_eq {P : Program} {t : Nat} {fs : Array Field} (h : P.underlying t = some (.struct fs)) : P.fieldsOf t = fs := by simp [Program.fieldsOf, h]
/-- how '==' of a part goes -/
def EqAt (P : Program) (w : World) (f : FM) (G : GM) (d t : Nat) (ks : List K3) : Prop :=
  ∀ (c1 c2 : Array Value) (off : Nat) (xs ys : List V) (r : Bool), eqK ks xs ys = some r → off + ks.length ≤ c1.size → off + ks.length ≤ c2.size → VRs w f G xs (fun j => c1[off + j]?) → VRs w f G ys (fun j => c2[off + j]?) →
    ∃ a b, (part t c1 off).run P w = .ok a w ∧ (part t c2 off).run P w = .ok b w ∧ (Op.equalIn d t a b).run P w = .ok r w
theorem flatFs_ok {d : Nat} {g : Nat → Option (List K3)} (hg : ∀ t ks, g t = some ks → (∃ i, P.info? t = some i ∧ i.size = ks.length) → EqAt P w f G d t ks) :
    ∀ {fs : List Field} {off : Nat} {ks : List K3}, flatFs P g fs off = some ks → ∀ (c1 c2 : Array Value) (xs ys : List V) (r : Bool), eqK ks xs ys = some r → off + ks.length ≤ c1.size → off + ks.length ≤ c2.size → VRs w f G xs (fun j => c1[off + j]?) → VRs w f G ys (fun j => c2[off + j]?) →
      (Op.eqFields d c1 c2 fs).run P w = .ok r w
  | [], off, ks, h, c1, c2, xs, ys, r, he, _, _, _, _ => by
    simp only [flatFs, Option.some.injEq] at h
    subst h
    obtain ⟨_, _, rfl⟩ := eqK_nil he
    simp [Op.eqFields]
  | fd :: fs, off, ks, h, c1, c2, xs, ys, r, he, h1, h2, hx, hy => by
    simp only [flatFs] at h
    split at h
    · rename_i hc
      obtain ⟨hn, ho⟩ := hc
      split at h
      · rename_i k1 i hk hi
        split at h
        · rename_i hsz
          split at h
          · rename_i r1 hr1
            cases h
            obtain ⟨b1, b2, e1, e2, rfl⟩ := eqK_append he
            rw [List.length_append] at h1 h2
            obtain ⟨a, b, p1, p2, p3⟩ := hg _ _ hk ⟨i, hi, hsz⟩ c1 c2 off _ _ b1 e1 (by omega) (by omega) (VRs_take hx _) (VRs_take hy _)
            have ih := flatFs_ok hg hr1 c1 c2 _ _ b2 e2 (by omega) (by omega) (by have := VRs_drop hx k1.length; simpa [Nat.add_assoc] using this) (by have := VRs_drop hy k1.length; simpa [Nat.add_assoc] using this)
            simp only [Op.eqFields, if_pos hn, ho, Sem.run_bind, p1, p2, p3, Result.andThen_ok, Sem.run_ite, Sem.run_pure]
            cases b1
            · simp
            · simpa using ih
          · cases h
        · cases h
      · cases h
    · cases h
theorem flatK_ok : ∀ {n d t : Nat} {ks : List K3}, flatK P n t = some ks → n ≤ d → (∃ i, P.info? t = some i ∧ i.size = ks.length) → EqAt P w f G d t ks
  | 0, _, _, _, h, _, _ => by simp [flatK] at h
  | n + 1, 0, _, _, _, h, _ => by omega
  | n + 1, d + 1, t, ks, h, hd, ⟨i, hi, hsz⟩ => by
    intro c1 c2 off xs ys r he h1 h2 hx hy
    have hsize : ∀ w, (Go.sizeOf t).run P w = .ok i.size w := fun w => by simp [Go.sizeOf, typeInfo, hi]
    simp only [flatK] at h
    split at h
    · rename_i hu
      cases h
      obtain ⟨x, xs', y, ys', b, r', rfl, rfl, hb, hr', rfl⟩ := eqK_cons he
      obtain ⟨rfl, rfl, rfl⟩ := eqK_nil hr'
      rw [Bool.and_true]
      cases x <;> cases y <;> simp only [eq1, reduceCtorEq] at hb
      rename_i a1 a2
      cases hb
      obtain ⟨u, hu1, hv1⟩ := VRs_iff.1 hx 0 _ (by simp; rfl)
      obtain ⟨u', hu2, hv2⟩ := VRs_iff.1 hy 0 _ (by simp; rfl)
      simp only [VR] at hv1 hv2
      subst hv1 hv2
      have e1 := hu1
      have e2 := hu2
      simp only [Nat.add_zero] at e1 e2
      have hagg : (Go.isAgg t).run P w = .ok false w := by simp [Go.isAgg, run_underlying hu]
      refine ⟨_, _, by simp [part, hagg, e1]; rfl, by simp [part, hagg, e2]; rfl, ?_⟩
      rw [run_equalIn_bool' w d t a1 a2 hu]
    · rename_i k0 hu
      cases h
      obtain ⟨x, xs', y, ys', b, r', rfl, rfl, hb, hr', rfl⟩ := eqK_cons he
      obtain ⟨rfl, rfl, rfl⟩ := eqK_nil hr'
      rw [Bool.and_true]
      cases x <;> cases y <;> simp only [eq1, reduceCtorEq] at hb
      rename_i k1 a1 k2 a2
      split at hb
      case isFalse => cases hb
      rename_i hkk
      subst hkk
      cases hb
      obtain ⟨u, hu1, hv1⟩ := VRs_iff.1 hx 0 _ (by simp; rfl)
      obtain ⟨u', hu2, hv2⟩ := VRs_iff.1 hy 0 _ (by simp; rfl)
      simp only [VR] at hv1 hv2
      subst hv1 hv2
      have e1 := hu1
      have e2 := hu2
      simp only [Nat.add_zero] at e1 e2
      have hagg : (Go.isAgg t).run P w = .ok false w := by simp [Go.isAgg, run_underlying hu]
      refine ⟨_, _, by simp [part, hagg, e1]; rfl, by simp [part, hagg, e2]; rfl, ?_⟩
      rw [run_equalIn_int w d t k1 k0 a1 a2 hu]
    · rename_i hu
      cases h
      obtain ⟨x, xs', y, ys', b, r', rfl, rfl, hb, hr', rfl⟩ := eqK_cons he
      obtain ⟨rfl, rfl, rfl⟩ := eqK_nil hr'
      rw [Bool.and_true]
      cases x <;> cases y <;> simp only [eq1, reduceCtorEq] at hb
      rename_i a1 a2
      cases hb
      obtain ⟨u, hu1, hv1⟩ := VRs_iff.1 hx 0 _ (by simp; rfl)
      obtain ⟨u', hu2, hv2⟩ := VRs_iff.1 hy 0 _ (by simp; rfl)
      simp only [VR] at hv1 hv2
      subst hv1 hv2
      have e1 := hu1
      have e2 := hu2
      simp only [Nat.add_zero] at e1 e2
      have hagg : (Go.isAgg t).run P w = .ok false w := by simp [Go.isAgg, run_underlying hu]
      refine ⟨_, _, by simp [part, hagg, e1]; rfl, by simp [part, hagg, e2]; rfl, ?_⟩
      rw [run_equalIn_string w d t a1 a2 hu, beq_toListBytes]
    · rename_i fs hu
      split at h
      · cases h
      rename_i hp
      have hagg : (Go.isAgg t).run P w = .ok true w := by simp [Go.isAgg, run_underlying hu]
      refine ⟨.agg (c1.extract off (off + i.size)), .agg (c2.extract off (off + i.size)), by simp [part, hagg, hsize], by simp [part, hagg, hsize], ?_⟩
      rw [run_equalIn_struct w d t _ _ (by rw [fieldsOf_eq hu]; exact hu) (by simpa using hp), fieldsOf_eq hu]
      have ex : ∀ {c : Array Value} {zs : List V}, zs.length = ks.length → VRs w f G zs (fun j => c[off + j]?) → VRs w f G zs (fun j => (c.extract off (off + i.size))[0 + j]?) := fun {c zs} hl hz =>
        VRs_iff.2 fun j v hj => by
          obtain ⟨u, hu, hv⟩ := VRs_iff.1 hz j v hj
          have hu' : c[off + j]? = some u := hu
          refine ⟨u, ?_, hv⟩
          have hj' := (List.getElem?_eq_some_iff.1 hj).1
          have := (Array.getElem?_eq_some_iff.1 hu').1
          simp only [Nat.zero_add]
          rw [Array.getElem?_extract, if_pos (by omega)]
          exact hu'
      have hl := eqK_length he
      exact flatFs_ok (fun t' ks' hg hi' => flatK_ok hg (by omega) hi') h _ _ xs ys r he (by simp; omega) (by simp; omega) (ex hl.1 hx) (ex hl.2 hy)
    · cases h
theorem flat_guard : ∀ {n d t : Nat} {ks : List K3}, flatK P n t = some ks → n ≤ d → P.eqGuardType d t = false
  | 0, _, _, _, h, _ => by simp [flatK] at h
  | n + 1, 0, _, _, _, h => by omega
  | n + 1, d + 1, t, ks, h, hd => by
    simp only [flatK] at h
    unfold Program.eqGuardType
    split at h
    · rename_i hu; simp [hu]
    · rename_i hu; simp [hu]
    · rename_i hu; simp [hu]
    · rename_i fs hu
      split at h
      · cases h
      simp only [hu]
      have key : ∀ (l : List Field) (off : Nat) (ks : List K3), flatFs P (flatK P n) l off = some ks → ∀ x ∈ l, P.eqGuardType d x.type = false := by
        intro l
        induction l with
        | nil => intro _ _ _ x hx; cases hx
        | cons fd l ih =>
          intro off ks hf x hx
          simp only [flatFs] at hf
          split at hf
          · split at hf
            · rename_i k1 i hk hi
              split at hf
              · split at hf
                · rename_i r1 hr1
                  rcases List.mem_cons.1 hx with rfl | hx
                  · exact flat_guard hk (by omega)
                  · exact ih _ _ hr1 x hx
                · cases hf
              · cases hf
            · cases hf
          · cases hf
      rw [Array.any_eq_false]
      intro j hj
      have := key _ _ _ h fs[j] (by simp)
      simp [this]
    · cases h
end Go.Ev
end

section
set_option linter.unusedVariables false
set_option linter.unusedSimpArgs false
namespace Go.Ev
variable {P : Program} {cx : Cx} {w : World} {f : FM} {G : GM} {h : Hp}
theorem nil_form {d : Td} {y : V} {u : Value} (hn : nilFits d y = true) (hy : VR w f G y u) :
    (∃ e, d = .ptr e ∧ u = .pointer none ∧ y = .pnil) ∨ (∃ e, d = .slice e ∧ u = .slice none 0 0 ∧ y = .snil) ∨ (∃ k e, d = .map k e ∧ u = .map none ∧ y = .mnil) ∨ (d = .func ∧ u = .nilFunc ∧ y = .fnil) := by
  unfold nilFits at hn
  split at hn
  · simp only [VR] at hy; exact .inl ⟨_, rfl, hy, rfl⟩
  · simp only [VR] at hy; exact .inr (.inl ⟨_, rfl, hy, rfl⟩)
  · simp only [VR] at hy; exact .inr (.inr (.inl ⟨_, _, rfl, hy, rfl⟩))
  · simp only [VR] at hy; exact .inr (.inr (.inr ⟨rfl, hy, rfl⟩))
  · cases hn
theorem td_func {d : TypeDesc} (h : tdOf d = .func) : ∃ a b c, d = .func a b c := by cases d <;> simp [tdOf] at h; exact ⟨_, _, _, rfl⟩
theorem kind_ptr {e : Nat} {x : V} {u : Value} (hk : kindFits (.ptr e) x = true) (hx : VR w f G x u) : ∃ a, u = .pointer a ∧ isNil x = some a.isNone := by
  cases x <;> simp [kindFits] at hk <;> simp only [VR] at hx
  · exact ⟨none, hx, rfl⟩
  · obtain ⟨k, s, z, _, hx⟩ := hx; exact ⟨_, hx, rfl⟩
  · obtain ⟨k, a, cc, e, fr, _, hx, _⟩ := hx; exact ⟨_, hx, rfl⟩
theorem kind_slice {e : Nat} {x : V} {u : Value} (hk : kindFits (.slice e) x = true) (hx : VR w f G x u) : ∃ a n c, u = .slice a n c ∧ isNil x = some a.isNone := by
  cases x <;> simp [kindFits] at hk <;> simp only [VR] at hx
  · exact ⟨none, _, _, hx, rfl⟩
  · obtain ⟨k, s, c', a, _, hx, _⟩ := hx; exact ⟨_, _, _, hx, rfl⟩
  · obtain ⟨a, c', hx, _⟩ := hx; exact ⟨_, _, _, hx, rfl⟩
theorem kind_map {k e : Nat} {x : V} {u : Value} (hk : kindFits (.map k e) x = true) (hx : VR w f G x u) : ∃ a, u = .map a ∧ isNil x = some a.isNone := by
  cases x <;> simp [kindFits] at hk <;> simp only [VR] at hx
  · exact ⟨none, hx, rfl⟩
  · obtain ⟨k, s, z, _, hx⟩ := hx; exact ⟨_, hx, rfl⟩
theorem kind_func {x : V} {u : Value} (hk : kindFits .func x = true) (hx : VR w f G x u) : (u = .nilFunc ∧ isNil x = some true) ∨ (∃ a b c, u = .func a b c ∧ isNil x = some false) := by
  cases x <;> simp [kindFits] at hk <;> simp only [VR] at hx
  · obtain ⟨a, c, hx, _⟩ := hx; exact .inr ⟨_, _, _, hx, rfl⟩
  · obtain ⟨k, s, z, _, hx⟩ := hx; exact .inr ⟨_, _, _, hx, rfl⟩
  · exact .inl ⟨hx, rfl⟩
/-- '==' against nil, either way round -/
theorem eqNil_ok {t : Nat} {d : TypeDesc} {x y : V} {u v : Value} {b : Bool} (n : Nat) (hd : P.underlying t = some d) (hn : nilFits (tdOf d) y = true) (hk : kindFits (tdOf d) x = true) (hx : VR w f G x u) (hy : VR w f G y v) (hb : isNil x = some b) :
    (Op.equalIn (n + 1) t u v).run P w = .ok b w ∧ (Op.equalIn (n + 1) t v u).run P w = .ok b w := by
  rcases nil_form hn hy with ⟨e, he, rfl, rfl⟩ | ⟨e, he, rfl, rfl⟩ | ⟨k, e, he, rfl, rfl⟩ | ⟨he, rfl, rfl⟩
  · rw [he] at hk
    obtain ⟨a, rfl, h1⟩ := kind_ptr hk hx
    rw [h1] at hb; cases hb
    have := td_ptr he; subst this
    cases a <;> simp [Op.equalIn, run_underlying hd]
  · rw [he] at hk
    obtain ⟨a, n', c, rfl, h1⟩ := kind_slice hk hx
    rw [h1] at hb; cases hb
    have := td_slice he; subst this
    cases a <;> simp [Op.equalIn, run_underlying hd]
  · rw [he] at hk
    obtain ⟨a, rfl, h1⟩ := kind_map hk hx
    rw [h1] at hb; cases hb
    have := td_map he; subst this
    cases a <;> simp [Op.equalIn, run_underlying hd]
  · rw [he] at hk
    obtain ⟨a', b', c', rfl⟩ := td_func he
    rcases kind_func hk hx with ⟨rfl, h1⟩ | ⟨a, b2, c, rfl, h1⟩
    · rw [h1] at hb; cases hb
      simp [Op.equalIn, run_underlying hd]
    · rw [h1] at hb; cases hb
      simp [Op.equalIn, run_underlying hd]
theorem fs_info (hc : TyOk P cx) {t : Nat} {i : Ti} {ks : List K3} (ht : cx.ty t = some i) (hf : i.flat = some ks) : flatK P 8 t = some ks := by
  obtain ⟨info, d, _, _, _, _, _, _, h1, _⟩ := hc.ty _ _ ht
  rw [h1] at hf; exact hf
theorem eqV_ok (hc : TyOk P cx) {t : Nat} {x y : V} {u v : Value} {b : Bool} (hx : VR w f G x u) (hy : VR w f G y v) (h : eqV cx t x y = some b) :
    (Op.equal t u v).run P w = .ok b w ∧ (∀ op o1 o2, (eqGuard op t o1 o2 u v).run P w = .ok () w) ∧ binOp .eql t u v = (do pure (.bool (← Op.equal t u v))) ∧ binOp .neq t u v = (do pure (.bool (!(← Op.equal t u v)))) := by
  unfold eqV at h
  split at h
  · cases h
  rename_i i ht
  obtain ⟨d, hd, hdd, hu⟩ := (hc.ty _ _ ht).und w
  have main : ∀ {x y : V} {u v : Value}, VR w f G x u → VR w f G y v → nilFits i.d y = true → kindFits i.d x = true → isNil x = some b → ((Op.equal t u v).run P w = .ok b w ∧ (Op.equal t v u).run P w = .ok b w) := fun {x y u v} hx hy hn hk hb => by
    have := eqNil_ok (P := P) (w := w) 9999 hu (hdd ▸ hn) (hdd ▸ hk) hx hy hb
    exact this
  have guard : ∀ {x y : V} {u v : Value}, VR w f G x u → VR w f G y v → nilFits i.d y = true → kindFits i.d x = true → (∀ op o1 o2, (eqGuard op t o1 o2 u v).run P w = .ok () w ∧ (eqGuard op t o1 o2 v u).run P w = .ok () w) ∧
      (binOp .eql t u v = (do pure (.bool (← Op.equal t u v))) ∧ binOp .neq t u v = (do pure (.bool (!(← Op.equal t u v))))) ∧ binOp .eql t v u = (do pure (.bool (← Op.equal t v u))) ∧ binOp .neq t v u = (do pure (.bool (!(← Op.equal t v u)))) := fun {x y u v} hx hy hn hk => by
    rcases nil_form hn hy with ⟨e, he, rfl, rfl⟩ | ⟨e, he, rfl, rfl⟩ | ⟨k, e, he, rfl, rfl⟩ | ⟨he, rfl, rfl⟩
    · rw [he] at hk; obtain ⟨a, rfl, h1⟩ := kind_ptr hk hx; exact ⟨fun op o1 o2 => by cases op <;> simp [eqGuard], ⟨rfl, rfl⟩, rfl, rfl⟩
    · rw [he] at hk; obtain ⟨a, n', c, rfl, h1⟩ := kind_slice hk hx; exact ⟨fun op o1 o2 => by cases op <;> simp [eqGuard], ⟨rfl, rfl⟩, rfl, rfl⟩
    · rw [he] at hk; obtain ⟨a, rfl, h1⟩ := kind_map hk hx; exact ⟨fun op o1 o2 => by cases op <;> simp [eqGuard], ⟨rfl, rfl⟩, rfl, rfl⟩
    · rw [he] at hk
      rcases kind_func hk hx with ⟨rfl, h1⟩ | ⟨a, b2, c, rfl, h1⟩ <;> exact ⟨fun op o1 o2 => by cases op <;> simp [eqGuard], ⟨rfl, rfl⟩, rfl, rfl⟩
  split at h
  · split at h
    · rename_i a b' _ htd
      cases h
      rw [htd] at hdd
      have := td_bool hdd; subst this
      simp only [VR] at hx hy
      subst hx hy
      exact ⟨run_equalIn_bool' w 9999 t a b' hu, fun op o1 o2 => by cases op <;> simp [eqGuard], rfl, rfl⟩
    · cases h
  · rename_i xs ys
    split at h
    · rename_i ks hagg hks
      have hfl := fs_info hc ht hks
      simp only [VR] at hx hy
      obtain ⟨c1, rfl, hs1, ho1, hv1⟩ := hx
      obtain ⟨c2, rfl, hs2, ho2, hv2⟩ := hy
      have hl := eqK_length h
      refine ⟨?_, fun op o1 o2 => run_eqGuard_agg w op t o1 o2 c1 c2 (flat_guard hfl (by unfold Program.depth; simp [Made.depth]; omega)), rfl, rfl⟩
      obtain ⟨_, d', _, hu', _, _, ha, _⟩ := hc.ty _ _ ht
      rw [hu] at hu'
      cases hu'
      rw [hagg] at ha
      unfold flatK at hfl
      rw [hu] at hfl
      cases d <;> simp [aggT] at ha <;> simp only [reduceCtorEq] at hfl
      rename_i fs
      split at hfl
      · cases hfl
      rename_i hp
      show (Op.equalIn (9999 + 1) t _ _).run P w = _
      rw [run_equalIn_struct w 9999 t _ _ (by rw [fieldsOf_eq hu]; exact hu) (by simpa using hp), fieldsOf_eq hu]
      exact flatFs_ok (fun t' ks' hg hi' => flatK_ok hg (by omega) hi') hfl _ _ xs ys b h (by omega) (by omega) (by simpa using hv1) (by simpa using hv2)
    · cases h
  · rename_i x y hnb hna
    split at h
    · rename_i hcond
      rw [Bool.and_eq_true] at hcond
      exact ⟨(main hx hy hcond.1 hcond.2 h).1, fun op o1 o2 => ((guard hx hy hcond.1 hcond.2).1 op o1 o2).1, (guard hx hy hcond.1 hcond.2).2.1⟩
    · split at h
      · rename_i hcond
        rw [Bool.and_eq_true] at hcond
        exact ⟨(main hy hx hcond.1 hcond.2 h).2, fun op o1 o2 => ((guard hy hx hcond.1 hcond.2).1 op o1 o2).2, (guard hy hx hcond.1 hcond.2).2.2⟩
      · cases h
end Go.Ev
end

section
set_option linter.unusedVariables false
set_option linter.unusedSimpArgs false
namespace Go.Ev
variable {P : Program} {cx : Cx} {w : World} {f : FM} {G : GM} {h : Hp}
theorem binI_ok {op : BinOp} {t : Nat} {k : IntKind} {a b : Int} {v : V} (hs : isShift op = false) (h : binI op k a b = some v) : ∃ u, (binOp op t (.int k a) (.int k b)).run P w = .ok u w ∧ VR w f G v u := by
  unfold binI at h
  cases op <;> simp only [isShift, Bool.true_eq_false] at hs <;> simp only [reduceCtorEq] at h
  all_goals first
    | (cases h; exact ⟨_, by simp [binOp, Op.intArith, Op.intBits, Op.intCmp]; rfl, by simp [VR]⟩)
    | (split at h
       · cases h
       · rename_i hb
         cases h
         exact ⟨_, by simp [binOp, Op.intDiv, hb]; rfl, by simp [VR]⟩)
theorem binShift_ok {op : BinOp} {t : Nat} {k k' : IntKind} {a b : Int} {v : V} (hs : isShift op = true) (h : binShift op k a b = some v) : ∃ u, (binOp op t (.int k a) (.int k' b)).run P w = .ok u w ∧ VR w f G v u := by
  unfold binShift at h
  split at h
  · cases h
  rename_i hb
  cases op <;> simp only [isShift, Bool.false_eq_true] at hs <;> cases h <;> exact ⟨_, by simp [binOp, Op.shift, hb]; rfl, by simp [VR]⟩
theorem binV_ok (hc : TyOk P cx) {op : BinOp} {t : Nat} {x y v : V} {p q : Value} (o1 o2 : Operand) (hx : VR w f G x p) (hy : VR w f G y q) (h : binV cx op t x y = some v) :
    ∃ u, (do eqGuard op t o1 o2 p q; binOp op t p q).run P w = .ok u w ∧ VR w f G v u := by
  unfold binV at h
  split at h
  · rename_i k a k' b
    simp only [VR] at hx hy
    subst hx hy
    have hg : (eqGuard op t o1 o2 (.int k a) (.int k' b)).run P w = .ok () w := by cases op <;> simp [eqGuard]
    split at h
    · rename_i hs
      obtain ⟨u, hu, hv⟩ := binShift_ok (P := P) (w := w) (f := f) (G := G) (t := t) (k' := k') hs h
      exact ⟨u, by simp only [Sem.run_bind, hg, Result.andThen_ok, hu], hv⟩
    · rename_i hs
      split at h
      · rename_i hk
        subst hk
        obtain ⟨u, hu, hv⟩ := binI_ok (P := P) (w := w) (f := f) (G := G) (t := t) (by simpa using hs) h
        exact ⟨u, by simp only [Sem.run_bind, hg, Result.andThen_ok, hu], hv⟩
      · cases h
  · rename_i a b
    simp only [VR] at hx hy
    subst hx hy
    have hg : (eqGuard op t o1 o2 (.string a) (.string b)).run P w = .ok () w := by cases op <;> simp [eqGuard]
    split at h
    · cases h
      exact ⟨.bool (a == b), by simp [hg, binOp, Op.stringOp, beq_toListBytes], by simp [VR]⟩
    · cases h
      exact ⟨.bool (!(a == b)), by simp [hg, binOp, Op.stringOp, beq_toListBytes], by simp [VR]⟩
    · cases h
  · split at h
    · cases he : eqV cx t x y with
      | none => simp [he] at h
      | some b =>
        simp only [he, Option.map_some, Option.some.injEq] at h
        subst h
        obtain ⟨h1, h2, h3, _⟩ := eqV_ok hc hx hy he
        exact ⟨.bool b, by simp [h2, h3, h1], by simp [VR]⟩
    · cases he : eqV cx t x y with
      | none => simp [he] at h
      | some b =>
        simp only [he, Option.map_some, Option.some.injEq] at h
        subst h
        obtain ⟨h1, h2, _, h3⟩ := eqV_ok hc hx hy he
        exact ⟨.bool !b, by simp [h2, h3, h1], by simp [VR]⟩
    · cases h
theorem unV_ok {op : UnOp} {x v : V} {p : Value} (hx : VR w f G x p) (h : unV op x = some v) : ∃ u, (Op.unary op p).run P w = .ok u w ∧ VR w f G v u := by
  unfold unV at h
  split at h
  · simp only [VR] at hx; subst hx; cases h
    exact ⟨_, by simp [Op.unary, Op.intArith]; rfl, by simp [VR]⟩
  · simp only [VR] at hx; subst hx; cases h
    exact ⟨_, by simp [Op.unary]; rfl, by simp [VR]⟩
  · cases h
/-! ### slices -/
theorem bnd_ok {o : Option V} {q : Option Value} {d n y : Nat} {code : BoundsCode} (ho : ∀ v, o = some v → ∃ u, q = some u ∧ VR w f G v u) (h : bnd o d = some n) (hn : o ≠ none → n ≤ y) :
    ∀ v, o = some v → ∃ u, q = some u ∧ (Instr.sliceBound u y code).run P w = .ok n w := by
  intro v hv
  obtain ⟨u, hu, hr⟩ := ho v hv
  subst hv
  have hle := hn (by simp)
  unfold bnd at h
  split at h
  · rename_i h0; cases h0
  · rename_i _ i h0
    cases h0
    simp only [VR] at hr
    subst hr
    split at h
    · rename_i h1
      cases h
      refine ⟨_, hu, ?_⟩
      have : i ≤ (y : Int) := by omega
      simp [Instr.sliceBound, asIntOf, h1, this]
    · cases h
  · cases h
/-- an optional bound, on both sides -/
def ORel (w : World) (f : FM) (G : GM) (o : Option V) (q : Option Value) : Prop := match o with
  | none => q = none
  | some v => ∃ u, q = some u ∧ VR w f G v u
theorem ORel.out {o : Option V} {q : Option Value} (h : ORel w f G o q) : ∀ v, o = some v → ∃ u, q = some u ∧ VR w f G v u := by
  rintro v rfl; exact h
def capOf (mx : Option V) (cap m : Nat) : Nat := match mx with
  | none => cap
  | some _ => m
theorem bounds_ok {lo hi mx : Option V} {lo' hi' mx' : Option Value} (h1 : ORel w f G lo lo') (h2 : ORel w f G hi hi') (h3 : ORel w f G mx mx') (b : Bool) {n cap l hh m : Nat} (hcap : n ≤ cap) (hmh : mx ≠ none → hi ≠ none)
    (e1 : bnd lo 0 = some l) (e2 : bnd hi n = some hh) (e3 : bnd mx n = some m) (c1 : l ≤ hh) (c2 : hh ≤ m) (c3 : m ≤ n) :
    (Instr.sliceBounds b n cap lo' hi' mx').run P w = .ok (l, hh, capOf mx cap m) w := by
  have hm : mx = none → m = n := by rintro rfl; simp [bnd] at e3; exact e3.symm
  have hl : lo = none → l = 0 := by rintro rfl; simp [bnd] at e1; exact e1.symm
  have hhi : hi = none → hh = n := by rintro rfl; simp [bnd] at e2; exact e2.symm
  cases mx with
  | none =>
    simp only [ORel] at h3
    subst h3
    cases hi with
    | none =>
      simp only [ORel] at h2
      subst h2
      have := hhi rfl
      subst this
      cases lo with
      | none =>
        simp only [ORel] at h1
        subst h1
        simp [capOf, Instr.sliceBounds, hl rfl]
      | some v =>
        obtain ⟨u, rfl, hu⟩ := bnd_ok (P := P) (code := .sliceB) h1.out e1 (fun _ => c1) v rfl
        simp [capOf, Instr.sliceBounds, hu]
    | some v2 =>
      obtain ⟨u2, rfl, hu2⟩ := bnd_ok (P := P) (y := cap) (code := if b = true then .sliceAcap else .sliceAlen) h2.out e2 (fun _ => by have := hm rfl; omega) v2 rfl
      cases lo with
      | none =>
        simp only [ORel] at h1
        subst h1
        simp [capOf, Instr.sliceBounds, hu2, hl rfl]
      | some v =>
        obtain ⟨u, rfl, hu⟩ := bnd_ok (P := P) (code := .sliceB) h1.out e1 (fun _ => c1) v rfl
        simp [capOf, Instr.sliceBounds, hu, hu2]
  | some v3 =>
    obtain ⟨u3, rfl, hu3⟩ := bnd_ok (P := P) (y := cap) (code := if b = true then .slice3Acap else .slice3Alen) h3.out e3 (fun _ => by omega) v3 rfl
    cases hi with
    | none => exact absurd rfl (hmh (by simp))
    | some v2 =>
      obtain ⟨u2, rfl, hu2⟩ := bnd_ok (P := P) (y := m) (code := .slice3B) h2.out e2 (fun _ => c2) v2 rfl
      cases lo with
      | none =>
        simp only [ORel] at h1
        subst h1
        simp [capOf, Instr.sliceBounds, hu2, hu3, hl rfl]
      | some v =>
        obtain ⟨u, rfl, hu⟩ := bnd_ok (P := P) (code := .slice3C) h1.out e1 (fun _ => c1) v rfl
        simp [capOf, Instr.sliceBounds, hu, hu2, hu3]
theorem cutRow_ok {z : Nat} {lo hi mx : Option V} {n : Nat} {k : Nat → Nat → Nat → Option V} {v : V} (h : cutRow z lo hi mx n k = some v) :
    ∃ l hh m, bnd lo 0 = some l ∧ bnd hi n = some hh ∧ bnd mx n = some m ∧ l ≤ hh ∧ hh ≤ m ∧ m ≤ n ∧ 0 < z ∧ (mx ≠ none → hi ≠ none) ∧ k l hh m = some v := by
  unfold cutRow at h
  split at h
  · rename_i l hh m e1 e2 e3
    split at h
    · rename_i hc
      obtain ⟨c1, c2, c3, c4, c5⟩ := hc
      refine ⟨l, hh, m, e1, e2, e3, c1, c2, c3, c4, ?_, h⟩
      cases mx <;> cases hi <;> simp at c5 ⊢
    · cases h
  · cases h
theorem sliceV_ok (hc : TyOk P cx) {t : Nat} {x v : V} {p : Value} {lo hi mx : Option V} {lo' hi' mx' : Option Value} (hx : VR w f G x p) (h1 : ORel w f G lo lo') (h2 : ORel w f G hi hi') (h3 : ORel w f G mx mx') (h : sliceV cx t x lo hi mx = some v) :
    ∃ u, (Instr.sliceAt t p lo' hi' mx').run P w = .ok u w ∧ VR w f G v u := by
  unfold sliceV at h
  split at h
  · cases h
  rename_i ti ht
  obtain ⟨d, hd, hdd, hu⟩ := (hc.ty _ _ ht).und w
  have hat : (∀ n e, d ≠ .array n e) → (Instr.sliceAt t p lo' hi' mx').run P w = (Instr.slice t p lo' hi' mx').run P w := fun hne => by
    unfold Instr.sliceAt
    rw [Sem.run_bind, hd]
    cases d <;> simp at hne ⊢
  split at h
  · rename_i s htd
    rw [htd] at hdd
    have := td_str hdd; subst this
    simp only [VR] at hx
    subst hx
    split at h
    · rename_i l hh e1 e2
      split at h
      · rename_i hle
        cases h
        have hb := bounds_ok (P := P) h1 h2 h3 false (cap := s.size) (Nat.le_refl _) (by simp) e1 e2 (m := s.size) (by simp [bnd]) hle.1 hle.2 (Nat.le_refl _)
        simp only [ORel] at h3
        subst h3
        refine ⟨.string (s.extract l hh), ?_, by simp [VR]⟩
        rw [hat (by simp)]
        simp only [Instr.slice, Sem.run_bind, hd, Result.andThen_ok, Option.isSome_none, Bool.false_eq_true, if_false, hb, Sem.run_pure]
      · cases h
    · cases h
  · rename_i e htd
    rw [htd] at hdd
    have := td_slice hdd; subst this
    simp only [VR] at hx
    subst hx
    split at h
    case h_2 => cases h
    rename_i z hz
    obtain ⟨hsz, _⟩ := sizeOf_ok hc hz w
    obtain ⟨l, hh, m, e1, e2, e3, c1, c2, c3, c4, c5, hk⟩ := cutRow_ok h
    cases hk
    obtain ⟨rfl⟩ : m = 0 := by omega
    obtain ⟨rfl⟩ : hh = 0 := by omega
    obtain ⟨rfl⟩ : l = 0 := by omega
    have hb := bounds_ok (P := P) h1 h2 h3 true (cap := 0) (Nat.le_refl _) c5 e1 e2 e3 c1 c2 c3
    refine ⟨.slice none 0 0, ?_, by simp [VR]⟩
    rw [hat (by simp)]
    have e0 : capOf mx 0 0 = 0 := by cases mx <;> rfl
    rw [e0] at hb
    simp only [Instr.slice, Sem.run_bind, hd, Result.andThen_ok, hb, hsz, Sem.run_pure]
    simp
  · rename_i e β z' clip es htd
    rw [htd] at hdd
    have := td_slice hdd; subst this
    simp only [VR] at hx
    obtain ⟨a, c', rfl, hn, hcl, hr⟩ := hx
    split at h
    case h_2 => cases h
    rename_i z hz
    obtain ⟨hsz, _⟩ := sizeOf_ok hc hz w
    split at h
    case isFalse => cases h
    rename_i hzz
    subst hzz
    obtain ⟨l, hh, m, e1, e2, e3, c1, c2, c3, c4, c5, hk⟩ := cutRow_ok h
    have hb := bounds_ok (P := P) h1 h2 h3 true (cap := c') hn c5 e1 e2 e3 c1 c2 c3
    generalize hM : capOf mx c' m = M at hb
    have hMm : m ≤ M := by
      subst hM
      cases mx with
      | none => simp [bnd] at e3; simp only [capOf]; omega
      | some _ => exact Nat.le_refl _
    refine ⟨.slice (if M = l then some a else some (a.add (l * z'))) (hh - l) (M - l), ?_, ?_⟩
    · rw [hat (by simp)]
      simp only [Instr.slice, Sem.run_bind, hd, Result.andThen_ok, hb, hsz, Sem.run_pure, Option.map_some]
    · cases hk
      simp only [VR]
      have hlen : ((es.drop l).take (hh - l)).length = hh - l := by simp; omega
      refine ⟨if M = l then a else a.add (l * z'), M - l, ?_, by omega, ?_, fun hne => ?_⟩
      · rw [hlen]; congr 1; split <;> rfl
      · intro hclip
        rw [hlen]
        cases mx with
        | none =>
          simp only [Bool.and_eq_true, beq_iff_eq] at hclip
          simp only [capOf] at hM
          have := hcl hclip.1
          omega
        | some _ =>
          simp only [beq_iff_eq] at hclip
          simp only [capOf] at hM
          omega
      · have hlt : l < hh := by
          rcases Nat.lt_or_ge l hh with q | q
          · exact q
          · exfalso; apply hne; rw [show hh - l = 0 by omega]; simp
        have hes : es ≠ [] := by rintro rfl; simp at hn c3; omega
        obtain ⟨hs, hg, cc, e', fr, hbk, hrow⟩ := hr hes
        have hβ : (β && l != hh) = β := by
          have : (l != hh) = true := by simp; omega
          rw [this, Bool.and_true]
        rw [hβ, if_neg (by omega), add_off hs]
        refine ⟨rfl, hg, cc, e', fr, hbk, VRr_iff.2 fun j r hj => ?_⟩
        rw [List.getElem?_take] at hj
        split at hj
        · rw [List.getElem?_drop] at hj
          obtain ⟨q1, q2, q3⟩ := VRr_iff.1 hrow _ _ hj
          refine ⟨q1, q2, ?_⟩
          have e9 : (fun j_1 => cc[a.off + l * z' + (j * z' + j_1)]?) = fun j_1 => cc[a.off + ((l + j) * z' + j_1)]? := by
            funext i; congr 1; rw [Nat.add_mul]; omega
          rw [e9]; exact q3
        · cases hj
  · rename_i e b o n z' c htd
    rw [htd] at hdd
    have := td_slice hdd; subst this
    simp only [VR] at hx
    obtain ⟨k, s, c', a, hf, rfl, ha, hn, hc', ccz, ez, frz, hblk, hfit⟩ := hx
    split at h
    case h_2 => cases h
    rename_i z hz
    obtain ⟨hsz, _⟩ := sizeOf_ok hc hz w
    split at h
    case isFalse => cases h
    rename_i hzz
    subst hzz
    obtain ⟨l, hh, m, e1, e2, e3, c1, c2, c3, c4, c5, hk⟩ := cutRow_ok h
    have hb := bounds_ok (P := P) h1 h2 h3 true (cap := c') hn c5 e1 e2 e3 c1 c2 c3
    generalize hM : capOf mx c' m = M at hb
    have hMm : m ≤ M := by
      subst hM
      cases mx with
      | none => simp [bnd] at e3; simp only [capOf]; omega
      | some _ => exact Nat.le_refl _
    refine ⟨.slice (if M = l then some a else some (a.add (l * z'))) (hh - l) (M - l), ?_, ?_⟩
    · rw [hat (by simp)]
      simp only [Instr.slice, Sem.run_bind, hd, Result.andThen_ok, hb, hsz, Sem.run_pure, Option.map_some]
    · cases hk
      simp only [VR]
      refine ⟨k, s, M - l, if M = l then a else a.add (l * z'), hf, by congr 1; split <;> rfl, fun hne => ?_, by omega, fun y hy => ?_, ccz, ez, frz, hblk, ?_⟩
      · have hc0 : c' ≠ 0 := by
          subst hM
          cases mx with
          | none => simp only [capOf] at hne; omega
          | some _ => simp only [capOf] at hne; omega
        rw [if_neg (by omega), ha hc0, add_none, Nat.add_mul, Nat.add_assoc]
      · cases mx with
        | none =>
          cases c with
          | none => simp at hy
          | some c0 =>
            simp only [Option.map_some, Option.some.injEq] at hy
            simp only [capOf] at hM
            have := hc' c0 rfl
            omega
        | some _ =>
          simp only [Option.some.injEq] at hy
          simp only [capOf] at hM
          omega
      · have hMc : M ≤ c' := by
          subst hM
          cases mx with
          | none => exact Nat.le_refl _
          | some _ => simp only [capOf]; omega
        have e1 : (o + l) * z' + (M - l) * z' = o * z' + M * z' := by
          rw [← Nat.add_mul, ← Nat.add_mul]; congr 1; omega
        have e2 : M * z' ≤ c' * z' := Nat.mul_le_mul_right _ hMc
        omega
  · cases h
end Go.Ev
end

section
set_option linter.unusedVariables false
set_option linter.unusedSimpArgs false
namespace Go.Ev
variable {P : Program} {cx : Cx} {w : World} {f : FM} {G : GM} {h : Hp}
theorem zeroCl_ok (hc : TyOk P cx) {t : Nat} {z : List V} (h : zeroCl cx t = some z) : ∃ u info, (zeroValue t).run P w = .ok u w ∧ P.info? t = some info ∧ info.zero = some u ∧ u.cells.size = z.length ∧ VRs w f G z (fun i => u.cells[i]?) ∧ ones z := by
  unfold zeroCl zeroOf at h
  cases hi : cx.ty t with
  | none => simp [hi] at h
  | some i =>
    simp only [hi] at h
    cases hz : i.zero with
    | none => simp [hz] at h
    | some v =>
      simp only [hz] at h
      obtain ⟨info, d, h1, h2, _, _, _, h3, _⟩ := hc.ty _ _ hi
      rw [h3] at hz
      cases hu : info.zero with
      | none => simp [hu] at hz
      | some u =>
        simp only [hu, Option.bind_some] at hz
        obtain ⟨a, b, c⟩ := cl_ok (ofConst_ok (w := w) (f := f) (G := G) hz) h
        exact ⟨u, info, by simp [zeroValue, typeInfo, h1, hu], h1, hu, a, b, c⟩
theorem var_ok (i : Inv w f G h) {cs : List V} {c' : Array Value} (e : TypeId) (hv : VRs w f G cs (fun j => c'[j]?)) (hs : c'.size = cs.length) (ho : ones cs) :
    Stp w f G h (w.alloc (.cells c' e)) (fset f h.next (w.heap.size, 0, cs.length)) G (h.var cs) ∧ Inv (w.alloc (.cells c' e)) (fset f h.next (w.heap.size, 0, cs.length)) G (h.var cs) ∧
      VR (w.alloc (.cells c' e)) (fset f h.next (w.heap.size, 0, cs.length)) G (.ptr h.next 0 0) (.pointer (some ⟨w.heap.size, 0, none⟩)) := by
  have := add_ok i (.cells c' e) (.cells [cs] cs.length) 0 cs.length (fun f' hf hG => ⟨rfl, c', e, (0, 0), heap_alloc_new w _, .inl (Nat.le_refl _), by
    refine VRr_iff.2 fun j r hj => ?_
    cases j with
    | zero =>
      simp only [List.getElem?_cons_zero, Option.some.injEq] at hj
      subst hj
      exact ⟨rfl, ho, by simpa using VRs.mono cs hf (GLe.refl _) hG hv⟩
    | succ j => simp at hj⟩)
  refine ⟨this.1, this.2, ?_⟩
  simp only [VR]
  exact ⟨w.heap.size, 0, cs.length, by simp [fset], by simp⟩
/-! ### literals -/
theorem foldl_lay (vs : Array Value) (off : Nat) (cells : Array Value) (hl : off + vs.size ≤ cells.size) :
    (vs.zipIdx.foldl (fun cs (c, j) => cs.setIfInBounds (off + j) c) cells).size = cells.size ∧ ∀ j, (vs.zipIdx.foldl (fun cs (c, j) => cs.setIfInBounds (off + j) c) cells)[j]? = if off ≤ j ∧ j < off + vs.size then vs[j - off]? else cells[j]? := by
  have key : ∀ (l : List Value) (k : Nat) (cells : Array Value), off + k + l.length ≤ cells.size →
      ((l.zipIdx k).foldl (fun cs (x : Value × Nat) => cs.setIfInBounds (off + x.2) x.1) cells).size = cells.size ∧
      ∀ j, ((l.zipIdx k).foldl (fun cs (x : Value × Nat) => cs.setIfInBounds (off + x.2) x.1) cells)[j]? = if off + k ≤ j ∧ j < off + k + l.length then l[j - (off + k)]? else cells[j]? := by
    intro l
    induction l with
    | nil => intro k cells hl; refine ⟨by simp, fun j => ?_⟩; rw [if_neg (by simp only [List.length_nil]; omega)]; simp
    | cons v l ih =>
      intro k cells hl
      simp only [List.length_cons] at hl
      simp only [List.zipIdx_cons, List.foldl_cons]
      obtain ⟨h1, h2⟩ := ih (k + 1) (cells.setIfInBounds (off + k) v) (by rw [Array.size_setIfInBounds]; omega)
      refine ⟨by rw [h1, Array.size_setIfInBounds], fun j => ?_⟩
      rw [h2]
      simp only [List.length_cons, Array.getElem?_setIfInBounds]
      by_cases c1 : off + (k + 1) ≤ j ∧ j < off + (k + 1) + l.length
      · rw [if_pos c1, if_pos (by omega), show j - (off + k) = (j - (off + (k + 1))) + 1 by omega]; simp
      · rw [if_neg c1]
        by_cases c2 : off + k = j
        · subst c2
          rw [if_pos rfl, if_pos (by omega), if_pos (by omega)]; simp
        · rw [if_neg c2, if_neg (by omega)]
  have := key vs.toList 0 cells (by simpa using hl)
  rw [← Array.foldl_toList, Array.toList_zipIdx]
  simpa using this
def PartsR (w : World) (f : FM) (G : GM) : List (Nat × V) → List (Nat × Value) → Prop
  | [], [] => True
  | (i, v) :: l, (j, x) :: r => i = j ∧ VR w f G v x ∧ PartsR w f G l r
  | _, _ => False
theorem parts_ok {tm : List V} {a : Act} (ha : ActR w f G tm a) : ∀ {ps : List (Nat × Operand)} {l : List (Nat × V)}, parts tm ps = some l → PartsR w f G l (ps.map fun (i, x) => (i, a.eval x))
  | [], l, h => by simp [parts] at h; subst h; simp [PartsR]
  | (i, x) :: ps, l, h => by
    simp only [parts] at h
    cases h1 : ev tm x with
    | none => simp [h1] at h
    | some v =>
      simp only [h1] at h
      cases h2 : parts tm ps with
      | none => simp [h2] at h
      | some r =>
        simp only [h2, Option.some.injEq] at h
        subst h
        exact ⟨rfl, ev_ok ha h1, parts_ok ha h2⟩
theorem fill_ok {place : Nat → Option (Nat × Nat)} : ∀ {l : List (Nat × V)} {r : List (Nat × Value)} {cs cs' : List V} {c : Array Value}, PartsR w f G l r → VRs w f G cs (fun j => c[j]?) → c.size = cs.length → ones cs → fill place cs l = some cs' →
    ∃ c', Instr.fill place c r = some c' ∧ c'.size = cs'.length ∧ VRs w f G cs' (fun j => c'[j]?) ∧ ones cs'
  | [], [], cs, cs', c, _, h1, h2, h3, h => by
    simp only [fill, Option.some.injEq] at h
    subst h
    exact ⟨c, rfl, h2, h1, h3⟩
  | [], _ :: _, _, _, _, hp, _, _, _, _ => by simp [PartsR] at hp
  | _ :: _, [], _, _, _, hp, _, _, _, _ => by simp [PartsR] at hp
  | (i, v) :: l, (j, x) :: r, cs, cs', c, hp, h1, h2, h3, h => by
    simp only [PartsR] at hp
    obtain ⟨rfl, hv, hp⟩ := hp
    simp only [fill] at h
    split at h
    · rename_i off size lv hpl hcl
      split at h
      · rename_i hsz
        split at h
        · rename_i cs1 hlay
          obtain ⟨a1, a2, a3⟩ := cl_ok hv hcl
          obtain ⟨b1, b2, b3⟩ := lay_some hlay
          obtain ⟨d1, d2⟩ := foldl_lay x.cells off c (by omega)
          obtain ⟨c', e1, e2, e3, e4⟩ := fill_ok (c := x.cells.zipIdx.foldl (fun cs (c, j) => cs.setIfInBounds (off + j) c) c) hp (cs := cs1) (VRs_iff.2 fun q u hq => by
            rw [b3] at hq
            rw [d2]
            split at hq
            · rename_i hin
              rw [if_pos (by omega)]
              exact VRs_iff.1 a2 _ _ hq
            · rename_i hin
              rw [if_neg (by omega)]
              exact VRs_iff.1 h1 _ _ hq) (by omega) (lay_ones hlay h3 a3) h
          refine ⟨c', ?_, e2, e3, e4⟩
          simp only [Instr.fill, hpl]
          rw [if_neg (by simp; omega)]
          exact e1
        · cases h
      · cases h
    · cases h
theorem places_of {fields : List Field} (hk : (fields.all fun f => (P.info? f.type).isSome) = true) : ∃ places, fields.mapM (fun f => (P.info? f.type).map fun i => (f.offset, i.size)) = some places ∧ ∀ (i : Nat) (fd : Field), fields[i]? = some fd → ∃ info, P.info? fd.type = some info ∧ places[i]? = some (fd.offset, info.size) := by
  induction fields with
  | nil => exact ⟨[], by simp, by simp⟩
  | cons fd fs ih =>
    simp only [List.all_cons, Bool.and_eq_true] at hk
    obtain ⟨pl, h1, h2⟩ := ih hk.2
    obtain ⟨info, hi⟩ := Option.isSome_iff_exists.1 hk.1
    refine ⟨(fd.offset, info.size) :: pl, by simp [List.mapM_cons, hi, h1], fun i fd' hi' => ?_⟩
    cases i with
    | zero => simp at hi'; subst hi'; exact ⟨info, hi, by simp⟩
    | succ i => simpa using h2 i fd' (by simpa using hi')
theorem fill_place {p q : Nat → Option (Nat × Nat)} : ∀ {l : List (Nat × V)} {cs cs' : List V}, (∀ i y, p i = some y → q i = some y) → fill p cs l = some cs' → fill q cs l = some cs'
  | [], cs, cs', _, h => h
  | (i, v) :: l, cs, cs', hpq, h => by
    simp only [fill] at h ⊢
    split at h
    · rename_i off size lv hpl hcl
      rw [hpq _ _ hpl, hcl]
      split at h
      · rename_i hs
        split at h
        · rename_i cs1 hl
          simp only [if_pos hs, hl]
          exact fill_place hpq h
        · cases h
      · cases h
    · cases h
theorem buildV_ok (hc : TyOk P cx) {t : Nat} {l : List (Nat × V)} {r : Array (Nat × Value)} {v : V} (hp : PartsR w f G l r.toList) (h : buildV cx t l = some v) : ∃ u, (Instr.build t r).run P w = .ok u w ∧ VR w f G v u := by
  unfold buildV at h
  split at h
  case h_2 => cases h
  rename_i ti ht
  obtain ⟨info, d, hi, hu, _, _, _, _, _, hd, hkn⟩ := hc.ty _ _ ht
  split at h
  · rename_i z fs hz hfs
    rw [hfs] at hd
    obtain ⟨fs', rfl, rfl⟩ := td_strct hd.symm
    obtain ⟨zu, info', _, hi', hzz, z1, z2, z3⟩ := zeroCl_ok (P := P) (w := w) (f := f) (G := G) hc hz
    rw [hi] at hi'; cases hi'
    cases hf : fill (placeIn cx (fs'.toList.map fun f => (f.type, f.offset))) z l with
    | none => simp [hf] at h
    | some cs =>
      simp only [hf, Option.map_some, Option.some.injEq] at h
      subst h
      obtain ⟨places, p1, p2⟩ := places_of (P := P) (by simpa [known] using hkn : (fs'.toList.all fun f => (P.info? f.type).isSome) = true)
      have hf2 := fill_place (q := (places.toArray[·]?)) (fun i y hy => by
        unfold placeIn at hy
        split at hy
        · rename_i ft off hfo
          obtain ⟨fd, hfd, rfl, rfl⟩ := fs_at hfo
          split at hy
          · rename_i zz hzz
            cases hy
            obtain ⟨info2, q1, q2⟩ := p2 i fd (by simpa using hfd)
            obtain ⟨i2, hi2, hs2⟩ := (sizeOf_ok (P := P) hc hzz w).2
            obtain ⟨info3, _, q3, _, q4, _⟩ := hc.ty _ _ hi2
            rw [q1] at q3; cases q3
            simp [q2, ← hs2, q4]
          · cases hy
        · cases hy) hf
      obtain ⟨c', e1, e2, e3, e4⟩ := fill_ok hp z2 z1 z3 hf2
      refine ⟨.agg c', run_build w t r c' ?_, ?_⟩
      · simp only [Program.built, hi, hu, hzz, p1]
        exact e1
      · simp only [VR]
        exact ⟨c', rfl, e2, e4, e3⟩
  · rename_i z n e hz hfs
    rw [hfs] at hd
    have := td_arr hd.symm; subst this
    split at h
    case h_2 => cases h
    rename_i sz hsz
    obtain ⟨zu, info', _, hi', hzz, z1, z2, z3⟩ := zeroCl_ok (P := P) (w := w) (f := f) (G := G) hc hz
    rw [hi] at hi'; cases hi'
    obtain ⟨i2, hi2, hs2⟩ := (sizeOf_ok (P := P) hc hsz w).2
    obtain ⟨info3, _, q3, _, q4, _⟩ := hc.ty _ _ hi2
    cases hf : fill (fun i => some (i * sz, sz)) z l with
    | none => simp [hf] at h
    | some cs =>
      simp only [hf, Option.map_some, Option.some.injEq] at h
      subst h
      obtain ⟨c', e1, e2, e3, e4⟩ := fill_ok hp z2 z1 z3 hf
      refine ⟨.agg c', run_build w t r c' ?_, ?_⟩
      · simp only [Program.built, hi, hu, hzz, q3, ← q4, hs2]
        exact e1
      · simp only [VR]
        exact ⟨c', rfl, e2, e4, e3⟩
  · cases h
end Go.Ev
end

section
set_option linter.unusedVariables false
set_option linter.unusedSimpArgs false
namespace Go.Ev
variable {P : Program} {cx : Cx} {w : World} {f : FM} {G : GM} {h : Hp}
theorem row_end {z i n : Nat} (hi : i < n) : i * z + z ≤ n * z := by
  have : (i + 1) * z ≤ n * z := Nat.mul_le_mul_right z hi
  rw [Nat.add_mul] at this; omega
theorem fillRow_ok {z : Nat} : ∀ {l : List (Nat × V)} {r : List (Nat × Value)} {rows rows' : List (List V)} {c : Array Value}, PartsR w f G l r → VRr w f G z rows (fun j => c[j]?) → c.size = rows.length * z → fillRow z rows l = some rows' →
    ∃ c', Instr.fill (fun i => some (i * z, z)) c r = some c' ∧ c'.size = rows'.length * z ∧ rows'.length = rows.length ∧ VRr w f G z rows' (fun j => c'[j]?)
  | [], [], rows, rows', c, _, h1, h2, h => by
    simp only [fillRow, Option.some.injEq] at h
    subst h
    exact ⟨c, rfl, h2, rfl, h1⟩
  | [], _ :: _, _, _, _, hp, _, _, _ => by simp [PartsR] at hp
  | _ :: _, [], _, _, _, hp, _, _, _ => by simp [PartsR] at hp
  | (i, v) :: l, (j, x) :: r, rows, rows', c, hp, h1, h2, h => by
    simp only [PartsR] at hp
    obtain ⟨rfl, hv, hp⟩ := hp
    simp only [fillRow] at h
    split at h
    · rename_i lv hcl
      split at h
      · rename_i hc
        obtain ⟨hl, hi⟩ := hc
        obtain ⟨a1, a2, a3⟩ := cl_ok hv hcl
        have he := row_end (z := z) hi
        obtain ⟨d1, d2⟩ := foldl_lay x.cells (i * z) c (by omega)
        obtain ⟨c', e1, e2, e3, e4⟩ := fillRow_ok (c := x.cells.zipIdx.foldl (fun cs (c, j) => cs.setIfInBounds (i * z + j) c) c) hp (rows := rows.set i lv) (VRr_iff.2 fun m row hm => by
          rw [List.getElem?_set] at hm
          by_cases em : i = m
          · subst em
            rw [if_pos rfl, if_pos hi] at hm
            cases hm
            refine ⟨hl, a3, VRs_iff.2 fun q u hq => ?_⟩
            have hq' := (List.getElem?_eq_some_iff.1 hq).1
            obtain ⟨u', hu', hr⟩ := VRs_iff.1 a2 q u hq
            refine ⟨u', ?_, hr⟩
            rw [d2, if_pos (by omega), show i * z + q - i * z = q by omega]
            exact hu'
          · rw [if_neg em] at hm
            obtain ⟨q1, q2, q3⟩ := VRr_iff.1 h1 m row hm
            refine ⟨q1, q2, VRs_iff.2 fun q u hq => ?_⟩
            have hq' := (List.getElem?_eq_some_iff.1 hq).1
            obtain ⟨u', hu', hr⟩ := VRs_iff.1 q3 q u hq
            refine ⟨u', ?_, hr⟩
            rw [d2, if_neg ?_]
            · exact hu'
            · rintro ⟨b1, b2⟩
              exact mul_apart (z := z) (j := q) (j' := m * z + q - i * z) (Ne.symm em) (by omega) (by omega) (by omega)) (by rw [d1, List.length_set]; exact h2) h
        refine ⟨c', ?_, e2, by rw [e3, List.length_set], e4⟩
        simp only [Instr.fill]
        rw [if_neg (by simp; omega)]
        exact e1
      · cases h
    · cases h
theorem getElem!_of {u : Array Value} {j : Nat} {x : Value} (h : u[j]? = some x) : u[j]! = x := by
  rw [getElem!_def, h]
theorem zrows_ok {zc : List V} {u : Value} {n : Nat} (hs : u.cells.size = zc.length) (hv : VRs w f G zc (fun i => u.cells[i]?)) (ho : ones zc) :
    VRr w f G zc.length (List.replicate n zc) (fun j => ((Array.range (n * zc.length)).map (u.cells[· % u.cells.size]!))[j]?) :=
  VRr_iff.2 fun i r hi => by
    have hlt := (List.getElem?_eq_some_iff.1 hi).1
    rw [List.length_replicate] at hlt
    have hr : r = zc := by rw [List.getElem?_replicate, if_pos hlt] at hi; exact (Option.some.inj hi).symm
    subst hr
    refine ⟨rfl, ho, VRs_iff.2 fun j v hj => ?_⟩
    obtain ⟨x, hx, hr⟩ := VRs_iff.1 hv j v hj
    have hj' := (List.getElem?_eq_some_iff.1 hj).1
    have he := row_end (z := r.length) hlt
    refine ⟨x, ?_, hr⟩
    have e : (i * r.length + j) % u.cells.size = j := by
      rw [hs, Nat.add_comm, Nat.add_mul_mod_self_right, Nat.mod_eq_of_lt hj']
    have hx' : u.cells[j]? = some x := hx
    simp only [Array.getElem?_map]
    rw [Array.getElem?_eq_getElem (by simp; omega)]
    simp [e, getElem!_of hx']
theorem zrows_size {u : Value} {zc : List V} {n : Nat} : ((Array.range (n * zc.length)).map (u.cells[· % u.cells.size]!)).size = (List.replicate n zc).length * zc.length := by simp
/-- a new row -/
theorem newRow_ok (i : Inv w f G h) {rows : List (List V)} {z : Nat} {c' : Array Value} (e : TypeId) (hv : VRr w f G z rows (fun j => c'[j]?)) :
    Stp w f G h (w.alloc (.cells c' e)) (fset f h.next (w.heap.size, 0, z)) G (h.add (.cells rows z)) ∧ Inv (w.alloc (.cells c' e)) (fset f h.next (w.heap.size, 0, z)) G (h.add (.cells rows z)) :=
  add_ok i (.cells c' e) (.cells rows z) 0 z (fun f' hf hG => ⟨rfl, c', e, (0, 0), heap_alloc_new w _, .inl (Nat.le_refl _), by
    have := VRr.mono z rows hf (GLe.refl _) hG hv
    simpa using this⟩)
theorem wrap_small {n : Int} (h0 : 0 ≤ n) (h1 : n ≤ 2 ^ 46) : IntKind.i64.wrap n = n := by
  have : (2 : Int) ^ 46 = 70368744177664 := by decide
  exact IntWalk.i64_in n (by omega)
theorem key_ok (hc : TyOk P cx) {t : Nat} {kk : K3} (h : keyKind cx t = some kk) : ∃ d, P.underlying t = some d ∧ ((kk = .b ∧ d = .bool) ∨ (kk = .i ∧ ∃ k, d = .int k) ∨ (kk = .s ∧ d = .string)) := by
  unfold keyKind at h
  split at h
  · rename_i sz by_ zr kk' td ht
    cases h
    obtain ⟨info, d, _, hu, _, _, ha, _, hf, _⟩ := hc.ty _ _ ht
    refine ⟨d, hu, ?_⟩
    simp only at ha hf
    unfold flatK at hf
    rw [hu] at hf
    cases d <;> simp only [reduceCtorEq] at hf
    · simp at hf; exact .inl ⟨hf, rfl⟩
    · simp at hf; exact .inr (.inl ⟨hf, _, rfl⟩)
    · simp at hf; exact .inr (.inr ⟨hf, rfl⟩)
    · simp [aggT] at ha
  · cases h
theorem eq1_ok {kk : K3} {d : TypeDesc} (hd : (kk = .b ∧ d = .bool) ∨ (kk = .i ∧ ∃ k, d = .int k) ∨ (kk = .s ∧ d = .string)) {x y : V} {u v : Value} {b : Bool} (hx : VR w f G x u) (hy : VR w f G y v) (h : eq1 kk x y = some b) : Instr.sameNow d u v = some b ∧ (b = true → Instr.sameBits 10000 v u = true) := by
  rcases hd with ⟨rfl, rfl⟩ | ⟨rfl, k, rfl⟩ | ⟨rfl, rfl⟩
  · cases x <;> cases y <;> simp only [eq1, reduceCtorEq] at h
    simp only [VR] at hx hy; subst hx hy; cases h
    exact ⟨rfl, fun hb => by simp [Instr.sameBits] at hb ⊢; exact hb.symm⟩
  · cases x <;> cases y <;> simp only [eq1, reduceCtorEq] at h
    simp only [VR] at hx hy; subst hx hy
    split at h
    · rename_i hk; subst hk; cases h
      exact ⟨by simp [Instr.sameNow], fun hb => by simp [Instr.sameBits] at hb ⊢; exact hb.symm⟩
    · cases h
  · cases x <;> cases y <;> simp only [eq1, reduceCtorEq] at h
    simp only [VR] at hx hy; subst hx hy; cases h
    exact ⟨rfl, fun hb => by simp only [Instr.sameBits]; rw [beq_toListBytes] at hb ⊢; simp at hb ⊢; exact hb.symm⟩
end Go.Ev
end
