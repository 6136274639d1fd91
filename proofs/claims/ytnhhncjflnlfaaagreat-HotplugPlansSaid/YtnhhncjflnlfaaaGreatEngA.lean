/-
 The engine, part 1: a symbolic reading of the model's code as a proposition over heaps ('wpS'), to be computed by the kernel.
 Nothing here speaks of a particular program.
-/
import Derived.Deep.Quiet
import Derived.Tactics
import Derived.KernelRfl
import Derived.Laws.Sem
import Derived.Laws.AppendOwn
import Derived.IntWalk
namespace Go.Eng

abbrev Heap := Array Obj
abbrev Env := List (Nat × Value)

structure Sl where
 p : Option Addr
 n : Nat
 c : Nat

def rd (H : Heap) (a : Addr) : Option Value :=
 match H[a.block]? with
 | some (.cells c _ _) => if a.spot.isSome then none else c[a.off]?
 | _ => none

def frz (H : Heap) (a : Addr) : Bool :=
 match H[a.block]? with
 | some (.cells _ _ (lo, hi)) => lo <= a.off && a.off < hi
 | _ => false

def updO (f : Array Value -> Array Value) : Obj -> Obj
 | .cells c elem frozen => .cells (f c) elem frozen
 | o => o

def shp (H : Heap) (r : Nat) : Option (TypeId × Nat) :=
 match H[r]? with
 | some (.cells c elem _) => some (elem, c.size)
 | _ => none

structure Ext (H H' : Heap) : Prop where
 size : H.size <= H'.size
 get : ∀ b, b < H.size -> H'[b]? = H[b]?

structure Same (w w' : World) : Prop where
 tape : w'.tape = w.tape
 os : w'.os = w.os
 output : w'.output = w.output

def CallsH (P : Program) (f : FuncId) (args : Array Value) (H : Heap) (R : Value -> Heap -> Prop) : Prop :=
 ∀ w : World, w.heap = H -> Calls P f args w (fun e w' => ∃ v, e = .returned v /\ Same w w' /\ R v w'.heap)

def CallsP (P : Program) (f : FuncId) (args : Array Value) (K : Value -> Prop) : Prop :=
 ∃ v, (∀ H, CallsH P f args H (fun v' H' => v' = v /\ H' = H)) /\ K v

def runH {α : Type} (P : Program) (s : Sem α) (H : Heap) (K : α -> Heap -> Prop) : Prop :=
 ∀ w : World, w.heap = H -> ∃ a w', s.run P w = .ok a w' /\ Same w w' /\ K a w'.heap

def valM {α : Type} (P : Program) : Sem α -> (α -> Prop) -> Prop
 | .pure a, K => K a
 | .program k, K => valM P (k P) K
 | .mark _ k, K => valM P k K
 | _, _ => False

def oneC : Value -> Bool
 | .agg _ => false
 | .tuple _ => false
 | _ => true

def wpM {α : Type} (P : Program) : Sem α -> Heap -> (α -> Heap -> Prop) -> Prop
 | .pure a, H, K => K a H
 | .load _ a k, H, K => ∃ v, rd H a = some v /\ wpM P (k v) H K
 | .new o k, H, K => wpM P (k H.size) (H.push o) K
 | .shape r k, H, K => wpM P (k (shp H r)) H K
 | .frozen a k, H, K => wpM P (k (frz H a)) H K
 | .program k, H, K => wpM P (k P) H K
 | .mark _ k, H, K => wpM P k H K
 | _, _, _ => False

def iteB (c : Bool) (A B : Prop) : Prop :=
 match c with
 | true => A
 | false => B

def unSome (p : Option Addr) (K : Addr -> Prop) : Prop :=
 match p with
 | some a => K a
 | none => False

def letV (x : Int) (k : Int -> Prop) : Prop := k x
def letH (x : Heap) (k : Heap -> Prop) : Prop := k x

def bitsAnd (k : IntKind) (x y : Int) : Int := k.wrap ((BitVec.ofInt k.bits x &&& BitVec.ofInt k.bits y).toNat)
/-! ### typed values -/

def ShT : Value -> Type
 | .int _ _ => Int
 | .bool _ => Bool
 | .pointer none => Option Addr
 | .pointer (some _) => Addr
 | .slice _ _ _ => Sl
 | .string _ => ByteArray
 | _ => Value

def mkV : (z : Value) -> ShT z -> Value
 | .int k _, n => .int k n
 | .bool _, b => .bool b
 | .pointer none, p => .pointer p
 | .pointer (some _), a => .pointer (some a)
 | .slice _ _ _, s => .slice (Sl.p s) (Sl.n s) (Sl.c s)
 | .string _, s => .string s
 | .float _ _, v => v
 | .complex _ _ _, v => v
 | .map _, v => v
 | .chan _, v => v
 | .func _ _ _, v => v
 | .nilFunc, v => v
 | .iface _ _, v => v
 | .nilIface, v => v
 | .agg _, v => v
 | .tuple _, v => v

def exV : List Value -> (List Value -> Prop) -> Prop
 | [], K => K []
 | z :: zs, K => ∃ x : ShT z, exV zs (fun vs => K (mkV z x :: vs))

def allV : List Value -> (List Value -> Prop) -> Prop
 | [], K => K []
 | z :: zs, K => ∀ x : ShT z, allV zs (fun vs => K (mkV z x :: vs))

def CurL : List Value -> Type -> Type
 | [], α => α
 | z :: zs, α => ShT z -> CurL zs α

def unV : (z : Value) -> Value -> (ShT z -> Prop) -> Prop
 | .int k _, v, K => match v with | .int k' n => if k = k' then K n else False | _ => False
 | .bool _, v, K => match v with | .bool b => K b | _ => False
 | .pointer none, v, K => match v with | .pointer p => K p | _ => False
 | .pointer (some _), v, K => match v with | .pointer (some a) => K a | _ => False
 | .slice _ _ _, v, K => match v with | .slice p n c => K (Sl.mk p n c) | _ => False
 | .string _, v, K => match v with | .string s => K s | _ => False
 | .float _ _, v, K => K v
 | .complex _ _ _, v, K => K v
 | .map _, v, K => K v
 | .chan _, v, K => K v
 | .func _ _ _, v, K => K v
 | .nilFunc, v, K => K v
 | .iface _ _, v, K => K v
 | .nilIface, v, K => K v
 | .agg _, v, K => K v
 | .tuple _, v, K => K v

def appV {α : Type} : (zs : List Value) -> CurL zs α -> List Value -> (α -> Prop) -> Prop
 | [], f, [], K => K f
 | z :: zs, f, v :: vs, K => unV z v (fun x => appV zs (f x) vs K)
 | _, _, _, _ => False

def flatV (vs : List Value) : List Value := vs.flatMap (fun v => v.cells.toList)

def regroup : List Value -> List Value -> List Value
 | [], _ => []
 | .agg cs :: zs, vs => .agg (vs.take cs.size).toArray :: regroup zs (vs.drop cs.size)
 | _ :: zs, v :: vs => v :: regroup zs vs
 | _ :: _, [] => []

def castV (z : Value) (v : Value) (K : Value -> Prop) : Prop :=
 match z with
 | .tuple zs => exV (flatV zs.toList) (fun vs => v = .tuple (regroup zs.toList vs).toArray /\ K (.tuple (regroup zs.toList vs).toArray))
 | .agg cs => exV cs.toList (fun vs => v = .agg vs.toArray /\ K (.agg vs.toArray))
 | z => ∃ x : ShT z, v = mkV z x /\ K (mkV z x)

def zeroT (P : Program) (t : TypeId) : Option Value := (P.info? t).bind (·.zero)

def szT (P : Program) (t : TypeId) : Option Nat := (P.info? t).map (·.size)

def aggT (P : Program) (t : TypeId) : Option Bool :=
 match P.underlying t with
 | some (.struct _) => some true
 | some (.array _ _) => some true
 | some _ => some false
 | none => none

def castT (P : Program) (t : TypeId) (v : Value) (K : Value -> Prop) : Prop :=
 match zeroT P t with
 | some z => castV z v K
 | none => False

def ldCells (H : Heap) (a : Addr) : Nat -> List Value -> (List Value -> Prop) -> Prop
 | _, [], K => K []
 | i, z :: zs, K => ∃ x : ShT z, rd H (a.add i) = some (mkV z x) /\ ldCells H a (i + 1) zs (fun vs => K (mkV z x :: vs))

def ldBig (H : Heap) (a : Addr) (n : Nat) (K : Value -> Prop) : Prop :=
 ∃ vs : List Value, vs.length = n /\ (∀ i v, vs[i]? = some v -> rd H (a.add i) = some v) /\ K (.agg vs.toArray)

def ldV (P : Program) (t : TypeId) (H : Heap) (a : Addr) (K : Value -> Prop) : Prop :=
 match zeroT P t, aggT P t, szT P t with
 | some (.agg cs), some true, some n => match Nat.beq n cs.size with
  | true => match Nat.blt 100 n with
   | true => ldBig H a n K
   | false => ldCells H a 0 cs.toList (fun vs => K (.agg vs.toArray))
  | false => False
 | some z, some false, some _ => ∃ x : ShT z, rd H a = some (mkV z x) /\ K (mkV z x)
 | _, _, _ => False

def splice (c : Array Value) : Nat -> List Value -> Array Value
 | _, [] => c
 | i, v :: vs => splice (c.setIfInBounds i v) (i + 1) vs

def wrs (H : Heap) (a : Addr) (vs : List Value) : Heap := H.modify a.block (updO (fun c => splice c a.off vs))

def okRow (H : Heap) (a : Addr) (n : Nat) : Prop :=
 ∃ c e, H[a.block]? = some (.cells c e (0, 0)) /\ a.spot = none /\ a.off + n <= c.size

def stV (P : Program) (t : TypeId) (H : Heap) (a : Addr) (v : Value) (K : Heap -> Prop) : Prop :=
 match szT P t, v.cells.toList.all oneC with
 | some n, true => match Nat.beq n v.cells.size with
  | true => okRow H a n /\ K (wrs H a v.cells.toList)
  | false => False
 | _, _ => False

/-! ### the environment -/

def look (E : Env) (t : Nat) : Option Value :=
 match E with
 | [] => none
 | (i, v) :: r => match Nat.beq i t with
  | true => some v
  | false => look r t

def evE (E : Env) : Operand -> Value
 | .tmp t => (look E t).getD undef
 | .const v => v
 | .global g => .pointer (some ⟨g, 0, none⟩)
 | .func f => .func (.func f) #[] #[]

def knownX (E : Env) : Operand -> Bool
 | .tmp t => (look E t).isSome
 | _ => true

def knownL (E : Env) : List Operand -> Bool
 | [] => true
 | x :: xs => match knownX E x with
  | true => knownL E xs
  | false => false

def putE (N : Nat) (E : Env) (dst : Option Tmp) (v : Value) : Option Env :=
 match dst with
 | some d => match Nat.blt d N with
  | true => some ((d, v) :: E)
  | false => none
 | none => some E

/-! ### one operation -/

def callable (P : Program) (f : FuncId) : Bool :=
 match P.funcs[f]? with
 | some fn => fn.body.isSome && !(fn.name == "runtime.NumGoroutine")
 | none => false

def nextV (nx : Next) (K : Value -> Prop) : Prop :=
 match nx with
 | .value v => K v
 | _ => False

def slHi (d c : Nat) (hi : Option Value) (K : Nat -> Prop) : Prop :=
 match hi with
 | none => K d
 | some (.int _ x) => 0 <= x /\ x <= (c : Int) /\ K x.toNat
 | some _ => False

def slP (p : Option Addr) (m l s : Nat) : Option Addr := if m = l then p else p.map (·.add (l * s))

def slK (p : Option Addr) (n c s : Nat) (lo hi mx : Option Value) (K : Value -> Prop) : Prop :=
 match hi, mx with
 | none, some _ => False
 | _, _ => slHi c c mx (fun m => slHi n m hi (fun h => slHi 0 h lo (fun l => K (.slice (slP p m l s) (h - l) (m - l)))))

def idxK (P : Program) (e : TypeId) (cs : Array Value) (s : Nat) (k : Int) (K : Value -> Prop) : Nat -> Nat -> Prop
 | 0, _ => False
 | m + 1, j => iteB (k == (j : Int)) (valM P (part e cs (j * s)) K) (idxK P e cs s k K m (j + 1))

def partO (P : Program) (t : TypeId) (cs : Array Value) (off : Nat) : Option Value :=
 match aggT P t, szT P t with
 | some true, some n => some (.agg (cs.extract off (off + n)))
 | some false, _ => cs[off]?
 | _, _ => none

def eqFs (P : Program) (f : TypeId -> Value -> Value -> Option Bool) (xs ys : Array Value) : List Field -> Option Bool
 | [] => some true
 | fl :: r => match fl.name == "_", partO P fl.type xs fl.offset, partO P fl.type ys fl.offset with
  | false, some a, some b => match f fl.type a b, eqFs P f xs ys r with
   | some u, some v => some (u && v)
   | _, _ => none
  | _, _, _ => none

def eqW (P : Program) : Nat -> TypeId -> Value -> Value -> Option Bool
 | 0, _, _, _ => none
 | d + 1, t, x, y => match P.underlying t, x, y with
  | some .bool, .bool a, .bool b => some (a == b)
  | some (.int _), .int k a, .int k' b => if k = k' then some (a == b) else none
  | some .string, .string a, .string b => some (a == b)
  | some (.struct fs), .agg xs, .agg ys => match P.stoodInHeld t with
   | true => none
   | false => eqFs P (eqW P d) xs ys fs.toList
  | _, _, _ => none

def boolArr (P : Program) (t : TypeId) : Option Nat :=
 match P.underlying t with
 | some (.array n e) => match P.underlying e, szT P e with
  | some .bool, some 1 => some n
  | _, _ => none
 | _ => none

def boolsV (n : Nat) (f : Nat -> Bool) : List Value := (List.range n).map (fun i => Value.bool (f i))
def eqBools (n : Nat) (f g : Nat -> Bool) : Bool := (List.range n).all (fun i => f i == g i)

def eqK (P : Program) (t : TypeId) (x y : Value) (K : Bool -> Prop) (rest : Prop) : Prop :=
 match x, y with
 | .agg xs, .agg ys => match P.eqGuardType P.depth t with
  | true => False
  | false => match boolArr P t with
   | some n => ∃ f g : Nat -> Bool, xs = (boolsV n f).toArray /\ ys = (boolsV n g).toArray /\ K (eqBools n f g)
   | none => match eqW P 8 t (.agg xs) (.agg ys) with
    | some b => K b
    | none => False
 | _, _ => rest

def stepV (P : Program) (o : Oper) (ev : Operand -> Value) (H : Heap) (K : Value -> Prop) : Prop :=
 match o.op with
 | .load t x => match ev x with
  | .pointer (some a) => ldV P t H a K
  | _ => False
 | .nilCheck x => match ev x with
  | .pointer p => unSome p (fun a => K (.pointer (some a)))
  | _ => False
 | .pick c x y => match ev c with
  | .bool b => iteB b (K (ev x)) (K (ev y))
  | _ => False
 | .indexAddr t x i => match ev x, ev i, P.underlying t with
  | .slice p n _, .int _ k, some (.slice e) => match szT P e with
   | some s => 0 <= k /\ k < (n : Int) /\ unSome p (fun a => K (.pointer (some (a.add (k.toNat * s)))))
   | none => False
  | .pointer (some a), .int _ k, some (.array n e) => match szT P e with
   | some s => 0 <= k /\ k < (n : Int) /\ K (.pointer (some (a.add (k.toNat * s))))
   | none => False
  | _, _, _ => False
 | .index t x i => match ev x, ev i, P.underlying t with
  | .agg cs, .int _ k, some (.array n e) => match szT P e with
   | some s => 0 <= k /\ k < (n : Int) /\ idxK P e cs s k K n 0
   | none => False
  | .string b, .int _ k, some .string => 0 <= k /\ k < (b.size : Int) /\ K (.int .u8 (b[k.toNat]!.toNat))
  | _, _, _ => False
 | .slice t x lo hi mx => match ev x, P.underlying t with
  | .slice p n c, some (.slice e) => match szT P e with
   | some s => slK p n c s (lo.map ev) (hi.map ev) (mx.map ev) K
   | none => False
  | _, _ => False
 | .binOp .quo _ x (.const (.int k' b)) _ => match ev x with
  | .int k a => if k = k' then (match b == 0 with | true => False | false => K (.int k (k.wrap (a.tdiv b)))) else False
  | _ => False
 | .binOp .rem _ x (.const (.int k' b)) _ => match ev x with
  | .int k a => if k = k' then (match b == 0 with | true => False | false => K (.int k (a.tmod b))) else False
  | _ => False
 | .binOp .quo _ x y _ => match ev x, ev y with
  | .int k a, .int k' b => if k = k' then b ≠ 0 /\ K (.int k (k.wrap (a.tdiv b))) else False
  | _, _ => False
 | .binOp .rem _ x y _ => match ev x, ev y with
  | .int k a, .int k' b => if k = k' then b ≠ 0 /\ K (.int k (a.tmod b)) else False
  | _, _ => False
 | .binOp .shl _ x y _ => match ev x, ev y with
  | .int k a, .int _ b => 0 <= b /\ K (.int k (k.wrap (a * 2 ^ (min b.toNat k.bits))))
  | _, _ => False
 | .binOp .shr _ x y _ => match ev x, ev y with
  | .int k a, .int _ b => 0 <= b /\ K (.int k (a.fdiv (2 ^ (min b.toNat k.bits))))
  | _, _ => False
 | .binOp .eql t x (.const (.pointer none)) _ => match ev x, P.underlying t with
  | .pointer p, some (.pointer _) => K (.bool p.isNone)
  | _, _ => False
 | .binOp .neq t x (.const (.pointer none)) _ => match ev x, P.underlying t with
  | .pointer p, some (.pointer _) => K (.bool (!p.isNone))
  | _, _ => False
 | .binOp .eql t x (.const (.slice none _ _)) _ => match ev x, P.underlying t with
  | .slice p _ _, some (.slice _) => K (.bool p.isNone)
  | _, _ => False
 | .binOp .neq t x (.const (.slice none _ _)) _ => match ev x, P.underlying t with
  | .slice p _ _, some (.slice _) => K (.bool (!p.isNone))
  | _, _ => False
 | .binOp .eql t x y _ => eqK P t (ev x) (ev y) (fun b => K (.bool b)) (valM P (execOp ev o) (fun
  | .value v => K v
  | _ => False))
 | .binOp .neq t x y _ => eqK P t (ev x) (ev y) (fun b => K (.bool (!b))) (valM P (execOp ev o) (fun
  | .value v => K v
  | _ => False))
 | _ => valM P (execOp ev o) (fun
  | .value v => K v
  | _ => False)

def zeroRow (z : Value) (n : Nat) : Array Value := (Array.range (n * z.cells.size)).map (fun i => z.cells[i % z.cells.size]!)

def mkK (P : Program) (e : TypeId) (l c : Int) (H : Heap) (K : Value -> Heap -> Prop) : Prop :=
 match P.info? e with
 | some i => match i.zero with
  | some z => match Nat.blt 0 i.bytes, Nat.beq z.cells.size i.size with
   | true, true => 0 <= l /\ l <= c /\ c * i.bytes <= 281474976710656 /\
     K (.slice (some ⟨H.size, 0, none⟩) l.toNat c.toNat) (H.push (.cells (zeroRow z c.toNat) e (0, 0)))
   | _, _ => False
  | none => False
 | none => False

def stepH (P : Program) (o : Oper) (ev : Operand -> Value) (H : Heap) (K : Value -> Heap -> Prop) : Prop :=
 match o.op with
 | .call ⟨.value f, args, _⟩ => match ev f with
  | .func (.func f) first caps => match callable P f with
   | true => CallsH P f (first ++ args.map ev ++ caps) H (fun v H' => castT P o.type v (fun v => K v H'))
   | false => runH P (callFunc f (first ++ args.map ev ++ caps)) H (fun nx H' => nextV nx (fun v => castT P o.type v (fun v => K v H')))
  | _ => False
 | .call ⟨.builtin .append, args, ats⟩ => runH P (Builtin.append_ ats o.type (args.map ev)) H (fun v H' => castT P o.type v (fun v => K v H'))
 | .call ⟨.builtin .clear, args, ats⟩ => runH P (Builtin.clear_ ats o.type (args.map ev)) H (fun v H' => castT P o.type v (fun v => K v H'))
 | .call ⟨.builtin .copy, args, ats⟩ => runH P (Builtin.copy_ ats o.type (args.map ev)) H (fun v H' => castT P o.type v (fun v => K v H'))
 | .store t x y => match ev x with
  | .pointer (some a) => stV P t H a (ev y) (fun H' => K undef H')
  | _ => False
 | .lookup t x y ok => runH P (Instr.lookup t (ev x) (ev y) ok) H (fun v H' => castT P o.type v (fun v => K v H'))
 | .mapUpdate t x y z => runH P (Instr.mapUpdate t (ev x) (ev y) (ev z)) H (fun _ H' => K undef H')
 | .makeMap _ none => wpM P (execOp ev o) H (fun nx H' => match nx with | .value v => K v H' | _ => False)
 | .makeSlice t l c => match P.underlying t, ev l, ev c with
  | some (.slice e), .int _ l, .int _ c => mkK P e l c H K
  | _, _, _ => False
 | .alloc _ => wpM P (execOp ev o) H (fun nx H' => match nx with | .value v => K v H' | _ => False)
 | .box _ _ => wpM P (execOp ev o) H (fun nx H' => match nx with | .value v => K v H' | _ => False)
 | .buildSlice _ _ _ => wpM P (execOp ev o) H (fun nx H' => match nx with | .value v => K v H' | _ => False)
 | _ => stepV P o ev H (fun v => K v H)

def guardK (ops : Array Oper) (o : Oper) (E : Env) (go skip : Env -> Prop) : Prop :=
 match o.guard with
 | none => go E
 | some (j, want) => match (ops[j]?).bind (·.dst) with
  | none => False
  | some t => match look E t with
   | none => False
   | some (.bool b) => iteB b
     (match want with | true => go ((t, .bool true) :: E) | false => skip ((t, .bool true) :: E))
     (match want with | true => skip ((t, .bool false) :: E) | false => go ((t, .bool false) :: E))
   | some (.tuple _) => skip E
   | some _ => False

def noSel : Op -> Bool
 | .select _ _ => false
 | _ => true

def opsH (P : Program) (N : Nat) (ops : Array Oper) : List Oper -> Env -> Heap -> (Env -> Heap -> Prop) -> Prop
 | [], E, H, K => K E H
 | o :: rest, E, H, K => guardK ops o E
   (fun E => match knownL E o.op.operands.toList, noSel o.op with
    | true, true => stepH P o (evE E) H (fun v H' => match putE N E o.dst v with
     | some E' => opsH P N ops rest E' H' K
     | none => False)
    | _, _ => False)
   (fun E => match putE N E o.dst undef with
    | some E' => opsH P N ops rest E' H K
    | none => False)

/-! ### a region that draws its order
 Operations that leave memory alone ('light') are taken as soon as they may be; the others ('heavy') in whatever order the edges allow. -/

def memN (n : Nat) : List Nat -> Bool
 | [] => false
 | m :: r => match Nat.beq m n with
  | true => true
  | false => memN n r

def edgeBits (n T : Nat) : List Edge -> Nat
 | [] => 0
 | e :: r => match Region.binds .any e with
  | true => Nat.lor (Nat.lor (Nat.pow 2 e.on) (Nat.land (Nat.shiftRight T (Nat.mul e.on n)) (Nat.sub (Nat.pow 2 n) 1))) (edgeBits n T r)
  | false => edgeBits n T r

def tabBits (n : Nat) : Nat -> List Oper -> Nat -> Nat
 | _, [], T => T
 | i, o :: r, T => tabBits n (Nat.succ i) r (Nat.lor T (Nat.shiftLeft (edgeBits n T o.after.toList) (Nat.mul i n)))

def before (n T i : Nat) : Nat := Nat.land (Nat.shiftRight T (Nat.mul i n)) (Nat.sub (Nat.pow 2 n) 1)

def edgesBack (i : Nat) : List Edge -> Bool
 | [] => true
 | e :: r => match Region.binds .any e, Nat.blt e.on i with
  | true, false => false
  | _, _ => edgesBack i r

def byEdge (n T k : Nat) : List Edge -> Bool
 | [] => false
 | e :: r => match Region.binds .any e, Nat.beq e.on k, Nat.testBit (before n T e.on) k with
  | true, true, _ => true
  | true, _, true => true
  | _, _, _ => byEdge n T k r

def rowOk (n T i : Nat) (es : List Edge) : Nat -> Bool
 | 0 => true
 | k + 1 => match Nat.testBit (before n T i) k with
  | true => match byEdge n T k es with
   | true => rowOk n T i es k
   | false => false
  | false => rowOk n T i es k

def tabOk (n T : Nat) : Nat -> List Oper -> Bool
 | _, [] => true
 | i, o :: r => match edgesBack i o.after.toList, rowOk n T i o.after.toList n with
  | true, true => tabOk n T (Nat.succ i) r
  | _, _ => false

def tmpsOf : List Operand -> List Nat
 | [] => []
 | .tmp t :: r => t :: tmpsOf r
 | _ :: r => tmpsOf r

def readsOf (ops : Array Oper) (o : Oper) : List Nat :=
 tmpsOf o.op.operands.toList ++
 (match o.guard with | some (j, _) => (match (ops[j]?).bind (·.dst) with | some d => [d] | none => []) | none => [])

def namesOf (ops : Array Oper) (o : Oper) : List Nat :=
 (match o.dst with | some d => [d] | none => []) ++ readsOf ops o

def lightOp (pf : List Nat) : Op -> Bool
 | .move _ | .assign _ | .pick _ _ _ | .load _ _ | .nilCheck _ | .binOp _ _ _ _ _ | .unOp _ _ _ | .convert _ _ _ | .fieldAddr _ _ _ | .field _ _ _
 | .indexAddr _ _ _ | .index _ _ _ | .extract _ _ | .build _ _ | .slice _ _ _ _ _ | .makeFunc _ _ _ => true
 | .call ⟨.builtin b, _, _⟩ => match b with | .len | .cap | .min | .max => true | _ => false
 | .call ⟨.value (.func f), _, _⟩ => memN f pf
 | _ => false

def KeepR (H H' : Heap) (a : Addr) (n : Nat) : Prop := ∀ j v, (j < n \/ j = 0) -> rd H (a.add j) = some v -> rd H' (a.add j) = some v
def Keeps (H H' : Heap) (l : List (Addr × Nat)) : Prop := ∀ p, p ∈ l -> KeepR H H' p.1 p.2

def loadAt (P : Program) (E : Env) : Op -> Option (Addr × Nat)
 | .load t x => match evE E x, szT P t with
  | .pointer (some a), some n => some (a, n)
  | _, _ => none
 | _ => none

def isLoad : Op -> Bool
 | .load _ _ => true
 | _ => false

def behind (ops : Array Oper) (n T j d : Nat) : Nat -> List Oper -> Bool
 | _, [] => true
 | k, o :: r => match Nat.beq k j, memN d (namesOf ops o) with
  | false, true => match Nat.testBit (before n T k) j with
   | true => behind ops n T j d (Nat.succ k) r
   | false => false
  | _, _ => behind ops n T j d (Nat.succ k) r

def aside (ops : Array Oper) (n T j d : Nat) : Nat -> List Oper -> Bool
 | _, [] => true
 | k, o :: r => match Nat.beq k j, memN d (namesOf ops o) with
  | false, true => match Nat.testBit (before n T k) j, Nat.testBit (before n T j) k with
   | false, false => false
   | _, _ => aside ops n T j d (Nat.succ k) r
  | _, _ => aside ops n T j d (Nat.succ k) r

def lightBits (ops : Array Oper) (pf : List Nat) (n T : Nat) : Nat -> List Oper -> Nat
 | _, [] => 0
 | j, o :: r => match o.dst, lightOp pf o.op with
  | some d, true => match behind ops n T j d 0 ops.toList && !memN d (readsOf ops o) with
   | true => Nat.lor (Nat.pow 2 j) (lightBits ops pf n T (Nat.succ j) r)
   | false => lightBits ops pf n T (Nat.succ j) r
  | _, _ => lightBits ops pf n T (Nat.succ j) r

def heavyOk (ops : Array Oper) (n T lt : Nat) : Nat -> List Oper -> Bool
 | _, [] => true
 | j, o :: r => match Nat.testBit lt j, o.dst with
  | false, some d => match aside ops n T j d 0 ops.toList with
   | true => heavyOk ops n T lt (Nat.succ j) r
   | false => false
  | _, _ => heavyOk ops n T lt (Nat.succ j) r

def stepL (P : Program) (o : Oper) (ev : Operand -> Value) (H : Heap) (K : Value -> Prop) : Prop :=
 match o.op with
 | .call ⟨.value (.func f), args, _⟩ => match callable P f with
  | true => CallsP P f (args.map ev) (fun v => castT P o.type v K)
  | false => False
 | _ => stepV P o ev H K

def ready (n T D i : Nat) : Bool := Nat.beq (Nat.land (before n T i) D) (before n T i)

def eagerH (P : Program) (N : Nat) (ops : Array Oper) (n T lt : Nat) (H : Heap) : Nat -> List Oper -> Nat -> Env -> (Nat -> Env -> Prop) -> Prop
 | _, [], D, E, K => K D E
 | i, o :: r, D, E, K => match Nat.testBit D i, Nat.testBit lt i, ready n T D i with
  | false, true, true => guardK ops o E
    (fun E => match knownL E o.op.operands.toList, noSel o.op with
     | true, true => stepL P o (evE E) H (fun v => match putE N E o.dst v with
      | some E' => eagerH P N ops n T lt H (Nat.succ i) r (Nat.lor D (Nat.pow 2 i)) E' K
      | none => False)
     | _, _ => False)
    (fun E => match putE N E o.dst undef with
     | some E' => eagerH P N ops n T lt H (Nat.succ i) r (Nat.lor D (Nat.pow 2 i)) E' K
     | none => False)
  | _, _, _ => eagerH P N ops n T lt H (Nat.succ i) r D E K

def readyHeavy (n T lt D : Nat) : Nat -> List Oper -> List Nat
 | _, [] => []
 | i, _ :: r => match Nat.testBit D i, Nat.testBit lt i, ready n T D i with
  | false, false, true => i :: readyHeavy n T lt D (Nat.succ i) r
  | _, _, _ => readyHeavy n T lt D (Nat.succ i) r

def openLs (P : Program) (n T D i : Nat) (E : Env) : Nat -> List Oper -> List (Addr × Nat)
 | _, [] => []
 | k, o :: r => match isLoad o.op, Nat.testBit D k, Nat.testBit (before n T i) k with
  | true, true, false => match loadAt P E o.op with
   | some p => p :: openLs P n T D i E (Nat.succ k) r
   | none => openLs P n T D i E (Nat.succ k) r
  | _, _, _ => openLs P n T D i E (Nat.succ k) r

def conjL : List Nat -> (Nat -> Prop) -> Prop
 | [], _ => True
 | i :: r, F => match r with
  | [] => F i
  | _ :: _ => F i /\ conjL r F

def keepIf (l : List (Addr × Nat)) (H H' : Heap) (A : Prop) : Prop :=
 match l with
 | [] => A
 | _ :: _ => Keeps H H' l /\ A

def choiceH (P : Program) (N : Nat) (ops : Array Oper) (n T lt : Nat) (rec : Nat -> Env -> Heap -> Prop) (H : Heap) (K : Env -> Heap -> Prop) (D : Nat) (E : Env) : Prop :=
 match readyHeavy n T lt D 0 ops.toList with
 | [] => match Nat.beq D (Nat.sub (Nat.pow 2 n) 1) with
  | true => K E H
  | false => False
 | l => conjL l (fun i => match ops[i]? with
  | none => False
  | some o => guardK ops o E
    (fun E => match knownL E o.op.operands.toList, noSel o.op with
     | true, true => stepH P o (evE E) H (fun v H' => match putE N E o.dst v with
      | some E' => keepIf (openLs P n T D i E 0 ops.toList) H H' (rec (Nat.lor D (Nat.pow 2 i)) E' H')
      | none => False)
     | _, _ => False)
    (fun E => match putE N E o.dst undef with
     | some E' => rec (Nat.lor D (Nat.pow 2 i)) E' H
     | none => False))

def drawH (P : Program) (N : Nat) (ops : Array Oper) (n T lt : Nat) (K : Env -> Heap -> Prop) : Nat -> Nat -> Env -> Heap -> Prop
 | 0, _, _, _ => False
 | f + 1, D, E, H => eagerH P N ops n T lt H 0 ops.toList D E (choiceH P N ops n T lt (drawH P N ops n T lt K f) H K)

def drawR (P : Program) (N : Nat) (pf : List Nat) (ops : Array Oper) (E : Env) (H : Heap) (K : Env -> Heap -> Prop) : Prop :=
 match tabOk ops.size (tabBits ops.size 0 ops.toList 0) 0 ops.toList &&
   heavyOk ops ops.size (tabBits ops.size 0 ops.toList 0) (lightBits ops pf ops.size (tabBits ops.size 0 ops.toList 0) 0 ops.toList) 0 ops.toList with
 | true => drawH P N ops ops.size (tabBits ops.size 0 ops.toList 0) (lightBits ops pf ops.size (tabBits ops.size 0 ops.toList 0) 0 ops.toList) K (Nat.succ ops.size) 0 E H
 | false => False

/-! ### code -/

def firstR : Code -> Option Nat
 | .region id _ _ => some id
 | .seq a b => match firstR a with
  | some n => some n
  | none => firstR b
 | .cond _ a _ => firstR a
 | .block _ a => firstR a
 | .loop a => firstR a
 | _ => none

abbrev Notes := List (Nat × List Nat × List Nat)

def noteOf (l : Notes) (k : Option Nat) : Option (List Nat × List Nat) :=
 match k with
 | none => none
 | some k => match l with
  | [] => none
  | (i, x) :: r => match Nat.beq i k with
   | true => some x
   | false => noteOf r (some k)

def dstsL : List Oper -> List Nat
 | [] => []
 | o :: r => match o.dst with
  | some d => d :: dstsL r
  | none => dstsL r

def dsts : Code -> List Nat
 | .region _ ops _ => dstsL ops.toList
 | .seq a b => dsts a ++ dsts b
 | .cond _ a b => dsts a ++ dsts b
 | .block _ a => dsts a
 | .loop a => dsts a
 | _ => []

def plainC : Code -> Bool
 | .region _ _ _ => true
 | .seq a b => plainC a && plainC b
 | .cond _ a b => plainC a && plainC b
 | .block _ a => plainC a
 | .loop a => plainC a
 | .skip => true
 | .exit _ => true
 | .ret => true
 | _ => false

def apartN : List Nat -> List Nat -> Bool
 | [], _ => true
 | n :: r, l => match memN n l with
  | true => false
  | false => apartN r l

def keepE (E : Env) : List Nat -> Option Env
 | [] => some []
 | t :: ts => match look E t, keepE E ts with
  | some v, some E' => some ((t, v) :: E')
  | _, _ => none

def valsE (E : Env) : List Nat -> Option (List Value)
 | [] => some []
 | t :: ts => match look E t, valsE E ts with
  | some v, some vs => some (v :: vs)
  | _, _ => none

def bindE : List Nat -> List Value -> Env
 | t :: ts, v :: vs => (t, v) :: bindE ts vs
 | _, _ => []

abbrev KK := Exit -> Env -> Heap -> Prop

def fitF : List Value -> List Value -> Bool
 | [], [] => true
 | .agg cs :: zs, .agg ds :: vs => match Nat.beq cs.size ds.size with
  | true => fitF zs vs
  | false => false
 | .agg _ :: _, _ => false
 | _ :: zs, v :: vs => match oneC v with
  | true => fitF zs vs
  | false => false
 | _, _ => false

def joinK (zs : List Value) (mods : List Nat) (Ek : Env) (first : (Env -> Heap -> Prop) -> Prop) (second : Env -> Heap -> Prop) : Prop :=
 ∃ J : CurL (flatV zs) (Heap -> Prop),
  first (fun E H => match valsE E mods with
   | some vs => match fitF zs vs with
    | true => appV (flatV zs) J (flatV vs) (fun j => j H)
    | false => False
   | none => False) /\
  allV (flatV zs) (fun vs => ∀ H : Heap, appV (flatV zs) J vs (fun j => j H) -> second (bindE mods (regroup zs vs) ++ Ek) H)

def loopK (zs : List Value) (mods : List Nat) (Ek : Env) (start : List Value) (H0 : Heap) (round : Env -> Heap -> (Env -> Heap -> Prop) -> Prop) : Prop :=
 ∃ I : CurL (flatV zs) (Heap -> Prop), ∃ μ : CurL (flatV zs) (Heap -> Nat),
  (match fitF zs start with
   | true => appV (flatV zs) I (flatV start) (fun j => j H0)
   | false => False) /\
  allV (flatV zs) (fun vs => ∀ H : Heap, appV (flatV zs) I vs (fun j => j H) ->
   round (bindE mods (regroup zs vs) ++ Ek) H (fun E' H' => match valsE E' mods with
    | some vs' => match fitF zs vs' with
     | true => appV (flatV zs) I (flatV vs') (fun j => j H') /\
       appV (flatV zs) μ (flatV vs') (fun m' => appV (flatV zs) μ vs (fun m => m' H' < m H))
     | false => False
    | none => False))

def wpS (P : Program) (N : Nat) (zt : List (Nat × Value)) (jn lp : Notes) (pf : List Nat) : Code -> Env -> Heap -> KK -> Prop
 | .skip, E, H, K => K .normal E H
 | .region _ ops draw, E, H, K => match draw with
  | false => opsH P N ops ops.toList E H (fun E' H' => K .normal E' H')
  | true => match P.follows .mixedOrders with
   | true => drawR P N pf ops E H (fun E' H' => K .normal E' H')
   | false => False
 | .seq a b, E, H, K => match noteOf jn (firstR b) with
  | none => wpS P N zt jn lp pf a E H (fun e E' H' => match e with
   | .normal => wpS P N zt jn lp pf b E' H' K
   | e => K e E' H')
  | some (mods, keeps) => match keepE E keeps, apartN keeps (dsts a), plainC a, valsE zt mods with
   | some Ek, true, true, some zs => joinK zs mods Ek
     (fun k => wpS P N zt jn lp pf a E H (fun e E' H' => match e with
      | .normal => k E' H'
      | e => K e E' H'))
     (fun E' H' => wpS P N zt jn lp pf b E' H' K)
   | _, _, _, _ => False
 | .cond c x y, E, H, K => match c with
  | .tmp t => match look E t with
   | some (.bool b) => iteB b (wpS P N zt jn lp pf x ((t, .bool true) :: E) H K) (wpS P N zt jn lp pf y ((t, .bool false) :: E) H K)
   | _ => False
  | .const (.bool b) => match b with
   | true => wpS P N zt jn lp pf x E H K
   | false => wpS P N zt jn lp pf y E H K
  | _ => False
 | .block id c, E, H, K => wpS P N zt jn lp pf c E H (fun e E' H' => match e with
  | .exit i => match Nat.beq i id with
   | true => K .normal E' H'
   | false => K (.exit i) E' H'
  | e => K e E' H')
 | .loop c, E, H, K => match noteOf lp (firstR c) with
  | none => False
  | some (mods, keeps) => match keepE E keeps, apartN keeps (dsts c), plainC c, valsE E mods, valsE zt mods with
   | some Ek, true, true, some start, some zs => loopK zs mods Ek start H
     (fun E' H' next => wpS P N zt jn lp pf c E' H' (fun e E'' H'' => match e with
      | .normal => next E'' H''
      | e => K e E'' H''))
   | _, _, _, _, _ => False
 | .exit id, E, H, K => K (.exit id) E H
 | .ret, E, H, K => K .ret E H
 | _, _, _, _ => False

def resK (P : Program) (E : Env) (H : Heap) : List ResultVar -> (List Value -> Prop) -> Prop
 | [], K => K []
 | .tmp t :: r, K => match look E t with
  | some v => resK P E H r (fun vs => K (v :: vs))
  | none => False
 | .cell a t :: r, K => match look E a with
  | some (.pointer (some ad)) => ldV P t H ad (fun v => resK P E H r (fun vs => K (v :: vs)))
  | _ => False

def tupV : List Value -> Value
 | [v] => v
 | vs => .tuple vs.toArray

def argE : Nat -> List Value -> Env
 | _, [] => []
 | i, v :: vs => (i, v) :: argE (i + 1) vs

def wpF (P : Program) (fn : Func) (zt : List (Nat × Value)) (jn lp : Notes) (pf : List Nat) (args : List Value) (H : Heap) (R : Value -> Heap -> Prop) : Prop :=
 match fn.body, Nat.ble args.length fn.ntmps with
 | some c, true => wpS P fn.ntmps zt jn lp pf c (argE 0 args) H (fun e E' H' => match e with
  | .normal => resK P E' H' fn.results.toList (fun vs => R (tupV vs) H')
  | .ret => resK P E' H' fn.results.toList (fun vs => R (tupV vs) H')
  | _ => False)
 | _, _ => False

end Go.Eng
