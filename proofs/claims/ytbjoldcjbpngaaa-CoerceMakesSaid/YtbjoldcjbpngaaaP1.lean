/-
  Part 1 of a proof: CoerceMakes: for every input the law returns true, and what it was given reads behind the call as before. No conditions.
-/
import Derived.Calls
import Derived.Laws.Sem
import Derived.Laws.World
namespace Go.Ev
theorem nrm.{u} : (∀ {α : Type u} (a b : α) (l : List α), (a :: l).set 0 b = b :: l) ∧ (∀ {α : Type u} (a : α) (l : List α) (n : Nat) (b : α), (a :: l).set (n + 1) b = a :: l.set n b) ∧ (∀ {α : Type u} (l : List α), [] ++ l = l) ∧ (∀ {α : Type u} (a : α) (l m : List α), (a :: l) ++ m = a :: (l ++ m)) ∧ (∀ {α : Type u} (a : α) (l : List α), (a :: l).length = l.length + 1) ∧ (∀ {α : Type u}, ([] : List α).length = 0) ∧ (∀ n : Nat, 0 + n = n) ∧ (∀ n : Nat, n + 0 = n) ∧ (∀ {α : Type u} (a : α) (l : List α) (n : Nat), (a :: l).take (n + 1) = a :: l.take n) ∧ (∀ {α : Type u} (l : List α), l.take 0 = []) ∧ (∀ {α : Type u} (n : Nat), ([] : List α).take n = []) ∧ (∀ {α : Type u} (a : α) (l : List α) (n : Nat), (a :: l).drop (n + 1) = l.drop n) ∧ (∀ {α : Type u} (l : List α), l.drop 0 = l) ∧ (∀ {α : Type u} (n : Nat), ([] : List α).drop n = []) ∧ (∀ {α : Type u} (a : α) (n : Nat), List.replicate (n + 1) a = a :: List.replicate n a) ∧ (∀ {α : Type u} (a : α), List.replicate 0 a = []) := by
  refine ⟨?_, ?_, ?_, ?_, ?_, ?_, ?_, ?_, ?_, ?_, ?_, ?_, ?_, ?_, ?_, ?_⟩ <;> intros <;> simp [List.replicate_succ]
open Go
inductive AVal where
  | int (k : IntKind) (n : Int)
  | bool (b : Bool)
  | str (s : List UInt8)
  | nilp
  | nili
  | nilf
  | nilm
  | iface (t : TypeId) (v : AVal)
  | agg (cs : List AVal)
  | tup (vs : List AVal)
  | lst (xs : List AVal) (e : Bool)
  | gl (o len : Nat)
  | lptr (o l a : Nat)
  | sl (b off len cap : Nat) (w : Option Nat)
  | ptr (b off : Nat)
  | ro (cs : List AVal)
  | fn (f : FuncId) (caps : List AVal)
  | map (b : Nat)
  | emp (n : Bool)      -- an empty slice of which it is known whether it is nil
  deriving Inhabited
inductive ABlock where
  | hole
  | dead
  | cells (vs : List AVal)
  | grow (es : Nat) (xs : List AVal) (open_ : Option Nat)
  | mp (es : List (AVal × AVal))
  deriving Inhabited
abbrev Heap := List ABlock
abbrev Env := List (Nat × AVal)
def undefA : AVal := .tup []
def Env.get : Env → Nat → Option AVal
  | [], _ => none
  | (k, v) :: r, t => if k = t then some v else Env.get r t
def Env.put (e : Env) (d : Option Nat) (v : AVal) : Env :=
  match d with
  | some d => (d, v) :: e
  | none => e
def AVal.flat : AVal → List AVal
  | .agg cs => cs
  | v => [v]
def flatL : List AVal → List AVal
  | [] => []
  | x :: xs => x.flat ++ flatL xs
def AVal.width (v : AVal) : Nat := v.flat.length
def AVal.solid : AVal → Bool
  | .tup _ => false
  | _ => true
def growAt (H : Heap) (o len : Nat) : Option AVal :=
  match H[o]? with
  | some (.grow _ xs none) => if xs.length = len then some (.lst xs false) else none
  | _ => none
mutual
def shutV (H : Heap) : AVal → Option AVal
  | .int k n => some (.int k n)
  | .bool b => some (.bool b)
  | .str s => some (.str s)
  | .nilp => some .nilp
  | .nili => some .nili
  | .nilf => some .nilf
  | .nilm => some .nilm
  | .ro cs => some (.ro cs)
  | .lst xs _ => some (.lst xs false)
  | .emp _ => some (.lst [] false)
  | .gl o len => growAt H o len
  | .agg cs => match shutL H cs with
    | some cs' => some (.agg cs')
    | none => none
  | .tup vs => match shutL H vs with
    | some vs' => some (.tup vs')
    | none => none
  | .iface t v => match shutV H v with
    | some v' => some (.iface t v')
    | none => none
  | .fn f caps => match shutL H caps with
    | some caps' => some (.fn f caps')
    | none => none
  | .sl _ _ _ _ _ => none
  | .ptr _ _ => none
  | .map _ => none
  | .lptr _ _ _ => none
def shutL (H : Heap) : List AVal → Option (List AVal)
  | [] => some []
  | v :: vs => match shutV H v with
    | some a => match shutL H vs with
      | some b => some (a :: b)
      | none => none
    | none => none
end
def group (w : Option Nat) : (n : Nat) → List AVal → List AVal
  | 0, _ => []
  | n + 1, cs => match w with
    | none => (cs.take 1) ++ group w n (cs.drop 1)
    | some k => .agg (cs.take k) :: group w n (cs.drop k)
def wide (w : Option Nat) : Nat := w.getD 1
def sliceElems (H : Heap) (b off len : Nat) (w : Option Nat) : Option (List AVal) :=
  match H[b]? with
  | some (.cells vs) => if off + len * wide w ≤ vs.length then shutL H (group w len (vs.drop off)) else none
  | _ => none
mutual
def shutR (H : Heap) : AVal → Option AVal
  | .int k n => some (.int k n)
  | .bool b => some (.bool b)
  | .str s => some (.str s)
  | .nilp => some .nilp
  | .nili => some .nili
  | .nilf => some .nilf
  | .nilm => some .nilm
  | .ro cs => some (.ro cs)
  | .lst xs _ => some (.lst xs false)
  | .emp _ => some (.lst [] false)
  | .gl o len => growAt H o len
  | .agg cs => match shutRL H cs with
    | some cs' => some (.agg cs')
    | none => none
  | .tup vs => match shutRL H vs with
    | some vs' => some (.tup vs')
    | none => none
  | .iface t v => match shutR H v with
    | some v' => some (.iface t v')
    | none => none
  | .fn f caps => match shutRL H caps with
    | some caps' => some (.fn f caps')
    | none => none
  | .sl b off len cap w => match sliceElems H b off len w with
    | some xs => if len ≤ cap ∧ xs.all (fun y => decide (y.width = wide w)) = true then some (.lst xs false) else none
    | none => none
  | .ptr _ _ => none
  | .map _ => none
  | .lptr _ _ _ => none
def shutRL (H : Heap) : List AVal → Option (List AVal)
  | [] => some []
  | v :: vs => match shutR H v with
    | some a => match shutRL H vs with
      | some b => some (a :: b)
      | none => none
    | none => none
end
mutual
def lowV (n : Nat) : AVal → Bool
  | .gl o _ => decide (o < n)
  | .lptr o _ _ => decide (o < n)
  | .sl b _ _ _ _ => decide (b < n)
  | .ptr b _ => decide (b < n)
  | .map b => decide (b < n)
  | .agg cs => lowL n cs
  | .tup vs => lowL n vs
  | .iface _ v => lowV n v
  | .fn _ caps => lowL n caps
  | .int _ _ => true
  | .bool _ => true
  | .str _ => true
  | .nilp => true
  | .nili => true
  | .nilf => true
  | .nilm => true
  | .lst _ _ => true
  | .ro _ => true
  | .emp _ => true
def lowL (n : Nat) : List AVal → Bool
  | [] => true
  | v :: vs => lowV n v && lowL n vs
end
def lowP (n : Nat) : List (AVal × AVal) → Bool
  | [] => true
  | (k, v) :: r => lowV n k && lowV n v && lowP n r
def lowB (n : Nat) : ABlock → Bool
  | .hole => true
  | .dead => true
  | .cells vs => lowL n vs
  | .grow _ _ _ => true
  | .mp es => lowP n es
def lowH (n : Nat) : Heap → Bool
  | [] => true
  | b :: r => lowB n b && lowH n r
def lowE (n : Nat) : Env → Bool
  | [] => true
  | (_, v) :: r => lowV n v && lowE n r
inductive AOpd where
  | t (n : Nat)
  | c (v : AVal)
  deriving Inhabited
inductive SK where
  | i
  | b
  | s
  deriving Inhabited, DecidableEq
inductive EqD where
  | bool
  | ints (ks : List SK)     -- arrays, structs of integers, bools and texts
  deriving Inhabited, DecidableEq
inductive NilK where
  | ptr
  | slice
  | map
  | fn
  | iface
  deriving Inhabited, DecidableEq
inductive LenK where
  | slice
  | str
  | map
  deriving Inhabited, DecidableEq
inductive AOp where
  | mv (x : AOpd)
  | pick (c a b : AOpd)
  | bin (op : BinOp) (x y : AOpd)
  | eqv (neg : Bool) (d : EqD) (x y : AOpd)
  | isnil (k : NilK) (neg : Bool) (x : AOpd)
  | un (op : UnOp) (x : AOpd)
  | cvi (k : IntKind) (x : AOpd)
  | cvs (x : AOpd)
  | mki (t : TypeId) (x : AOpd)
  | mkf (f : FuncId) (caps : List AOpd)
  | fld (off : Nat) (sz : Option Nat) (x : AOpd)
  | ixs (x i : AOpd)
  | ixa (len es : Nat) (sz : Option Nat) (x i : AOpd)
  | fa (off : Nat) (x : AOpd)
  | nc (x : AOpd)
  | iaa (len es : Nat) (x i : AOpd)
  | ext (i : Nat) (x : AOpd)
  | build (zs : List AVal) (parts : List (Nat × Nat × AOpd))
  | mm (isMax : Bool) (x y : AOpd)
  | slcs (x : AOpd) (lo hi : Option AOpd)
  | alloc (zs : List AVal)
  | box (x : AOpd)
  | mks (es bytes : Nat) (w : Option Nat) (zs : List AVal) (l c : AOpd)
  | mkm
  | ia (es : Nat) (x i : AOpd)
  | bsl (es : Nat) (z : AVal) (len : Nat) (parts : List (Nat × AOpd))
  | lds (x : AOpd)
  | lda (n : Nat) (x : AOpd)
  | sts (x v : AOpd)
  | sta (n : Nat) (x v : AOpd)
  | stk (n : Nat) (x v : AOpd)   -- as 'sta' and 'sts', and the list stays open
  | slc (es : Nat) (x : AOpd) (lo hi mx : Option AOpd)
  | slca (len es : Nat) (w : Option Nat) (x : AOpd) (lo hi mx : Option AOpd)
  | len (k : LenK) (x : AOpd)
  | cap (x : AOpd)
  | app (es bytes : Nat) (opn : Bool) (s x : AOpd)
  | appz (es bytes : Nat) (z : AVal) (s n : AOpd)
  | copy (es : Nat) (d s : AOpd)
  | clear (es : Nat) (zs : List AVal) (x : AOpd)
  | call (raw : Bool) (f : FuncId) (args : List AOpd)
  | callv (raw : Bool) (x : AOpd) (args : List AOpd)
  | look (ks ok : Bool) (z : AVal) (m k : AOpd)
  | upd (ks : Bool) (m k v : AOpd)
  | panic (x : AOpd)
  deriving Inhabited
structure AOper where
  dst : Option Nat
  op : AOp
  guard : Option (Nat × Bool)
  deriving Inhabited
inductive ACode where
  | skip
  | reg (l : List AOper)
  | draw (m : Nat) (l : List (AOper × Nat × List Nat))   -- each with the place kept for its block, and those before it that it waits for
  | seq (a b : ACode)
  | cond (c : AOpd) (a b : ACode)
  | block (id : Nat) (a : ACode)
  | loop (keep : List Nat) (a : ACode)
  | exit (id : Nat)
  | ret
  | prune (keep : List Nat)   -- nothing is done: the other places are not read any more
  | own (t : Nat) (off : Option Nat)   -- nothing is done: an empty slice of a variable is from here on one that may be appended to
  | shutl (t : Nat) (off : Option Nat)   -- nothing is done: a variable's list, still open, is not written any more
  | fork (t : Nat) (keep : List Nat) (a : ACode)   -- the code, where it does not matter whether an empty slice is nil
  | stmt (keep : List Nat) (frz : List (Nat × Option Nat)) (a : ACode)   -- a statement; behind it the other places are not read any more, some lists are not appended to any more, and the heap is cut back
  deriving Inhabited
inductive ARes where
  | t (n : Nat)
  | cs (n : Nat)
  | ca (n k : Nat)
  deriving Inhabited
structure AFunc where
  body : ACode
  results : List ARes
  deriving Inhabited
inductive Ex where
  | ok (v : AVal)
  | pan (v : AVal)
  deriving Inhabited
inductive AEx where
  | norm
  | exit (id : Nat)
  | ret
  | pan (v : AVal)
  deriving Inhabited
structure Ctx where
  call : FuncId → List AVal → Heap → Option (Ex × Heap)
  fuel : Nat
def AOpd.ev (e : Env) : AOpd → Option AVal
  | .t n => e.get n
  | .c v => some v
def evs (e : Env) : List AOpd → Option (List AVal)
  | [] => some []
  | x :: xs => match x.ev e with
    | some v => match evs e xs with
      | some vs => some (v :: vs)
      | none => none
    | none => none
def bitsA (k : IntKind) (r : BitVec k.bits) : Option AVal := some (.int k (k.wrap r.toNat))
def binInt (op : BinOp) (k : IntKind) (a b : Int) : Option AVal :=
  match op with
  | .add => some (.int k (k.wrap (a + b)))
  | .sub => some (.int k (k.wrap (a - b)))
  | .mul => some (.int k (k.wrap (a * b)))
  | .quo => if b = 0 then none else some (.int k (k.wrap (a.tdiv b)))
  | .rem => if b = 0 then none else some (.int k (a.tmod b))
  | .and => bitsA k (BitVec.ofInt k.bits a &&& BitVec.ofInt k.bits b)
  | .or => bitsA k (BitVec.ofInt k.bits a ||| BitVec.ofInt k.bits b)
  | .xor => bitsA k (BitVec.ofInt k.bits a ^^^ BitVec.ofInt k.bits b)
  | .andNot => bitsA k (BitVec.ofInt k.bits a &&& ~~~ BitVec.ofInt k.bits b)
  | .eql => some (.bool (decide (a = b)))
  | .neq => some (.bool (!decide (a = b)))
  | .lss => some (.bool (decide (a < b)))
  | .leq => some (.bool (decide (a ≤ b)))
  | .gtr => some (.bool (decide (b < a)))
  | .geq => some (.bool (decide (b ≤ a)))
  | .shl | .shr => none
def shiftA (op : BinOp) (k : IntKind) (a b : Int) : Option AVal :=
  if b < 0 then none else
  match op with
  | .shl => some (.int k (k.wrap (a * 2 ^ (min b.toNat k.bits))))
  | .shr => some (.int k (a.fdiv (2 ^ (min b.toNat k.bits))))
  | _ => none
def binStr (op : BinOp) (a b : List UInt8) : Option AVal :=
  match op with
  | .add => if a.length + b.length ≤ 4611686018427387904 then some (.str (a ++ b)) else none
  | .eql => some (.bool (a == b))
  | .neq => some (.bool (!(a == b)))
  | .lss => some (.bool (Op.bytesLess a b))
  | .leq => some (.bool (Op.bytesLess a b || a == b))
  | .gtr => some (.bool (!(Op.bytesLess a b || a == b)))
  | .geq => some (.bool (!Op.bytesLess a b))
  | _ => none
def binA (op : BinOp) (x y : AVal) : Option AVal :=
  match x, y with
  | .int k a, .int k' b => match op with
    | .shl => shiftA .shl k a b
    | .shr => shiftA .shr k a b
    | op => if k = k' then binInt op k a b else none
  | .str a, .str b => binStr op a b
  | _, _ => none
def isNil : NilK → AVal → Option Bool
  | .ptr, .nilp => some true
  | .ptr, .ptr _ _ => some false
  | .ptr, .ro _ => some false
  | .fn, .nilf => some true
  | .fn, .fn _ _ => some false
  | .iface, .nili => some true
  | .iface, .iface _ _ => some false
  | .map, .nilm => some true
  | .map, .map _ => some false
  | .slice, .gl _ len => if 0 < len then some false else none
  | .slice, .emp b => some b
  | .slice, .lst (_ :: _) _ => some false
  | .slice, .sl _ _ _ _ _ => some false
  | _, _ => none
def eqOne : SK → AVal → AVal → Option Bool
  | .i, .int k a, .int k' b => if k = k' then some (decide (a = b)) else none
  | .b, .bool a, .bool b => some (a == b)
  | .s, .str a, .str b => some (a == b)
  | _, _, _ => none
def eqCells : List SK → List AVal → List AVal → Option Bool
  | [], [], [] => some true
  | q :: qs, x :: xs, y :: ys => match eqOne q x y, eqCells qs xs ys with
    | some a, some b => some (a && b)
    | _, _ => none
  | _, _, _ => none
def eqA (d : EqD) (x y : AVal) : Option Bool :=
  match d with
  | .bool => match x, y with
    | .bool a, .bool b => some (a == b)
    | _, _ => none
  | .ints ks => match x, y with
    | .agg a, .agg b => eqCells ks a b
    | _, _ => none
def unA (op : UnOp) (x : AVal) : Option AVal :=
  match op, x with
  | .neg, .int k n => some (.int k (k.wrap (0 - n)))
  | .not, .bool b => some (.bool !b)
  | _, _ => none
def part (off : Nat) (sz : Option Nat) (cs : List AVal) : Option AVal :=
  match sz with
  | none => cs[off]?
  | some n => if off + n ≤ cs.length then some (.agg ((cs.drop off).take n)) else none
def putCells {α : Type} (off : Nat) (new cs : List α) : List α := cs.take off ++ new ++ cs.drop (off + new.length)
def buildA (e : Env) : List (Nat × Nat × AOpd) → List AVal → Option (List AVal)
  | [], cs => some cs
  | (off, sz, x) :: r, cs => match x.ev e with
    | some v => if v.solid = true ∧ v.width = sz ∧ off + sz ≤ cs.length then buildA e r (putCells off v.flat cs) else none
    | none => none
def elemsOf (H : Heap) : AVal → Option (List AVal)
  | .lst xs _ => some xs
  | .emp _ => some []
  | .gl o len => match growAt H o len with
    | some (.lst xs _) => some xs
    | _ => none
  | .sl b off len _ w => sliceElems H b off len w
  | .str s => some (s.map fun b => .int .u8 b.toNat)
  | _ => none
def lenOf (H : Heap) (k : LenK) (v : AVal) : Option Nat :=
  match k, v with
  | .slice, .lst xs _ => some xs.length
  | .slice, .emp _ => some 0
  | .slice, .gl _ len => some len
  | .slice, .sl _ _ len _ _ => some len
  | .str, .str s => some s.length
  | .map, .nilm => some 0
  | .map, .map b => match H[b]? with
    | some (.mp es) => some es.length
    | _ => none
  | _, _ => none
def goI (n : Int) : AVal := .int .i64 n
def newAt (H : Heap) (id : Nat) (B : ABlock) : Option Heap :=
  if id = H.length then some (H ++ [B]) else
  match H[id]? with
  | some .hole => some (H.set id B)
  | _ => none
def optEv (e : Env) : Option AOpd → Option (Option AVal)
  | none => some none
  | some x => match x.ev e with
    | some v => some (some v)
    | none => none
def bnd (y : Nat) : AVal → Option Nat
  | .int _ i => if 0 ≤ i ∧ i ≤ y then some i.toNat else none
  | _ => none
def bounds (len cap : Nat) (lo hi mx : Option AVal) : Option (Nat × Nat × Nat) :=
  match (match mx with
    | none => some cap
    | some v => bnd cap v) with
  | none => none
  | some m => match (match hi with
      | none => if mx.isSome then none else some len
      | some v => bnd m v) with
    | none => none
    | some h => match (match lo with
        | none => some 0
        | some v => bnd h v) with
      | none => none
      | some l => some (l, h, m)
def keyEq (ks : Bool) (x y : AVal) : Option Bool :=
  match ks, x, y with
  | false, .int k a, .int k' b => if k = k' then some (decide (a = b)) else none
  | true, .str a, .str b => some (a == b)
  | _, _, _ => none
def keyOk (ks : Bool) (x : AVal) : Bool :=
  match ks, x with
  | false, .int _ _ => true
  | true, .str _ => true
  | _, _ => false
def findKey (ks : Bool) (k : AVal) : List (AVal × AVal) → Option (Option AVal)
  | [] => some none
  | (k', v) :: r => match keyEq ks k k' with
    | some true => some (some v)
    | some false => findKey ks k r
    | none => none
def setKey (ks : Bool) (k v : AVal) : List (AVal × AVal) → Option (List (AVal × AVal))
  | [] => some [(k, v)]
  | (k', v') :: r => match keyEq ks k k' with
    | some true => some ((k', v) :: r)
    | some false => match setKey ks k v r with
      | some r' => some ((k', v') :: r')
      | none => none
    | none => none
def pureRes (r : Option (Ex × Heap)) : Option Ex :=
  match r with
  | some (.ok v, H) => match shutR H v with
    | some v' => some (.ok v')
    | none => none
  | some (.pan v, H) => match shutR H v with
    | some v' => some (.pan v')
    | none => none
  | none => none
def cutH (n : Nat) (v : AVal) (H : Heap) : Heap := if H.length ≤ n then H else if lowV n v && lowH n (H.take n) then H.take n else H
def cutRes (n : Nat) : Option (Ex × Heap) → Option (Ex × Heap)
  | some (.ok v, H) => some (.ok v, cutH n v H)
  | some (.pan v, H) => some (.pan v, cutH n v H)
  | none => none
def callA (C : Ctx) (raw : Bool) (f : FuncId) (args : List AVal) (H : Heap) : Option (Ex × Heap) :=
  if raw then cutRes H.length (C.call f args H) else
  match shutL H args with
  | some as => match pureRes (C.call f as []) with
    | some x => some (x, H)
    | none => none
  | none => cutRes H.length (C.call f args H)
def loadS (H : Heap) : AVal → Option AVal
  | .ptr b off => match H[b]? with
    | some (.cells vs) => vs[off]?
    | _ => none
  | .ro (c :: _) => some c
  | .lptr o l a => match H[o]? with
    | some (.grow es xs (some _)) => if l = xs.length then match xs[a / es]? with
        | some y => y.flat[a % es]?
        | none => none
      else none
    | _ => none
  | _ => none
def loadA (H : Heap) (n : Nat) : AVal → Option AVal
  | .ptr b off => match H[b]? with
    | some (.cells vs) => if off + n ≤ vs.length then some (.agg ((vs.drop off).take n)) else none
    | _ => none
  | .ro cs => if n ≤ cs.length then some (.agg (cs.take n)) else none
  | .lptr o l a => match H[o]? with
    | some (.grow es xs (some _)) => if l = xs.length ∧ a % es + n ≤ es then match xs[a / es]? with
        | some y => some (.agg ((y.flat.drop (a % es)).take n))
        | none => none
      else none
    | _ => none
  | _ => none
def storeA (H : Heap) (n : Nat) (x v : AVal) : Option Heap :=
  if v.solid = true ∧ v.width = n then
    match x with
    | .ptr b off => match H[b]? with
      | some (.cells vs) => if off + n ≤ vs.length then some (H.set b (.cells (putCells off v.flat vs))) else none
      | _ => none
    | .lptr o l a => match H[o]? with
      | some (.grow es xs (some f)) => match shutV H v with
        | some v' => if f + 1 ≤ l ∧ l = xs.length ∧ a = (l - 1) * es ∧ n = es ∧ v'.width = es then some (H.set o (.grow es (xs.set (l - 1) v') none)) else none
        | none => none
      | _ => none
    | _ => none
  else none
def putEl (off : Nat) (v : AVal) : AVal → AVal
  | .agg cs => .agg (putCells off v.flat cs)
  | _ => v
def storeK (H : Heap) (n : Nat) (x v : AVal) : Option Heap :=
  if v.solid = true ∧ v.width = n then
    match x with
    | .lptr o l a => match H[o]? with
      | some (.grow es xs (some f)) => match shutV H v with
        | some v' => match xs[a / es]? with
          | some y => if f ≤ a / es ∧ l = xs.length ∧ a % es + n ≤ es ∧ 0 < n then some (H.set o (.grow es (xs.set (a / es) (putEl (a % es) v' y)) (some f))) else none
          | none => none
        | none => none
      | _ => none
    | _ => none
  else none
def appendA (H : Heap) (id : Nat) (es bytes : Nat) (opn : Bool) (s x : AVal) : Option (AVal × Heap) :=
  match elemsOf H x with
  | none => none
  | some ys =>
      if ys.all (fun y => decide (y.width = es)) = true then
        match s with
        | .lst xs e =>
          if ys.isEmpty then some (s, H)
          else if e = true ∧ xs.all (fun y => decide (y.width = es)) = true ∧ (xs.length + ys.length) * bytes ≤ 140737488355328 then
            match newAt H id (.grow es (xs ++ ys) (if opn then some xs.length else none)) with
            | some H' => some (.gl id (xs.length + ys.length), H')
            | none => none
          else none
        | .gl o len => match H[o]? with
          | some (.grow es0 xs none) =>
            if len = xs.length ∧ (es0 = es ∨ es0 = 0) ∧ xs.all (fun y => decide (y.width = es)) = true then
              if ys.isEmpty then some (s, H)
              else if (xs.length + ys.length) * bytes ≤ 140737488355328 then
                some (.gl o (xs.length + ys.length), H.set o (.grow es (xs ++ ys) (if opn then some xs.length else none)))
              else none
            else none
          | _ => none
        | _ => none
      else none
def okv (H : Heap) : Option AVal → Option (Ex × Heap)
  | some v => some (.ok v, H)
  | none => none
def evP (e : Env) : AOp → Option AVal
  | .mv x => x.ev e
  | .pick c a b => match c.ev e with
    | some (.bool true) => a.ev e
    | some (.bool false) => b.ev e
    | _ => none
  | .bin op x y => match x.ev e, y.ev e with
    | some a, some b => binA op a b
    | _, _ => none
  | .eqv neg d x y => match x.ev e, y.ev e with
    | some a, some b => match eqA d a b with
      | some r => some (.bool (if neg then !r else r))
      | none => none
    | _, _ => none
  | .isnil k neg x => match x.ev e with
    | some a => match isNil k a with
      | some r => some (.bool (if neg then !r else r))
      | none => none
    | none => none
  | .un op x => match x.ev e with
    | some a => unA op a
    | none => none
  | .cvi k x => match x.ev e with
    | some (.int _ n) => some (.int k (k.wrap n))
    | _ => none
  | .cvs x => match x.ev e with
    | some (.str s) => some (.str s)
    | _ => none
  | .mki t x => match x.ev e with
    | some v => some (.iface t v)
    | none => none
  | .mkf f caps => match evs e caps with
    | some vs => some (.fn f vs)
    | none => none
  | .fld off sz x => match x.ev e with
    | some (.agg cs) => part off sz cs
    | _ => none
  | .ixs x i => match x.ev e, i.ev e with
    | some (.str s), some (.int _ n) => if 0 ≤ n then (s[n.toNat]?).map fun b => .int .u8 b.toNat else none
    | _, _ => none
  | .ixa len es sz x i => match x.ev e, i.ev e with
    | some (.agg cs), some (.int _ n) => if 0 ≤ n ∧ n < len then part (n.toNat * es) sz cs else none
    | _, _ => none
  | .fa off x => match x.ev e with
    | some (.ptr b o) => some (.ptr b (o + off))
    | some (.ro cs) => if off < cs.length then some (.ro (cs.drop off)) else none
    | some (.lptr o l c) => some (.lptr o l (c + off))
    | _ => none
  | .nc x => match x.ev e with
    | some (.ptr b o) => some (.ptr b o)
    | some (.ro cs) => some (.ro cs)
    | some (.lptr o l c) => some (.lptr o l c)
    | _ => none
  | .iaa len es x i => match x.ev e, i.ev e with
    | some (.ptr b o), some (.int _ n) => if 0 ≤ n ∧ n < len then some (.ptr b (o + n.toNat * es)) else none
    | some (.ro cs), some (.int _ n) => if 0 ≤ n ∧ n < len ∧ n.toNat * es < cs.length then some (.ro (cs.drop (n.toNat * es))) else none
    | _, _ => none
  | .ext i x => match x.ev e with
    | some (.tup vs) => vs[i]?
    | _ => none
  | .build zs parts => match buildA e parts zs with
    | some cs => some (.agg cs)
    | none => none
  | .mm isMax x y => match x.ev e, y.ev e with
    | some (.int k a), some (.int k' b) => if k = k' then some (.int k (if isMax then (if b > a then b else a) else (if b < a then b else a))) else none
    | _, _ => none
  | .slcs x lo hi => match x.ev e, optEv e lo, optEv e hi with
    | some (.str s), some lo, some hi => match bounds s.length s.length lo hi none with
      | some (l, h, _) => some (.str ((s.take h).drop l))
      | none => none
    | _, _, _ => none
  | _ => none
def evN (e : Env) (id : Nat) : AOp → Option (AVal × ABlock)
  | .alloc zs => some (.ptr id 0, .cells zs)
  | .box x => match x.ev e with
    | some v => if v.solid = true then some (.ptr id 0, .cells v.flat) else none
    | none => none
  | .mks es bytes w zs l c => match l.ev e, c.ev e with
    | some (.int _ l), some (.int _ c) =>
      if 0 ≤ l ∧ l ≤ c ∧ c < 9223372036854775808 ∧ bytes * c ≤ 281474976710656 ∧ zs.length = es ∧ wide w = es then
        some (.sl id 0 l.toNat c.toNat w, .cells (flatL (List.replicate c.toNat (.agg zs))))
      else none
    | _, _ => none
  | .mkm => some (.map id, .mp [])
  | _ => none
def asLst (H : Heap) : AVal → Option (List AVal × Bool)
  | .lst xs e => some (xs, e)
  | .gl o len => match growAt H o len with
    | some (.lst xs _) => some (xs, false)
    | _ => none
  | _ => none
def cutLst (es : Nat) (xs : List AVal) (exact : Bool) (lo hi mx : Option AVal) : Option AVal :=
  match mx with
  | some (.int k m) => if m = 0 then match bounds xs.length xs.length lo hi (some (.int k 0)) with
      | some _ => some (.lst [] true)
      | none => none
    else none
  | some _ => none
  | none => match bounds xs.length xs.length lo hi none with
    | some (l, h, _) => if xs.all (fun y => decide (y.width = es)) = true then some (.lst ((xs.take h).drop l) (exact && decide (h = xs.length))) else none
    | none => none
def cutOpen (H : Heap) (es : Nat) (s : AVal) (lo hi mx : Option AVal) : Option (AVal × Heap) :=
  match s, lo, hi, mx with
  | .gl o len, none, some (.int _ h), none => match H[o]? with
    | some (.grow es0 xs (some f)) =>
      if len = xs.length ∧ f ≤ h ∧ h ≤ len ∧ es0 = es then some (.gl H.length h.toNat, (H.set o .dead) ++ [.grow es (xs.take h.toNat) none]) else none
    | _ => none
  | _, _, _, _ => none
def bslGo (e : Env) (H : Heap) (es : Nat) : List (Nat × AOpd) → List AVal → Option (List AVal)
  | [], xs => some xs
  | (i, x) :: r, xs => match x.ev e with
    | some v => match shutV H v with
      | some v => if v.solid = true ∧ v.width = es ∧ i < xs.length then bslGo e H es r (xs.set i v) else none
      | none => none
    | none => none
def evH (C : Ctx) (e : Env) (id : Nat) (H : Heap) : AOp → Option (Ex × Heap)
  | .ia es x i => match x.ev e, i.ev e with
    | some (.gl o len), some (.int _ n) => match H[o]? with
      | some (.grow _ xs op) =>
        if 0 ≤ n ∧ n < len ∧ len = xs.length ∧ (xs[n.toNat]?).any (fun y => decide (y.width = es)) = true then
          match op with
          | none => (xs[n.toNat]?).bind fun y => some (.ok (.ro y.flat), H)
          | some f => if f ≤ n.toNat then some (.ok (.lptr o len (n.toNat * es)), H) else none
        else none
      | _ => none
    | some (.lst xs _), some (.int _ n) =>
      if 0 ≤ n then match xs[n.toNat]? with
        | some y => if y.width = es then some (.ok (.ro y.flat), H) else none
        | none => none
      else none
    | some (.sl b off len _ w), some (.int _ n) =>
      if 0 ≤ n ∧ n < len ∧ wide w = es then some (.ok (.ptr b (off + n.toNat * es)), H) else none
    | _, _ => none
  | .bsl es z len parts =>
    if z.width = es ∧ len * es ≤ 16777216 then
      match bslGo e H es parts (List.replicate len z) with
      | some xs => some (.ok (.lst xs true), H)
      | none => none
    else none
  | .lds x => match x.ev e with
    | some a => okv H (loadS H a)
    | none => none
  | .lda n x => match x.ev e with
    | some a => okv H (loadA H n a)
    | none => none
  | .sts x v => match x.ev e, v.ev e with
    | some a, some v => match storeA H 1 a v with
      | some H' => some (.ok undefA, H')
      | none => none
    | _, _ => none
  | .sta n x v => match x.ev e, v.ev e with
    | some a, some v => match storeA H n a v with
      | some H' => some (.ok undefA, H')
      | none => none
    | _, _ => none
  | .stk n x v => match x.ev e, v.ev e with
    | some a, some v => match storeK H n a v with
      | some H' => some (.ok undefA, H')
      | none => none
    | _, _ => none
  | .slc es x lo hi mx => match x.ev e, optEv e lo, optEv e hi, optEv e mx with
    | some (.sl b off len cap w), some lo, some hi, some mx => match bounds len cap lo hi mx with
      | some (l, h, m) => if wide w = es ∧ l < m ∧ len ≤ cap then some (.ok (.sl b (off + l * es) (h - l) (m - l) w), H) else none
      | none => none
    | some s, some lo, some hi, some mx => match cutOpen H es s lo hi mx with
      | some (v, H') => some (.ok v, H')
      | none => match asLst H s with
        | some (xs, exact) => match cutLst es xs exact lo hi mx with
          | some v => some (.ok v, H)
          | none => none
        | none => none
    | _, _, _, _ => none
  | .slca len es w x lo hi mx => match x.ev e, optEv e lo, optEv e hi, optEv e mx with
    | some (.ptr b off), some lo, some hi, some mx => match bounds len len lo hi mx with
      | some (l, h, m) => if wide w = es ∧ l < m then some (.ok (.sl b (off + l * es) (h - l) (m - l) w), H) else none
      | none => none
    | _, _, _, _ => none
  | .len k x => match x.ev e with
    | some v => okv H ((lenOf H k v).map fun (n : Nat) => goI n)
    | none => none
  | .cap x => match x.ev e with
    | some (.sl _ _ _ c _) => some (.ok (goI c), H)
    | some (.lst xs true) => some (.ok (goI xs.length), H)
    | _ => none
  | .app es bytes opn s x => match s.ev e, x.ev e with
    | some s, some x => match appendA H id es bytes opn s x with
      | some (v, H') => some (.ok v, H')
      | none => none
    | _, _ => none
  | .appz es bytes z s n => match s.ev e, n.ev e with
    | some (.lst xs e), some (.int _ n) =>
      if 0 ≤ n ∧ z.width = es ∧ xs.all (fun y => decide (y.width = es)) = true then
        if n = 0 then some (.ok (.lst xs e), H)
        else if e = true ∧ (xs.length + n.toNat) * bytes ≤ 140737488355328 ∧ n < 9223372036854775808 then
          match newAt H id (.grow es (xs ++ List.replicate n.toNat z) (some xs.length)) with
          | some H' => some (.ok (.gl id (xs.length + n.toNat)), H')
          | none => none
        else none
      else none
    | _, _ => none
  | .copy es d s => match d.ev e, s.ev e with
    | some (.sl b off len _ w), some s => match elemsOf H s with
      | some ys => match H[b]? with
        | some (.cells vs) =>
          let n := min ys.length len
          if wide w = es ∧ off + len * es ≤ vs.length ∧ ys.all (fun y => decide (y.width = es)) = true then
            some (.ok (goI n), H.set b (.cells (putCells off (flatL (ys.take n)) vs)))
          else none
        | _ => none
      | none => none
    | _, _ => none
  | .clear es zs x => match x.ev e with
    | some (.sl b off len _ w) => match H[b]? with
      | some (.cells vs) =>
        if wide w = es ∧ off + len * es ≤ vs.length ∧ zs.length = es then
          some (.ok undefA, H.set b (.cells (putCells off (flatL (List.replicate len (.agg zs))) vs)))
        else none
      | _ => none
    | _ => none
  | .call raw f args => match evs e args with
    | some vs => callA C raw f vs H
    | none => none
  | .callv raw x args => match x.ev e, evs e args with
    | some (.fn f caps), some vs => callA C raw f (vs ++ caps) H
    | _, _ => none
  | .look ks ok z m k => match m.ev e, k.ev e with
    | some (.map b), some k => match H[b]? with
      | some (.mp es) => if keyOk ks k then match findKey ks k es with
        | some (some v) => some (.ok (if ok then .tup [v, .bool true] else v), H)
        | some none => some (.ok (if ok then .tup [z, .bool false] else z), H)
        | none => none
        else none
      | _ => none
    | _, _ => none
  | .upd ks m k v => match m.ev e, k.ev e, v.ev e with
    | some (.map b), some k, some v => match H[b]? with
      | some (.mp es) => if keyOk ks k then match setKey ks k v es with
        | some es' => some (.ok undefA, H.set b (.mp es'))
        | none => none
        else none
      | _ => none
    | _, _, _ => none
  | .panic x => match x.ev e with
    | some (.iface t v) => some (.pan (.iface t v), H)
    | _ => none
  | _ => none
inductive Kind where
  | pure
  | new
  | heap
  deriving DecidableEq, Inhabited
def AOp.kind : AOp → Kind
  | .mv _ | .pick _ _ _ | .bin _ _ _ | .eqv _ _ _ _ | .isnil _ _ _ | .un _ _ | .cvi _ _ | .cvs _ | .mki _ _ | .mkf _ _ | .fld _ _ _ | .ixs _ _ | .ixa _ _ _ _ _ | .fa _ _ | .nc _ | .iaa _ _ _ _
  | .ext _ _ | .build _ _ | .mm _ _ _ | .slcs _ _ _ => .pure
  | .alloc _ | .box _ | .mks _ _ _ _ _ _ | .mkm => .new
  | _ => .heap
def evalOp (C : Ctx) (e : Env) (id : Nat) (H : Heap) (op : AOp) : Option (Ex × Heap) :=
  match op.kind with
  | .pure => okv H (evP e op)
  | .new => match evN e id op with
    | some (v, B) => match newAt H id B with
      | some H' => some (.ok v, H')
      | none => none
    | none => none
  | .heap => evH C e id H op
def wantedA (e : Env) : Option (Nat × Bool) → Option Bool
  | none => some true
  | some (t, want) => match e.get t with
    | some (.bool b) => some (b == want)
    | some (.tup []) => some false
    | _ => none
def evalOps (C : Ctx) : List AOper → Env → Heap → Option (AEx × Env × Heap)
  | [], e, H => some (.norm, e, H)
  | o :: r, e, H => match wantedA e o.guard with
    | some true => match evalOp C e H.length H o.op with
      | some (.ok v, H') => evalOps C r (e.put o.dst v) H'
      | some (.pan v, H') => some (.pan v, e, H')
      | none => none
    | some false => evalOps C r (e.put o.dst undefA) H
    | none => none
inductive Foot where
  | io (r w : List Nat)
  | opq (H H' : Heap)
  deriving Inhabited
mutual
def glsV : AVal → List Nat
  | .gl o _ => [o]
  | .agg cs => glsL cs
  | .tup vs => glsL vs
  | .iface _ v => glsV v
  | .fn _ caps => glsL caps
  | _ => []
def glsL : List AVal → List Nat
  | [] => []
  | v :: vs => glsV v ++ glsL vs
end
def partsGls (e : Env) : List (Nat × AOpd) → List Nat
  | [] => []
  | (_, x) :: r => match x.ev e with
    | some v => glsV v ++ partsGls e r
    | none => []
def footArgs (H : Heap) (vs : List AVal) : Option (List Nat × List Nat) :=
  match shutL H vs with
  | some _ => some (glsL vs, [])
  | none => none
def footH (e : Env) (H : Heap) : AOp → Option (List Nat × List Nat)
  | .ia _ x _ => match x.ev e with
    | some (.gl o _) => some ([o], [])
    | _ => some ([], [])
  | .bsl _ _ _ parts => some (partsGls e parts, [])
  | .lds x => match x.ev e with
    | some (.ptr b _) => some ([b], [])
    | some (.lptr o _ _) => some ([o], [])
    | _ => some ([], [])
  | .lda _ x => match x.ev e with
    | some (.ptr b _) => some ([b], [])
    | some (.lptr o _ _) => some ([o], [])
    | _ => some ([], [])
  | .sts x _ => match x.ev e with
    | some (.ptr b _) => some ([b], [b])
    | _ => none
  | .sta _ x v => match x.ev e with
    | some (.ptr b _) => some ([b], [b])
    | some (.lptr o _ _) => match v.ev e with
      | some v => some (o :: glsV v, [o])
      | none => none
    | _ => none
  | .slc _ x _ _ _ => match x.ev e with
    | some (.sl _ _ _ _ _) => some ([], [])
    | some (.lst _ _) => some ([], [])
    | _ => none
  | .slca _ _ _ _ _ _ _ => some ([], [])
  | .len _ x => match x.ev e with
    | some (.map b) => some ([b], [])
    | _ => some ([], [])
  | .cap _ => some ([], [])
  | .look _ _ _ m _ => match m.ev e with
    | some (.map b) => some ([b], [])
    | _ => none
  | .call raw _ args => match raw, evs e args with
    | false, some vs => footArgs H vs
    | _, _ => none
  | .callv raw x args => match raw, x.ev e, evs e args with
    | false, some (.fn _ caps), some vs => footArgs H (vs ++ caps)
    | _, _, _ => none
  | _ => none
def footA (e : Env) (id : Nat) (H H' : Heap) (op : AOp) : Foot :=
  match op.kind with
  | .pure => .io [] []
  | .new => .io [id] [id]
  | .heap => match footH e H op with
    | some (r, w) => .io r w
    | none => .opq H H'
def notIn (b : Nat) : List Nat → Bool
  | [] => true
  | x :: xs => !Nat.beq x b && notIn b xs
def noneIn (l : List Nat) : List Nat → Bool
  | [] => true
  | x :: xs => notIn x l && noneIn l xs
mutual
def sameV : AVal → AVal → Bool
  | .int k n, .int k' n' => decide (k = k') && decide (n = n')
  | .bool b, .bool b' => b == b'
  | .str s, .str s' => decide (s = s')
  | .nilp, .nilp => true
  | .nili, .nili => true
  | .nilf, .nilf => true
  | .nilm, .nilm => true
  | .iface t v, .iface t' v' => Nat.beq t t' && sameV v v'
  | .agg cs, .agg cs' => sameL cs cs'
  | .tup cs, .tup cs' => sameL cs cs'
  | .lst xs e, .lst xs' e' => sameL xs xs' && (e == e')
  | .gl o l, .gl o' l' => Nat.beq o o' && Nat.beq l l'
  | .lptr o i w, .lptr o' i' w' => Nat.beq o o' && Nat.beq i i' && Nat.beq w w'
  | .sl b o l c w, .sl b' o' l' c' w' => Nat.beq b b' && Nat.beq o o' && Nat.beq l l' && Nat.beq c c' && decide (w = w')
  | .ptr b o, .ptr b' o' => Nat.beq b b' && Nat.beq o o'
  | .ro cs, .ro cs' => sameL cs cs'
  | .fn f caps, .fn f' caps' => Nat.beq f f' && sameL caps caps'
  | .map b, .map b' => Nat.beq b b'
  | .emp b, .emp b' => b == b'
  | _, _ => false
def sameL : List AVal → List AVal → Bool
  | [], [] => true
  | v :: vs, v' :: vs' => sameV v v' && sameL vs vs'
  | _, _ => false
end
def sameP : List (AVal × AVal) → List (AVal × AVal) → Bool
  | [], [] => true
  | (k, v) :: r, (k', v') :: r' => sameV k k' && sameV v v' && sameP r r'
  | _, _ => false
def sameB : Option ABlock → Option ABlock → Bool
  | some (.cells vs), some (.cells vs') => sameL vs vs'
  | some (.grow es xs op), some (.grow es' xs' op') => Nat.beq es es' && sameL xs xs' && decide (op = op')
  | some (.mp es), some (.mp es') => sameP es es'
  | some .hole, some .hole => true
  | some .dead, some .dead => true
  | none, none => true
  | _, _ => false
def sameOn (H H' : Heap) : List Nat → Bool
  | [] => true
  | b :: bs => sameB H[b]? H'[b]? && sameOn H H' bs
def disj : Foot → Foot → Bool
  | .io r w, .io r' w' => noneIn r' w && noneIn r w'
  | .io r [], .opq H H' => sameOn H H' r
  | .opq H H', .io r [] => sameOn H H' r
  | _, _ => false
def okEarlier (deps : List Nat) (f : Foot) : Nat → List Foot → Bool
  | _, [] => true
  | o, g :: gs => (disj g f || !notIn o deps) && okEarlier deps f (o + 1) gs
def okFs (all : List Foot) : Nat → List (AOper × Nat × List Nat) → List Foot → Bool
  | _, [], [] => true
  | i, p :: ps, f :: fs => okEarlier p.2.2 f 0 (all.take i) && okFs all (i + 1) ps fs
  | _, _, _ => false
def stepV (C : Ctx) (base : Nat) (o : AOper) (j : Nat) (e : Env) (H : Heap) : Option (Foot × AVal × Heap) :=
  match wantedA e o.guard with
  | some true =>
    if decide (o.op.kind = .new) && Nat.ble H.length (base + j) then none else
    match evalOp C e (base + j) H o.op with
    | some (.ok v, H') => some (footA e (base + j) H H' o.op, v, H')
    | _ => none
  | some false => some (.io [] [], undefA, H)
  | none => none
def runD (C : Ctx) (base : Nat) : List (AOper × Nat × List Nat) → Env → Heap → Option (List Foot × Env × Heap)
  | [], e, H => some ([], e, H)
  | p :: r, e, H => match stepV C base p.1 p.2.1 e H with
    | some (f, v, H') => match runD C base r (e.put p.1.dst v) H' with
      | some (fs, r') => some (f :: fs, r')
      | none => none
    | none => none
def evalDraw (C : Ctx) (base : Nat) (l : List (AOper × Nat × List Nat)) (e : Env) (H : Heap) : Option (AEx × Env × Heap) :=
  match runD C base l e H with
  | some (fs, e', H') => if okFs fs 0 l fs then some (.norm, e', H') else none
  | none => none
def restr (e : Env) : List Nat → Env
  | [] => []
  | t :: ts => match e.get t with
    | some v => (t, v) :: restr e ts
    | none => restr e ts
def trunc (n : Nat) (e : Env) (H : Heap) : Heap :=
  if H.length ≤ n then H else if lowE n e && lowH n (H.take n) then H.take n else H
def ownA (t : Nat) (off : Option Nat) (e : Env) (H : Heap) : Env × Heap :=
  match off, e.get t with
  | none, some (.lst xs true) => ((t, .gl H.length xs.length) :: e, H ++ [.grow 0 xs none])
  | some k, some (.ptr b o) => match H[b]? with
    | some (.cells vs) => match vs[o + k]? with
      | some (.lst xs true) => (e, H.set b (.cells (vs.set (o + k) (.gl H.length xs.length))) ++ [.grow 0 xs none])
      | _ => (e, H)
    | _ => (e, H)
  | _, _ => (e, H)
def sealA (t : Nat) (off : Option Nat) (e : Env) (H : Heap) : Heap :=
  match (match off, e.get t with
    | none, v => v
    | some k, some (.ptr b o) => match H[b]? with
      | some (.cells vs) => vs[o + k]?
      | _ => none
    | _, _ => none) with
  | some (.gl o len) => match H[o]? with
    | some (.grow es xs (some _)) => if len = xs.length then H.set o (.grow es xs none) else H
    | _ => H
  | _ => H
def frzV (H : Heap) : AVal → Option AVal
  | .gl o len => shutV H (.gl o len)
  | .lst xs e => shutV H (.lst xs e)
  | _ => none
def frzA (t : Nat) (off : Option Nat) (e : Env) (H : Heap) : Env × Heap :=
  match off, e.get t with
  | none, some v => match frzV H v with
    | some v' => ((t, v') :: e, H)
    | none => (e, H)
  | some k, some (.ptr b o) => match H[b]? with
    | some (.cells vs) => match vs[o + k]? with
      | some v => match frzV H v with
        | some v' => (e, H.set b (.cells (vs.set (o + k) v')))
        | none => (e, H)
      | _ => (e, H)
    | _ => (e, H)
  | _, _ => (e, H)
def frzAll : List (Nat × Option Nat) → Env → Heap → Env × Heap
  | [], e, H => (e, H)
  | p :: r, e, H => frzAll r (frzA p.1 p.2 e H).1 (frzA p.1 p.2 e H).2
def stmtE (keep : List Nat) (frz : List (Nat × Option Nat)) (e : Env) (H : Heap) : Env := restr (frzAll frz e H).1 keep
def stmtH (n : Nat) (keep : List Nat) (frz : List (Nat × Option Nat)) (e : Env) (H : Heap) : Heap := trunc n (stmtE keep frz e H) (frzAll frz e H).2
def sameE : Env → Env → Bool
  | [], [] => true
  | (k, v) :: r, (k', v') :: r' => Nat.beq k k' && sameV v v' && sameE r r'
  | _, _ => false
def sameH : Heap → Heap → Bool
  | [], [] => true
  | b :: r, b' :: r' => sameB (some b) (some b') && sameH r r'
  | _, _ => false
def meet (keep : List Nat) : Option (AEx × Env × Heap) → Option (AEx × Env × Heap) → Option (AEx × Env × Heap)
  | some (.ret, e, H), some (.ret, e', H') => if sameE (restr e keep) (restr e' keep) && sameH H H' then some (.ret, restr e keep, H) else none
  | some (.norm, e, H), some (.norm, e', H') => if sameE (restr e keep) (restr e' keep) && sameH H H' then some (.norm, restr e keep, H) else none
  | _, _ => none
def iter : Nat → (Env → Heap → Option (AEx × Env × Heap)) → Env → Heap → Option (AEx × Env × Heap)
  | 0, _, _, _ => none
  | k + 1, f, e, H => match f e H with
    | some (.norm, e', H') => iter k f e' H'
    | r => r
def evalCode (C : Ctx) : ACode → Env → Heap → Option (AEx × Env × Heap)
  | .skip, e, H => some (.norm, e, H)
  | .reg l, e, H => evalOps C l e H
  | .draw m l, e, H => evalDraw C H.length l e (H ++ List.replicate m .hole)
  | .seq a b, e, H => match evalCode C a e H with
    | some (.norm, e', H') => evalCode C b e' H'
    | r => r
  | .cond c a b, e, H => match c.ev e with
    | some (.bool t) => if t = true then evalCode C a e H else evalCode C b e H
    | _ => none
  | .block id a, e, H => match evalCode C a e H with
    | some (.exit j, e', H') => if j = id then some (.norm, e', H') else some (.exit j, e', H')
    | r => r
  | .loop keep a, e, H => iter C.fuel (fun e' H' => evalCode C a (restr e' keep) (trunc H.length (restr e' keep) H')) e H
  | .exit id, e, H => some (.exit id, e, H)
  | .ret, e, H => some (.ret, e, H)
  | .prune keep, e, H => some (.norm, restr e keep, H)
  | .own t off, e, H => some (.norm, (ownA t off e H).1, (ownA t off e H).2)
  | .shutl t off, e, H => some (.norm, e, sealA t off e H)
  | .fork t keep a, e, H => match e.get t with
    | some (.lst [] _) => meet keep (evalCode C a ((t, .emp true) :: e) H) (evalCode C a ((t, .emp false) :: e) H)
    | _ => evalCode C a e H
  | .stmt keep frz a, e, H => match evalCode C a e H with
    | some (.norm, e', H') => some (.norm, stmtE keep frz e' H', stmtH H.length keep frz e' H')
    | r => r
def initEnv (i : Nat) : List AVal → Env
  | [] => []
  | v :: vs => (i, v) :: initEnv (i + 1) vs
def resOf (e : Env) (H : Heap) : ARes → Option AVal
  | .t n => e.get n
  | .cs n => match e.get n with
    | some p => loadS H p
    | none => none
  | .ca n k => match e.get n with
    | some p => loadA H k p
    | none => none
def resAll (e : Env) (H : Heap) : List ARes → Option (List AVal)
  | [] => some []
  | r :: rs => match resOf e H r with
    | some v => match resAll e H rs with
      | some vs => some (v :: vs)
      | none => none
    | none => none
def oneOr : List AVal → AVal
  | [v] => v
  | vs => .tup vs
def finish (af : AFunc) : Option (AEx × Env × Heap) → Option (Ex × Heap)
  | some (.norm, e, H) => match resAll e H af.results with
    | some vs => some (.ok (oneOr vs), H)
    | none => none
  | some (.ret, e, H) => match resAll e H af.results with
    | some vs => some (.ok (oneOr vs), H)
    | none => none
  | some (.pan v, _, H) => some (.pan v, H)
  | _ => none
def callF (tab : Nat → Option AFunc) : Nat → FuncId → List AVal → Heap → Option (Ex × Heap)
  | 0, _, _, _ => none
  | n + 1, f, as, H => match tab f with
    | none => none
    | some af => finish af (evalCode ⟨callF tab n, n⟩ af.body (initEnv 0 as) H)
def pcall (tab : Nat → Option AFunc) (n : Nat) (f : FuncId) (as : List AVal) : Option Ex := pureRes (callF tab n f as [])
end Go.Ev
namespace Go.Ev.Seat
set_option maxRecDepth 100000
open Go Go.Ev
def a3 : AFunc := ⟨.seq (.stmt [1, 3, 5] [] (.reg [ ⟨some 3, .box (.t 0), none⟩, ⟨some 5, .box (.t 2), none⟩, ⟨some 6, .mv (.c (.bool false)), none⟩])) (.seq (.stmt [1, 3, 5, 7] [] (.reg [ ⟨some 16, .call false 7 [], none⟩, ⟨some 7, .mv (.t 16), none⟩])) (.seq (.stmt [1, 3, 5, 7, 8] [] (.reg [ ⟨some 17, .lda 6 (.t 3), none⟩, ⟨some 18, .call false 8 [(.t 17)], none⟩, ⟨some 8, .mv (.t 18), none⟩])) (.seq (.stmt [1, 3, 5, 7, 8, 9] [] (.reg [ ⟨some 19, .iaa 2 12 (.t 5) (.c (.int .i64 0)), none⟩, ⟨some 20, .lda 12 (.t 19), none⟩, ⟨some 21, .call false 9 [(.t 20)], none⟩, ⟨some 9, .mv (.t 21), none⟩])) (.seq (.stmt [1, 3, 5, 7, 8, 9, 10] [] (.reg [ ⟨some 22, .iaa 2 12 (.t 5) (.c (.int .i64 1)), none⟩, ⟨some 23, .lda 12 (.t 22), none⟩, ⟨some 24, .call false 9 [(.t 23)], none⟩, ⟨some 10, .mv (.t 24), none⟩])) (.seq (.stmt [1, 3, 5, 7] [] (.seq (.stmt [1, 3, 5, 7, 34] [] (.reg [ ⟨some 25, .mv (.t 8), none⟩, ⟨some 26, .un .not (.t 25), none⟩, ⟨some 27, .mv (.t 26), none⟩, ⟨some 28, .mv (.t 9), some (27, false)⟩, ⟨some 29, .un .not (.t 28), some (27, false)⟩, ⟨some 30, .pick (.t 27) (.c (.bool true)) (.t 29), none⟩, ⟨some 31, .mv (.t 30), none⟩, ⟨some 32, .mv (.t 10), some (31, false)⟩, ⟨some 33, .un .not (.t 32), some (31, false)⟩, ⟨some 34, .pick (.t 31) (.c (.bool true)) (.t 33), none⟩])) (.cond (.t 34) (.seq (.reg [ ⟨some 35, .mv (.t 7), none⟩, ⟨some 6, .mv (.t 35), none⟩]) (.ret)) (.skip)))) (.seq (.stmt [5, 7] [] (.seq (.stmt [1, 3, 5, 7, 45] [] (.reg [ ⟨some 36, .lda 6 (.t 3), none⟩, ⟨some 37, .call false 10 [(.t 36)], none⟩, ⟨some 38, .mv (.t 37), none⟩, ⟨some 39, .mv (.t 1), some (38, true)⟩, ⟨some 40, .bin .geq (.t 39) (.c (.int .i64 1)), some (38, true)⟩, ⟨some 41, .pick (.t 38) (.t 40) (.c (.bool false)), none⟩, ⟨some 42, .mv (.t 41), none⟩, ⟨some 43, .mv (.t 1), some (42, true)⟩, ⟨some 44, .bin .leq (.t 43) (.c (.int .i64 99)), some (42, true)⟩, ⟨some 45, .pick (.t 42) (.t 44) (.c (.bool false)), none⟩])) (.cond (.t 45) (.seq (.stmt [1, 3, 5, 7, 11] [] (.draw 0 [ (⟨some 46, .lda 6 (.t 3), none⟩, 0, []), (⟨some 47, .mv (.t 1), none⟩, 0, []), (⟨some 48, .call false 12 [(.t 46), (.t 47)], none⟩, 0, [0, 1]), (⟨some 49, .lda 6 (.t 3), none⟩, 0, []), (⟨some 50, .mv (.t 1), none⟩, 0, []), (⟨some 51, .call false 13 [(.t 49), (.t 50)], none⟩, 0, [0, 1, 2, 3, 4]), (⟨some 52, .call false 11 [(.t 48), (.t 51)], none⟩, 0, [0, 1, 2, 3, 4, 5]), (⟨some 11, .mv (.t 52), none⟩, 0, [0, 1, 2, 3, 4, 5, 6])])) (.seq (.stmt [5, 7, 11, 12] [] (.draw 0 [ (⟨some 53, .lda 6 (.t 3), none⟩, 0, []), (⟨some 54, .mv (.t 1), none⟩, 0, []), (⟨some 55, .call false 14 [(.t 53), (.t 54)], none⟩, 0, [0, 1]), (⟨some 56, .lda 6 (.t 3), none⟩, 0, []), (⟨some 57, .mv (.t 1), none⟩, 0, []), (⟨some 58, .call false 15 [(.t 56), (.t 57)], none⟩, 0, [0, 1, 2, 3, 4]), (⟨some 59, .call false 11 [(.t 55), (.t 58)], none⟩, 0, [0, 1, 2, 3, 4, 5]), (⟨some 12, .mv (.t 59), none⟩, 0, [0, 1, 2, 3, 4, 5, 6])])) (.seq (.stmt [5, 7, 65] [] (.reg [ ⟨some 60, .mv (.t 11), none⟩, ⟨some 61, .un .not (.t 60), none⟩, ⟨some 62, .mv (.t 61), none⟩, ⟨some 63, .mv (.t 12), some (62, false)⟩, ⟨some 64, .un .not (.t 63), some (62, false)⟩, ⟨some 65, .pick (.t 62) (.c (.bool true)) (.t 64), none⟩])) (.cond (.t 65) (.seq (.reg [ ⟨some 6, .mv (.c (.bool false)), none⟩]) (.ret)) (.skip))))) (.skip)))) (.seq (.stmt [5, 7, 13] [] (.reg [ ⟨some 66, .iaa 2 12 (.t 5) (.c (.int .i64 0)), none⟩, ⟨some 67, .lda 12 (.t 66), none⟩, ⟨some 68, .call false 16 [(.t 67)], none⟩, ⟨some 13, .alloc [.int .i64 0, .int .i64 0, .int .i64 0, .int .i64 0, .int .i64 0, .int .i64 0, .int .i64 0, .int .i64 0, .lst [] true, .int .i64 0, .int .i64 0, .lst [] true], none⟩, ⟨none, .sta 12 (.t 13) (.t 68), none⟩])) (.seq (.stmt [5, 7, 13, 14] [] (.reg [ ⟨some 69, .iaa 2 12 (.t 5) (.c (.int .i64 1)), none⟩, ⟨some 70, .lda 12 (.t 69), none⟩, ⟨some 71, .call false 16 [(.t 70)], none⟩, ⟨some 14, .alloc [.int .i64 0, .int .i64 0, .int .i64 0, .int .i64 0, .int .i64 0, .int .i64 0, .int .i64 0, .int .i64 0, .lst [] true, .int .i64 0, .int .i64 0, .lst [] true], none⟩, ⟨none, .sta 12 (.t 14) (.t 71), none⟩])) (.seq (.stmt [5, 7, 13, 14] [] (.seq (.stmt [5, 7, 13, 14, 79] [] (.reg [ ⟨some 72, .lda 12 (.t 13), none⟩, ⟨some 73, .call false 17 [(.t 72)], none⟩, ⟨some 74, .un .not (.t 73), none⟩, ⟨some 75, .mv (.t 74), none⟩, ⟨some 76, .lda 12 (.t 14), some (75, false)⟩, ⟨some 77, .call false 17 [(.t 76)], some (75, false)⟩, ⟨some 78, .un .not (.t 77), some (75, false)⟩, ⟨some 79, .pick (.t 75) (.c (.bool true)) (.t 78), none⟩])) (.cond (.t 79) (.seq (.reg [ ⟨some 80, .mv (.t 7), none⟩, ⟨some 6, .mv (.t 80), none⟩]) (.ret)) (.skip)))) (.seq (.stmt [7, 15] [] (.draw 0 [ (⟨some 81, .iaa 2 12 (.t 5) (.c (.int .i64 0)), none⟩, 0, []), (⟨some 82, .lda 12 (.t 81), none⟩, 0, [0]), (⟨some 83, .iaa 2 12 (.t 5) (.c (.int .i64 1)), none⟩, 0, []), (⟨some 84, .lda 12 (.t 83), none⟩, 0, [2]), (⟨some 85, .call false 18 [(.t 82), (.t 84)], none⟩, 0, [0, 1, 2, 3]), (⟨some 86, .lda 12 (.t 13), none⟩, 0, []), (⟨some 87, .lda 12 (.t 14), none⟩, 0, []), (⟨some 88, .call false 19 [(.t 86), (.t 87)], none⟩, 0, [0, 1, 2, 3, 4, 5, 6]), (⟨some 89, .call false 11 [(.t 85), (.t 88)], none⟩, 0, [0, 1, 2, 3, 4, 5, 6, 7]), (⟨some 15, .mv (.t 89), none⟩, 0, [0, 1, 2, 3, 4, 5, 6, 7, 8])])) (.seq (.reg [ ⟨some 90, .mv (.t 7), none⟩, ⟨some 91, .mv (.t 90), none⟩, ⟨some 92, .mv (.t 15), some (91, true)⟩, ⟨some 93, .pick (.t 91) (.t 92) (.c (.bool false)), none⟩, ⟨some 6, .mv (.t 93), none⟩]) (.ret)))))))))))), [.t 6]⟩
def a7 : AFunc := ⟨.seq (.reg [ ⟨some 0, .mv (.c (.bool false)), none⟩]) (.seq (.prune []) (.seq (.reg [ ⟨some 5, .build [.bool false, .int .i64 0, .int .i64 0, .lst [] true, .int .i64 0, .lst [] true] [(1, 1, (.c (.int .i64 1)))], none⟩, ⟨some 1, .alloc [.bool false, .int .i64 0, .int .i64 0, .lst [] true, .int .i64 0, .lst [] true], none⟩, ⟨none, .sta 6 (.t 1) (.t 5), none⟩]) (.seq (.prune [1]) (.seq (.reg [ ⟨some 6, .lda 6 (.t 1), none⟩, ⟨some 7, .call false 12 [(.t 6), (.c (.int .i64 5))], none⟩, ⟨some 2, .alloc [.int .i64 0, .int .i64 0, .int .i64 0, .int .i64 0, .int .i64 0, .int .i64 0, .int .i64 0, .int .i64 0, .lst [] true, .int .i64 0, .int .i64 0, .lst [] true], none⟩, ⟨none, .sta 12 (.t 2) (.t 7), none⟩]) (.seq (.prune [1, 2]) (.seq (.reg [ ⟨some 8, .lda 6 (.t 1), none⟩, ⟨some 9, .lda 6 (.t 1), none⟩, ⟨some 10, .bsl 6 (.agg [.bool false, .int .i64 0, .int .i64 0, .lst [] true, .int .i64 0, .lst [] true]) 2 [(0, (.t 8)), (1, (.t 9))], none⟩, ⟨some 11, .build [.bool false, .int .i64 0, .int .i64 0, .lst [] true, .int .i64 0, .lst [] true] [(4, 1, (.c (.int .i64 1))), (5, 1, (.t 10))], none⟩, ⟨some 12, .call false 14 [(.t 11), (.c (.int .i64 6))], none⟩, ⟨some 3, .alloc [.int .i64 0, .int .i64 0, .int .i64 0, .int .i64 0, .int .i64 0, .int .i64 0, .int .i64 0, .int .i64 0, .lst [] true, .int .i64 0, .int .i64 0, .lst [] true], none⟩, ⟨none, .sta 12 (.t 3) (.t 12), none⟩]) (.seq (.prune [2, 3]) (.seq (.reg [ ⟨some 13, .lda 12 (.t 3), none⟩, ⟨some 14, .lda 12 (.t 3), none⟩, ⟨some 15, .call false 18 [(.t 13), (.t 14)], none⟩, ⟨some 4, .alloc [.int .i64 0, .int .i64 0, .int .i64 0, .int .i64 0, .int .i64 0, .int .i64 0, .int .i64 0, .int .i64 0, .lst [] true, .int .i64 0, .int .i64 0, .lst [] true], none⟩, ⟨none, .sta 12 (.t 4) (.t 15), none⟩]) (.seq (.prune [2, 3, 4]) (.seq (.reg [ ⟨some 16, .lda 12 (.t 2), none⟩, ⟨some 17, .call false 24 [(.t 16), (.c (.int .i64 1))], none⟩, ⟨some 18, .bin .eql (.t 17) (.c (.int .i64 0)), none⟩, ⟨some 19, .mv (.t 18), none⟩, ⟨some 20, .lda 12 (.t 2), some (19, true)⟩, ⟨some 21, .call false 24 [(.t 20), (.c (.int .i64 4))], some (19, true)⟩, ⟨some 22, .bin .eql (.t 21) (.c (.int .i64 5)), some (19, true)⟩, ⟨some 23, .pick (.t 19) (.t 22) (.c (.bool false)), none⟩, ⟨some 24, .mv (.t 23), none⟩, ⟨some 25, .lda 12 (.t 2), some (24, true)⟩, ⟨some 26, .call false 24 [(.t 25), (.c (.int .i64 128))], some (24, true)⟩, ⟨some 27, .bin .eql (.t 26) (.c (.int .i64 5)), some (24, true)⟩, ⟨some 28, .pick (.t 24) (.t 27) (.c (.bool false)), none⟩, ⟨some 29, .mv (.t 28), none⟩, ⟨some 30, .lda 12 (.t 3), some (29, true)⟩, ⟨some 31, .call false 36 [(.t 30), (.c (.int .i64 128))], some (29, true)⟩, ⟨some 32, .pick (.t 29) (.t 31) (.c (.bool false)), none⟩, ⟨some 33, .mv (.t 32), none⟩, ⟨some 34, .fa 11 (.t 4), some (33, true)⟩, ⟨some 35, .lds (.t 34), some (33, true)⟩, ⟨some 36, .len .slice (.t 35), some (33, true)⟩, ⟨some 37, .bin .eql (.t 36) (.c (.int .i64 2)), some (33, true)⟩, ⟨some 38, .pick (.t 33) (.t 37) (.c (.bool false)), none⟩, ⟨some 39, .mv (.t 38), none⟩, ⟨some 40, .fa 11 (.t 4), some (39, true)⟩, ⟨some 41, .lds (.t 40), some (39, true)⟩, ⟨some 42, .ia 12 (.t 41) (.c (.int .i64 1)), some (39, true)⟩, ⟨some 43, .lda 12 (.t 42), some (39, true)⟩, ⟨some 44, .call false 27 [(.t 43)], some (39, true)⟩, ⟨some 45, .pick (.t 39) (.t 44) (.c (.bool false)), none⟩, ⟨some 46, .mv (.t 45), none⟩, ⟨some 47, .lda 12 (.t 4), some (46, true)⟩, ⟨some 48, .call false 21 [(.t 47)], some (46, true)⟩, ⟨some 49, .bin .eql (.t 48) (.c (.int .i64 2)), some (46, true)⟩, ⟨some 50, .pick (.t 46) (.t 49) (.c (.bool false)), none⟩, ⟨some 51, .mv (.t 50), none⟩, ⟨some 52, .lda 12 (.t 4), some (51, true)⟩, ⟨some 53, .call false 22 [(.t 52)], some (51, true)⟩, ⟨some 54, .bin .eql (.t 53) (.c (.int .i64 3)), some (51, true)⟩, ⟨some 55, .pick (.t 51) (.t 54) (.c (.bool false)), none⟩, ⟨some 56, .mv (.t 55), none⟩, ⟨some 57, .lda 12 (.t 4), some (56, true)⟩, ⟨some 58, .call false 20 [(.t 57)], some (56, true)⟩, ⟨some 59, .pick (.t 56) (.t 58) (.c (.bool false)), none⟩, ⟨some 0, .mv (.t 59), none⟩]) (.ret))))))))))), [.t 0]⟩
def a8 : AFunc := ⟨.seq (.reg [ ⟨some 1, .box (.t 0), none⟩, ⟨some 2, .mv (.c (.bool false)), none⟩]) (.seq (.prune [1]) (.seq (.reg [ ⟨some 3, .lda 6 (.t 1), none⟩, ⟨some 4, .call false 38 [(.t 3), (.c (.int .i64 60))], none⟩, ⟨some 5, .bin .lss (.t 4) (.c (.int .i64 120)), none⟩, ⟨some 2, .mv (.t 5), none⟩]) (.ret))), [.t 2]⟩
def a9 : AFunc := ⟨.seq (.reg [ ⟨some 1, .box (.t 0), none⟩, ⟨some 2, .mv (.c (.bool false)), none⟩]) (.seq (.prune [1]) (.seq (.seq (.reg [ ⟨some 3, .lda 12 (.t 1), none⟩, ⟨some 4, .call false 39 [(.t 3), (.c (.int .i64 30))], none⟩, ⟨some 5, .un .not (.t 4), none⟩]) (.seq (.prune [1, 5]) (.cond (.t 5) (.seq (.reg [ ⟨some 2, .mv (.c (.bool false)), none⟩]) (.ret)) (.skip)))) (.seq (.prune [1]) (.seq (.reg [ ⟨some 6, .lda 12 (.t 1), none⟩, ⟨some 7, .call false 16 [(.t 6)], none⟩, ⟨some 8, .call false 40 [(.t 7)], none⟩, ⟨some 2, .mv (.t 8), none⟩]) (.ret))))), [.t 2]⟩
def a10 : AFunc := ⟨.seq (.reg [ ⟨some 1, .box (.t 0), none⟩, ⟨some 2, .mv (.c (.bool false)), none⟩]) (.seq (.prune [1]) (.seq (.reg [ ⟨some 3, .lda 6 (.t 1), none⟩, ⟨some 4, .call false 38 [(.t 3), (.c (.int .i64 60))], none⟩, ⟨some 5, .bin .leq (.t 4) (.c (.int .i64 300)), none⟩, ⟨some 6, .mv (.t 5), none⟩, ⟨some 7, .lda 6 (.t 1), some (6, true)⟩, ⟨some 8, .call false 41 [(.t 7), (.c (.int .i64 20))], some (6, true)⟩, ⟨some 9, .pick (.t 6) (.t 8) (.c (.bool false)), none⟩, ⟨some 2, .mv (.t 9), none⟩]) (.ret))), [.t 2]⟩
def a11 : AFunc := ⟨.seq (.reg [ ⟨some 2, .box (.t 0), none⟩, ⟨some 3, .box (.t 1), none⟩, ⟨some 4, .mv (.c (.bool false)), none⟩]) (.seq (.prune [2, 3]) (.seq (.draw 0 [ (⟨some 5, .lda 12 (.t 2), none⟩, 0, []), (⟨some 6, .call false 16 [(.t 5)], none⟩, 0, [0]), (⟨some 7, .lda 12 (.t 3), none⟩, 0, []), (⟨some 8, .call false 26 [(.t 6), (.t 7)], none⟩, 0, [0, 1, 2]), (⟨some 4, .mv (.t 8), none⟩, 0, [0, 1, 2, 3])]) (.ret))), [.t 4]⟩
def a12 : AFunc := ⟨.seq (.reg [ ⟨some 2, .box (.t 0), none⟩, ⟨some 4, .alloc [.int .i64 0, .int .i64 0, .int .i64 0, .int .i64 0, .int .i64 0, .int .i64 0, .int .i64 0, .int .i64 0, .lst [] true, .int .i64 0, .int .i64 0, .lst [] true], none⟩]) (.seq (.prune [1, 2, 4]) (.seq (.reg [ ⟨some 5, .alloc [.int .i64 0, .int .i64 0, .int .i64 0, .int .i64 0, .int .i64 0, .int .i64 0, .int .i64 0, .int .i64 0, .lst [] true, .int .i64 0, .int .i64 0, .lst [] true], none⟩]) (.seq (.prune [1, 2, 4, 5]) (.seq (.seq (.reg [ ⟨some 7, .fa 0 (.t 2), none⟩, ⟨some 8, .lds (.t 7), none⟩]) (.seq (.prune [1, 2, 4, 5, 8]) (.cond (.t 8) (.seq (.reg [ ⟨some 9, .lda 12 (.t 5), none⟩, ⟨none, .sta 12 (.t 4) (.t 9), none⟩]) (.ret)) (.skip)))) (.seq (.prune [1, 2, 4, 5]) (.seq (.seq (.reg [ ⟨some 10, .mv (.c (.int .i64 0)), none⟩]) (.seq (.prune [1, 2, 4, 5, 10]) (.block 0 (.loop [10, 1, 2, 4, 5] (.seq (.reg [ ⟨some 11, .bin .lss (.t 10) (.c (.int .i64 6)), none⟩]) (.seq (.prune [1, 2, 4, 5, 10, 11]) (.seq (.cond (.t 11) (.skip) (.exit 0)) (.seq (.prune [1, 2, 4, 5, 10]) (.seq (.block 1 (.seq (.reg [ ⟨some 12, .mv (.t 10), none⟩, ⟨some 6, .mv (.t 12), none⟩]) (.seq (.prune [1, 2, 4, 5, 6, 10]) (.seq (.draw 0 [ (⟨some 13, .fa 1 (.t 2), none⟩, 0, []), (⟨some 14, .lds (.t 13), none⟩, 0, [0]), (⟨some 15, .mv (.t 6), none⟩, 0, []), (⟨some 16, .bin .shl (.c (.int .i64 1)) (.t 15), none⟩, 0, [2]), (⟨some 17, .bin .and (.t 14) (.t 16), none⟩, 0, [0, 1, 2, 3]), (⟨some 18, .bin .eql (.t 17) (.c (.int .i64 0)), none⟩, 0, [0, 1, 2, 3, 4])]) (.seq (.prune [1, 2, 4, 5, 6, 10, 18]) (.cond (.t 18) (.reg [ ⟨some 19, .mv (.t 6), none⟩, ⟨some 20, .mv (.t 1), none⟩, ⟨some 21, .fa 0 (.t 5), none⟩, ⟨some 22, .iaa 6 1 (.t 21) (.t 19), none⟩, ⟨none, .sts (.t 22) (.t 20), none⟩]) (.skip))))))) (.seq (.prune [1, 2, 4, 5, 10]) (.reg [ ⟨some 23, .bin .add (.t 10) (.c (.int .i64 1)), none⟩, ⟨some 10, .mv (.t 23), none⟩]))))))))))) (.seq (.prune [1, 2, 4, 5]) (.seq (.seq (.reg [ ⟨some 24, .fa 2 (.t 2), none⟩, ⟨some 25, .lds (.t 24), none⟩]) (.seq (.prune [1, 2, 4, 5, 25]) (.block 2 (.seq (.reg [ ⟨some 38, .bin .eql (.t 25) (.c (.int .i64 0)), none⟩, ⟨some 37, .mv (.t 38), none⟩]) (.seq (.prune [1, 2, 4, 5, 25, 37]) (.cond (.t 37) (.reg [ ⟨some 39, .mv (.t 1), none⟩, ⟨some 40, .fa 6 (.t 5), none⟩, ⟨none, .sts (.t 40) (.c (.int .i64 1)), none⟩, ⟨some 41, .fa 7 (.t 5), none⟩, ⟨none, .sts (.t 41) (.t 39), none⟩]) (.seq (.reg [ ⟨some 43, .bin .eql (.t 25) (.c (.int .i64 1)), none⟩, ⟨some 42, .mv (.t 43), none⟩]) (.seq (.prune [1, 2, 4, 5, 42]) (.cond (.t 42) (.draw 0 [ (⟨some 44, .fa 3 (.t 2), none⟩, 0, []), (⟨some 45, .lds (.t 44), none⟩, 0, [0]), (⟨some 46, .ia 6 (.t 45) (.c (.int .i64 0)), none⟩, 0, [0, 1]), (⟨some 47, .lda 6 (.t 46), none⟩, 0, [0, 1, 2]), (⟨some 48, .mv (.t 1), none⟩, 0, []), (⟨some 49, .call false 12 [(.t 47), (.t 48)], none⟩, 0, [0, 1, 2, 3, 4]), (⟨some 50, .fa 3 (.t 2), none⟩, 0, []), (⟨some 51, .lds (.t 50), none⟩, 0, [6]), (⟨some 52, .ia 6 (.t 51) (.c (.int .i64 1)), none⟩, 0, [6, 7]), (⟨some 53, .lda 6 (.t 52), none⟩, 0, [6, 7, 8]), (⟨some 54, .mv (.t 1), none⟩, 0, []), (⟨some 55, .call false 12 [(.t 53), (.t 54)], none⟩, 0, [0, 1, 2, 3, 4, 5, 6, 7, 8, 9, 10]), (⟨some 56, .bsl 12 (.agg [.int .i64 0, .int .i64 0, .int .i64 0, .int .i64 0, .int .i64 0, .int .i64 0, .int .i64 0, .int .i64 0, .lst [] true, .int .i64 0, .int .i64 0, .lst [] true]) 2 [(0, (.t 49)), (1, (.t 55))], none⟩, 0, [0, 1, 2, 3, 4, 5, 6, 7, 8, 9, 10, 11]), (⟨some 57, .call false 42 [(.t 5), (.t 56)], none⟩, 0, [0, 1, 2, 3, 4, 5, 6, 7, 8, 9, 10, 11, 12])]) (.reg [ ⟨some 26, .mv (.t 1), none⟩, ⟨some 27, .fa 3 (.t 2), none⟩, ⟨some 28, .lds (.t 27), none⟩, ⟨some 29, .ia 6 (.t 28) (.c (.int .i64 0)), none⟩, ⟨some 30, .lda 6 (.t 29), none⟩, ⟨some 31, .mv (.t 1), none⟩, ⟨some 32, .call false 12 [(.t 30), (.t 31)], none⟩, ⟨some 33, .bsl 12 (.agg [.int .i64 0, .int .i64 0, .int .i64 0, .int .i64 0, .int .i64 0, .int .i64 0, .int .i64 0, .int .i64 0, .lst [] true, .int .i64 0, .int .i64 0, .lst [] true]) 1 [(0, (.t 32))], none⟩, ⟨some 34, .fa 6 (.t 5), none⟩, ⟨none, .sts (.t 34) (.c (.int .i64 3)), none⟩, ⟨some 35, .fa 7 (.t 5), none⟩, ⟨none, .sts (.t 35) (.t 26), none⟩, ⟨some 36, .fa 8 (.t 5), none⟩, ⟨none, .sts (.t 36) (.t 33), none⟩])))))))))) (.seq (.prune [1, 2, 4, 5]) (.seq (.seq (.reg [ ⟨some 58, .fa 4 (.t 2), none⟩, ⟨some 59, .lds (.t 58), none⟩]) (.seq (.prune [1, 2, 4, 5, 59]) (.block 3 (.seq (.reg [ ⟨some 61, .bin .eql (.t 59) (.c (.int .i64 0)), none⟩, ⟨some 60, .mv (.t 61), none⟩]) (.seq (.prune [1, 2, 4, 5, 59, 60]) (.cond (.t 60) (.reg [ ⟨some 62, .mv (.t 1), none⟩, ⟨some 63, .fa 9 (.t 5), none⟩, ⟨none, .sts (.t 63) (.c (.int .i64 1)), none⟩, ⟨some 64, .fa 10 (.t 5), none⟩, ⟨none, .sts (.t 64) (.t 62), none⟩]) (.seq (.reg [ ⟨some 66, .bin .eql (.t 59) (.c (.int .i64 1)), none⟩, ⟨some 65, .mv (.t 66), none⟩]) (.seq (.prune [1, 2, 4, 5, 65]) (.cond (.t 65) (.reg [ ⟨some 67, .fa 5 (.t 2), none⟩, ⟨some 68, .lds (.t 67), none⟩, ⟨some 69, .mv (.t 1), none⟩, ⟨some 70, .call false 43 [(.t 5), (.t 68), (.c (.fn 14 [])), (.c (.fn 12 [])), (.t 69)], none⟩]) (.skip)))))))))) (.seq (.prune [4, 5]) (.seq (.reg [ ⟨some 71, .lda 12 (.t 5), none⟩, ⟨none, .sta 12 (.t 4) (.t 71), none⟩]) (.ret))))))))))))), [.ca 4 12]⟩
def a13 : AFunc := ⟨.seq (.stmt [1, 2, 4] [] (.reg [ ⟨some 2, .box (.t 0), none⟩, ⟨some 4, .alloc [.int .i64 0, .int .i64 0, .int .i64 0, .int .i64 0, .int .i64 0, .int .i64 0, .int .i64 0, .int .i64 0, .lst [] true, .int .i64 0, .int .i64 0, .lst [] true], none⟩])) (.seq (.stmt [1, 2, 4] [] (.seq (.stmt [1, 2, 4, 13] [] (.reg [ ⟨some 12, .fa 0 (.t 2), none⟩, ⟨some 13, .lds (.t 12), none⟩])) (.cond (.t 13) (.seq (.reg [ ⟨some 14, .build [.int .i64 0, .int .i64 0, .int .i64 0, .int .i64 0, .int .i64 0, .int .i64 0, .int .i64 0, .int .i64 0, .lst [] true, .int .i64 0, .int .i64 0, .lst [] true] [], none⟩, ⟨none, .sta 12 (.t 4) (.t 14), none⟩]) (.ret)) (.skip)))) (.seq (.stmt [1, 2, 4, 5] [] (.reg [ ⟨some 15, .build [.int .i64 0, .int .i64 0, .int .i64 0, .int .i64 0, .int .i64 0, .int .i64 0, .int .i64 0, .int .i64 0, .lst [] true, .int .i64 0, .int .i64 0, .lst [] true] [], none⟩, ⟨some 5, .alloc [.int .i64 0, .int .i64 0, .int .i64 0, .int .i64 0, .int .i64 0, .int .i64 0, .int .i64 0, .int .i64 0, .lst [] true, .int .i64 0, .int .i64 0, .lst [] true], none⟩, ⟨none, .sta 12 (.t 5) (.t 15), none⟩])) (.seq (.stmt [1, 2, 4, 5, 6] [] (.reg [ ⟨some 6, .mv (.c (.int .i64 1)), none⟩])) (.seq (.stmt [1, 2, 4, 5] [] (.seq (.stmt [1, 2, 4, 5, 6, 7] [] (.reg [ ⟨some 7, .mv (.c (.int .i64 0)), none⟩])) (.block 0 (.loop [6, 7, 1, 2, 4, 5] (.seq (.stmt [1, 2, 4, 5, 6, 7] [] (.seq (.stmt [1, 2, 4, 5, 6, 7, 17] [] (.reg [ ⟨some 16, .mv (.t 7), none⟩, ⟨some 17, .bin .lss (.t 16) (.c (.int .i64 6)), none⟩])) (.cond (.t 17) (.skip) (.exit 0)))) (.seq (.stmt [1, 2, 4, 5, 6, 7] [] (.block 1 (.seq (.stmt [1, 2, 4, 5, 6, 7] [] (.seq (.stmt [1, 2, 4, 5, 6, 7, 25] [] (.reg [ ⟨some 20, .fa 1 (.t 2), none⟩, ⟨some 21, .lds (.t 20), none⟩, ⟨some 22, .mv (.t 6), none⟩, ⟨some 23, .bin .quo (.t 21) (.t 22), none⟩, ⟨some 24, .bin .rem (.t 23) (.c (.int .i64 2)), none⟩, ⟨some 25, .bin .eql (.t 24) (.c (.int .i64 0)), none⟩])) (.cond (.t 25) (.reg [ ⟨some 26, .mv (.t 7), none⟩, ⟨some 27, .mv (.t 1), none⟩, ⟨some 28, .fa 0 (.t 5), none⟩, ⟨some 29, .iaa 6 1 (.t 28) (.t 26), none⟩, ⟨none, .sts (.t 29) (.t 27), none⟩]) (.skip)))) (.reg [ ⟨some 30, .mv (.t 6), none⟩, ⟨some 31, .bin .mul (.c (.int .i64 2)) (.t 30), none⟩, ⟨some 6, .mv (.t 31), none⟩])))) (.reg [ ⟨some 18, .mv (.t 7), none⟩, ⟨some 19, .bin .add (.t 18) (.c (.int .i64 1)), none⟩, ⟨some 7, .mv (.t 19), none⟩]))))))) (.seq (.stmt [1, 2, 4, 5] [(5, some 8)] (.seq (.stmt [1, 2, 4, 5, 33] [] (.reg [ ⟨some 32, .fa 2 (.t 2), none⟩, ⟨some 33, .lds (.t 32), none⟩])) (.block 2 (.seq (.stmt [1, 2, 4, 5, 33, 34] [] (.reg [ ⟨some 35, .bin .eql (.t 33) (.c (.int .i64 0)), none⟩, ⟨some 34, .mv (.t 35), none⟩])) (.cond (.t 34) (.seq (.stmt [1, 2, 4, 5] [] (.reg [ ⟨some 36, .fa 6 (.t 5), none⟩, ⟨none, .sts (.t 36) (.c (.int .i64 1)), none⟩])) (.reg [ ⟨some 37, .mv (.t 1), none⟩, ⟨some 38, .fa 7 (.t 5), none⟩, ⟨none, .sts (.t 38) (.t 37), none⟩])) (.seq (.stmt [1, 2, 4, 5, 33, 39] [] (.reg [ ⟨some 40, .bin .eql (.t 33) (.c (.int .i64 1)), none⟩, ⟨some 39, .mv (.t 40), none⟩])) (.cond (.t 39) (.seq (.stmt [1, 2, 4, 5, 8] [(8, none)] (.draw 0 [ (⟨some 41, .fa 3 (.t 2), none⟩, 0, []), (⟨some 42, .lds (.t 41), none⟩, 0, [0]), (⟨some 43, .ia 6 (.t 42) (.c (.int .i64 0)), none⟩, 0, [0, 1]), (⟨some 44, .lda 6 (.t 43), none⟩, 0, [0, 1, 2]), (⟨some 45, .mv (.t 1), none⟩, 0, []), (⟨some 46, .call false 13 [(.t 44), (.t 45)], none⟩, 0, [0, 1, 2, 3, 4]), (⟨some 47, .fa 3 (.t 2), none⟩, 0, []), (⟨some 48, .lds (.t 47), none⟩, 0, [6]), (⟨some 49, .ia 6 (.t 48) (.c (.int .i64 1)), none⟩, 0, [6, 7]), (⟨some 50, .lda 6 (.t 49), none⟩, 0, [6, 7, 8]), (⟨some 51, .mv (.t 1), none⟩, 0, []), (⟨some 52, .call false 13 [(.t 50), (.t 51)], none⟩, 0, [0, 1, 2, 3, 4, 5, 6, 7, 8, 9, 10]), (⟨some 53, .bsl 12 (.agg [.int .i64 0, .int .i64 0, .int .i64 0, .int .i64 0, .int .i64 0, .int .i64 0, .int .i64 0, .int .i64 0, .lst [] true, .int .i64 0, .int .i64 0, .lst [] true]) 2 [(0, (.t 46)), (1, (.t 52))], none⟩, 0, [0, 1, 2, 3, 4, 5, 6, 7, 8, 9, 10, 11]), (⟨some 8, .mv (.t 53), none⟩, 0, [0, 1, 2, 3, 4, 5, 6, 7, 8, 9, 10, 11, 12])])) (.seq (.stmt [1, 2, 4, 5, 8, 56] [] (.reg [ ⟨some 54, .mv (.t 8), none⟩, ⟨some 55, .call false 44 [(.t 54)], none⟩, ⟨some 56, .un .not (.t 55), none⟩])) (.cond (.t 56) (.seq (.stmt [1, 2, 4, 5, 8] [] (.reg [ ⟨some 57, .fa 6 (.t 5), none⟩, ⟨none, .sts (.t 57) (.c (.int .i64 2)), none⟩])) (.reg [ ⟨some 58, .mv (.t 8), none⟩, ⟨some 59, .fa 8 (.t 5), none⟩, ⟨none, .sts (.t 59) (.t 58), none⟩])) (.skip)))) (.seq (.stmt [1, 2, 4, 5, 60] [] (.reg [ ⟨some 61, .bin .eql (.t 33) (.c (.int .i64 2)), none⟩, ⟨some 60, .mv (.t 61), none⟩])) (.cond (.t 60) (.seq (.stmt [1, 2, 4, 5] [] (.reg [ ⟨some 62, .fa 6 (.t 5), none⟩, ⟨none, .sts (.t 62) (.c (.int .i64 3)), none⟩])) (.seq (.stmt [1, 2, 4, 5] [] (.reg [ ⟨some 63, .mv (.t 1), none⟩, ⟨some 64, .fa 7 (.t 5), none⟩, ⟨none, .sts (.t 64) (.t 63), none⟩])) (.reg [ ⟨some 65, .fa 3 (.t 2), none⟩, ⟨some 66, .lds (.t 65), none⟩, ⟨some 67, .ia 6 (.t 66) (.c (.int .i64 0)), none⟩, ⟨some 68, .lda 6 (.t 67), none⟩, ⟨some 69, .mv (.t 1), none⟩, ⟨some 70, .call false 13 [(.t 68), (.t 69)], none⟩, ⟨some 71, .bsl 12 (.agg [.int .i64 0, .int .i64 0, .int .i64 0, .int .i64 0, .int .i64 0, .int .i64 0, .int .i64 0, .int .i64 0, .lst [] true, .int .i64 0, .int .i64 0, .lst [] true]) 1 [(0, (.t 70))], none⟩, ⟨some 72, .fa 8 (.t 5), none⟩, ⟨none, .sts (.t 72) (.t 71), none⟩]))) (.skip)))))))))) (.seq (.stmt [1, 2, 4, 5] [] (.seq (.stmt [1, 2, 4, 5, 75] [] (.reg [ ⟨some 73, .fa 4 (.t 2), none⟩, ⟨some 74, .lds (.t 73), none⟩, ⟨some 75, .bin .eql (.t 74) (.c (.int .i64 0)), none⟩])) (.cond (.t 75) (.seq (.stmt [1, 2, 4, 5] [] (.reg [ ⟨some 76, .fa 9 (.t 5), none⟩, ⟨none, .sts (.t 76) (.c (.int .i64 1)), none⟩])) (.reg [ ⟨some 77, .mv (.t 1), none⟩, ⟨some 78, .fa 10 (.t 5), none⟩, ⟨none, .sts (.t 78) (.t 77), none⟩])) (.skip)))) (.seq (.stmt [4, 5] [(5, some 11)] (.seq (.stmt [1, 2, 4, 5, 81] [] (.reg [ ⟨some 79, .fa 4 (.t 2), none⟩, ⟨some 80, .lds (.t 79), none⟩, ⟨some 81, .bin .eql (.t 80) (.c (.int .i64 1)), none⟩])) (.cond (.t 81) (.seq (.stmt [1, 2, 4, 5, 9] [] (.reg [ ⟨some 9, .mv (.c (.lst [] true)), none⟩])) (.seq (.stmt [1, 2, 4, 5, 9, 10] [] (.reg [ ⟨some 82, .fa 5 (.t 2), none⟩, ⟨some 83, .lds (.t 82), none⟩, ⟨some 84, .len .slice (.t 83), none⟩, ⟨some 85, .bin .sub (.t 84) (.c (.int .i64 1)), none⟩, ⟨some 10, .mv (.t 85), none⟩])) (.seq (.stmt [1, 2, 4, 5, 9, 10] [] (.seq (.stmt [1, 2, 4, 5, 9, 10, 11] [] (.reg [ ⟨some 11, .mv (.c (.int .i64 0)), none⟩])) (.block 3 (.seq (.own 9 none) (.loop [9, 11, 1, 2, 4, 5, 10] (.seq (.stmt [1, 2, 4, 5, 9, 10, 11] [] (.seq (.stmt [1, 2, 4, 5, 9, 10, 11, 88] [] (.reg [ ⟨some 86, .mv (.t 11), none⟩, ⟨some 87, .mv (.t 10), none⟩, ⟨some 88, .bin .lss (.t 86) (.t 87), none⟩])) (.cond (.t 88) (.skip) (.exit 3)))) (.seq (.stmt [1, 2, 4, 5, 9, 10, 11] [] (.block 4 (.reg [ ⟨some 91, .mv (.t 9), none⟩, ⟨some 92, .fa 5 (.t 2), none⟩, ⟨some 93, .lds (.t 92), none⟩, ⟨some 94, .mv (.t 11), none⟩, ⟨some 95, .ia 6 (.t 93) (.t 94), none⟩, ⟨some 96, .lda 6 (.t 95), none⟩, ⟨some 97, .mv (.t 1), none⟩, ⟨some 98, .call false 15 [(.t 96), (.t 97)], none⟩, ⟨some 99, .bsl 12 (.agg [.int .i64 0, .int .i64 0, .int .i64 0, .int .i64 0, .int .i64 0, .int .i64 0, .int .i64 0, .int .i64 0, .lst [] true, .int .i64 0, .int .i64 0, .lst [] true]) 1 [(0, (.t 98))], none⟩, ⟨some 100, .app 12 128 false (.t 91) (.t 99), none⟩, ⟨some 9, .mv (.t 100), none⟩]))) (.reg [ ⟨some 89, .mv (.t 11), none⟩, ⟨some 90, .bin .add (.t 89) (.c (.int .i64 1)), none⟩, ⟨some 11, .mv (.t 90), none⟩])))))))) (.seq (.stmt [4, 5, 9] [(9, none)] (.reg [ ⟨some 101, .mv (.t 9), none⟩, ⟨some 102, .fa 5 (.t 2), none⟩, ⟨some 103, .lds (.t 102), none⟩, ⟨some 104, .mv (.t 10), none⟩, ⟨some 105, .ia 6 (.t 103) (.t 104), none⟩, ⟨some 106, .lda 6 (.t 105), none⟩, ⟨some 107, .mv (.t 1), none⟩, ⟨some 108, .call false 13 [(.t 106), (.t 107)], none⟩, ⟨some 109, .bsl 12 (.agg [.int .i64 0, .int .i64 0, .int .i64 0, .int .i64 0, .int .i64 0, .int .i64 0, .int .i64 0, .int .i64 0, .lst [] true, .int .i64 0, .int .i64 0, .lst [] true]) 1 [(0, (.t 108))], none⟩, ⟨some 110, .app 12 128 false (.t 101) (.t 109), none⟩, ⟨some 9, .mv (.t 110), none⟩])) (.seq (.stmt [4, 5, 9, 113] [] (.reg [ ⟨some 111, .mv (.t 9), none⟩, ⟨some 112, .call false 44 [(.t 111)], none⟩, ⟨some 113, .un .not (.t 112), none⟩])) (.cond (.t 113) (.seq (.stmt [4, 5, 9] [] (.reg [ ⟨some 114, .fa 9 (.t 5), none⟩, ⟨none, .sts (.t 114) (.c (.int .i64 2)), none⟩])) (.reg [ ⟨some 115, .mv (.t 9), none⟩, ⟨some 116, .fa 11 (.t 5), none⟩, ⟨none, .sts (.t 116) (.t 115), none⟩])) (.skip))))))) (.skip)))) (.seq (.reg [ ⟨some 117, .lda 12 (.t 5), none⟩, ⟨none, .sta 12 (.t 4) (.t 117), none⟩]) (.ret))))))))), [.ca 4 12]⟩
def a14 : AFunc := ⟨.seq (.reg [ ⟨some 2, .box (.t 0), none⟩, ⟨some 4, .alloc [.int .i64 0, .int .i64 0, .int .i64 0, .int .i64 0, .int .i64 0, .int .i64 0, .int .i64 0, .int .i64 0, .lst [] true, .int .i64 0, .int .i64 0, .lst [] true], none⟩]) (.seq (.prune [1, 2, 4]) (.seq (.reg [ ⟨some 5, .alloc [.int .i64 0, .int .i64 0, .int .i64 0, .int .i64 0, .int .i64 0, .int .i64 0, .int .i64 0, .int .i64 0, .lst [] true, .int .i64 0, .int .i64 0, .lst [] true], none⟩]) (.seq (.prune [1, 2, 4, 5]) (.seq (.seq (.reg [ ⟨some 7, .fa 2 (.t 2), none⟩, ⟨some 8, .lds (.t 7), none⟩]) (.seq (.prune [1, 2, 4, 5, 8]) (.block 0 (.seq (.reg [ ⟨some 10, .bin .eql (.t 8) (.c (.int .i64 1)), none⟩, ⟨some 9, .mv (.t 10), none⟩]) (.seq (.prune [1, 2, 4, 5, 8, 9]) (.cond (.t 9) (.draw 0 [ (⟨some 11, .fa 3 (.t 2), none⟩, 0, []), (⟨some 12, .lds (.t 11), none⟩, 0, [0]), (⟨some 13, .ia 6 (.t 12) (.c (.int .i64 0)), none⟩, 0, [0, 1]), (⟨some 14, .lda 6 (.t 13), none⟩, 0, [0, 1, 2]), (⟨some 15, .mv (.t 1), none⟩, 0, []), (⟨some 16, .call false 14 [(.t 14), (.t 15)], none⟩, 0, [0, 1, 2, 3, 4]), (⟨some 17, .fa 3 (.t 2), none⟩, 0, []), (⟨some 18, .lds (.t 17), none⟩, 0, [6]), (⟨some 19, .ia 6 (.t 18) (.c (.int .i64 1)), none⟩, 0, [6, 7]), (⟨some 20, .lda 6 (.t 19), none⟩, 0, [6, 7, 8]), (⟨some 21, .mv (.t 1), none⟩, 0, []), (⟨some 22, .call false 14 [(.t 20), (.t 21)], none⟩, 0, [0, 1, 2, 3, 4, 5, 6, 7, 8, 9, 10]), (⟨some 23, .bsl 12 (.agg [.int .i64 0, .int .i64 0, .int .i64 0, .int .i64 0, .int .i64 0, .int .i64 0, .int .i64 0, .int .i64 0, .lst [] true, .int .i64 0, .int .i64 0, .lst [] true]) 2 [(0, (.t 16)), (1, (.t 22))], none⟩, 0, [0, 1, 2, 3, 4, 5, 6, 7, 8, 9, 10, 11]), (⟨some 24, .call false 42 [(.t 5), (.t 23)], none⟩, 0, [0, 1, 2, 3, 4, 5, 6, 7, 8, 9, 10, 11, 12])]) (.seq (.reg [ ⟨some 26, .bin .eql (.t 8) (.c (.int .i64 2)), none⟩, ⟨some 25, .mv (.t 26), none⟩]) (.seq (.prune [1, 2, 4, 5, 25]) (.cond (.t 25) (.seq (.reg [ ⟨some 27, .fa 3 (.t 2), none⟩, ⟨some 28, .lds (.t 27), none⟩, ⟨some 29, .ia 6 (.t 28) (.c (.int .i64 0)), none⟩, ⟨some 30, .lda 6 (.t 29), none⟩, ⟨some 31, .mv (.t 1), none⟩, ⟨some 32, .call false 14 [(.t 30), (.t 31)], none⟩, ⟨some 6, .alloc [.int .i64 0, .int .i64 0, .int .i64 0, .int .i64 0, .int .i64 0, .int .i64 0, .int .i64 0, .int .i64 0, .lst [] true, .int .i64 0, .int .i64 0, .lst [] true], none⟩, ⟨none, .sta 12 (.t 6) (.t 32), none⟩]) (.seq (.prune [1, 2, 4, 5, 6]) (.seq (.reg [ ⟨some 33, .lda 12 (.t 6), none⟩, ⟨some 34, .call false 45 [(.t 33)], none⟩]) (.seq (.prune [1, 2, 4, 5, 6, 34]) (.cond (.t 34) (.draw 0 [ (⟨some 35, .lda 12 (.t 6), none⟩, 0, []), (⟨some 36, .bsl 12 (.agg [.int .i64 0, .int .i64 0, .int .i64 0, .int .i64 0, .int .i64 0, .int .i64 0, .int .i64 0, .int .i64 0, .lst [] true, .int .i64 0, .int .i64 0, .lst [] true]) 1 [(0, (.t 35))], none⟩, 0, [0]), (⟨some 37, .fa 6 (.t 5), none⟩, 0, []), (⟨none, .sts (.t 37) (.c (.int .i64 3)), none⟩, 0, [2]), (⟨some 38, .fa 8 (.t 5), none⟩, 0, [0, 1, 2, 3]), (⟨none, .sts (.t 38) (.t 36), none⟩, 0, [0, 1, 2, 3, 4])]) (.skip)))))) (.skip)))))))))) (.seq (.prune [1, 2, 4, 5]) (.seq (.seq (.reg [ ⟨some 39, .fa 4 (.t 2), none⟩, ⟨some 40, .lds (.t 39), none⟩, ⟨some 41, .bin .eql (.t 40) (.c (.int .i64 1)), none⟩]) (.seq (.prune [1, 2, 4, 5, 41]) (.cond (.t 41) (.reg [ ⟨some 42, .fa 5 (.t 2), none⟩, ⟨some 43, .lds (.t 42), none⟩, ⟨some 44, .mv (.t 1), none⟩, ⟨some 45, .call false 43 [(.t 5), (.t 43), (.c (.fn 12 [])), (.c (.fn 14 [])), (.t 44)], none⟩]) (.skip)))) (.seq (.prune [4, 5]) (.seq (.reg [ ⟨some 46, .lda 12 (.t 5), none⟩, ⟨none, .sta 12 (.t 4) (.t 46), none⟩]) (.ret))))))))), [.ca 4 12]⟩
def a15 : AFunc := ⟨.seq (.stmt [1, 2, 4] [] (.reg [ ⟨some 2, .box (.t 0), none⟩, ⟨some 4, .alloc [.int .i64 0, .int .i64 0, .int .i64 0, .int .i64 0, .int .i64 0, .int .i64 0, .int .i64 0, .int .i64 0, .lst [] true, .int .i64 0, .int .i64 0, .lst [] true], none⟩])) (.seq (.stmt [1, 2, 4, 5] [] (.reg [ ⟨some 11, .build [.int .i64 0, .int .i64 0, .int .i64 0, .int .i64 0, .int .i64 0, .int .i64 0, .int .i64 0, .int .i64 0, .lst [] true, .int .i64 0, .int .i64 0, .lst [] true] [], none⟩, ⟨some 5, .alloc [.int .i64 0, .int .i64 0, .int .i64 0, .int .i64 0, .int .i64 0, .int .i64 0, .int .i64 0, .int .i64 0, .lst [] true, .int .i64 0, .int .i64 0, .lst [] true], none⟩, ⟨none, .sta 12 (.t 5) (.t 11), none⟩])) (.seq (.stmt [1, 2, 4, 5] [(5, some 8)] (.seq (.stmt [1, 2, 4, 5, 14] [] (.reg [ ⟨some 12, .fa 2 (.t 2), none⟩, ⟨some 13, .lds (.t 12), none⟩, ⟨some 14, .bin .eql (.t 13) (.c (.int .i64 1)), none⟩])) (.cond (.t 14) (.seq (.stmt [1, 2, 4, 5, 6] [(6, none)] (.draw 0 [ (⟨some 15, .fa 3 (.t 2), none⟩, 0, []), (⟨some 16, .lds (.t 15), none⟩, 0, [0]), (⟨some 17, .ia 6 (.t 16) (.c (.int .i64 0)), none⟩, 0, [0, 1]), (⟨some 18, .lda 6 (.t 17), none⟩, 0, [0, 1, 2]), (⟨some 19, .mv (.t 1), none⟩, 0, []), (⟨some 20, .call false 15 [(.t 18), (.t 19)], none⟩, 0, [0, 1, 2, 3, 4]), (⟨some 21, .fa 3 (.t 2), none⟩, 0, []), (⟨some 22, .lds (.t 21), none⟩, 0, [6]), (⟨some 23, .ia 6 (.t 22) (.c (.int .i64 1)), none⟩, 0, [6, 7]), (⟨some 24, .lda 6 (.t 23), none⟩, 0, [6, 7, 8]), (⟨some 25, .mv (.t 1), none⟩, 0, []), (⟨some 26, .call false 15 [(.t 24), (.t 25)], none⟩, 0, [0, 1, 2, 3, 4, 5, 6, 7, 8, 9, 10]), (⟨some 27, .bsl 12 (.agg [.int .i64 0, .int .i64 0, .int .i64 0, .int .i64 0, .int .i64 0, .int .i64 0, .int .i64 0, .int .i64 0, .lst [] true, .int .i64 0, .int .i64 0, .lst [] true]) 2 [(0, (.t 20)), (1, (.t 26))], none⟩, 0, [0, 1, 2, 3, 4, 5, 6, 7, 8, 9, 10, 11]), (⟨some 6, .mv (.t 27), none⟩, 0, [0, 1, 2, 3, 4, 5, 6, 7, 8, 9, 10, 11, 12])])) (.seq (.stmt [1, 2, 4, 5, 6, 30] [] (.reg [ ⟨some 28, .mv (.t 6), none⟩, ⟨some 29, .call false 44 [(.t 28)], none⟩, ⟨some 30, .un .not (.t 29), none⟩])) (.cond (.t 30) (.seq (.stmt [1, 2, 4, 5, 6] [] (.reg [ ⟨some 31, .fa 6 (.t 5), none⟩, ⟨none, .sts (.t 31) (.c (.int .i64 2)), none⟩])) (.reg [ ⟨some 32, .mv (.t 6), none⟩, ⟨some 33, .fa 8 (.t 5), none⟩, ⟨none, .sts (.t 33) (.t 32), none⟩])) (.skip)))) (.skip)))) (.seq (.stmt [1, 2, 4, 5] [(5, some 8)] (.seq (.stmt [1, 2, 4, 5, 36] [] (.reg [ ⟨some 34, .fa 2 (.t 2), none⟩, ⟨some 35, .lds (.t 34), none⟩, ⟨some 36, .bin .eql (.t 35) (.c (.int .i64 2)), none⟩])) (.cond (.t 36) (.seq (.stmt [1, 2, 4, 5, 7] [] (.reg [ ⟨some 37, .fa 3 (.t 2), none⟩, ⟨some 38, .lds (.t 37), none⟩, ⟨some 39, .ia 6 (.t 38) (.c (.int .i64 0)), none⟩, ⟨some 40, .lda 6 (.t 39), none⟩, ⟨some 41, .mv (.t 1), none⟩, ⟨some 42, .call false 15 [(.t 40), (.t 41)], none⟩, ⟨some 7, .alloc [.int .i64 0, .int .i64 0, .int .i64 0, .int .i64 0, .int .i64 0, .int .i64 0, .int .i64 0, .int .i64 0, .lst [] true, .int .i64 0, .int .i64 0, .lst [] true], none⟩, ⟨none, .sta 12 (.t 7) (.t 42), none⟩])) (.seq (.stmt [1, 2, 4, 5, 7, 45] [] (.reg [ ⟨some 43, .lda 12 (.t 7), none⟩, ⟨some 44, .call false 28 [(.t 43)], none⟩, ⟨some 45, .un .not (.t 44), none⟩])) (.cond (.t 45) (.seq (.stmt [1, 2, 4, 5, 7] [] (.reg [ ⟨some 46, .fa 6 (.t 5), none⟩, ⟨none, .sts (.t 46) (.c (.int .i64 3)), none⟩])) (.reg [ ⟨some 47, .lda 12 (.t 7), none⟩, ⟨some 48, .bsl 12 (.agg [.int .i64 0, .int .i64 0, .int .i64 0, .int .i64 0, .int .i64 0, .int .i64 0, .int .i64 0, .int .i64 0, .lst [] true, .int .i64 0, .int .i64 0, .lst [] true]) 1 [(0, (.t 47))], none⟩, ⟨some 49, .fa 8 (.t 5), none⟩, ⟨none, .sts (.t 49) (.t 48), none⟩])) (.skip)))) (.skip)))) (.seq (.stmt [4, 5] [(5, some 11)] (.seq (.stmt [1, 2, 4, 5, 52] [] (.reg [ ⟨some 50, .fa 4 (.t 2), none⟩, ⟨some 51, .lds (.t 50), none⟩, ⟨some 52, .bin .eql (.t 51) (.c (.int .i64 1)), none⟩])) (.cond (.t 52) (.seq (.stmt [1, 2, 4, 5, 8] [] (.reg [ ⟨some 8, .mv (.c (.lst [] true)), none⟩])) (.seq (.stmt [1, 2, 4, 5, 8, 9] [] (.reg [ ⟨some 53, .fa 5 (.t 2), none⟩, ⟨some 54, .lds (.t 53), none⟩, ⟨some 55, .len .slice (.t 54), none⟩, ⟨some 56, .bin .sub (.t 55) (.c (.int .i64 1)), none⟩, ⟨some 9, .mv (.t 56), none⟩])) (.seq (.stmt [1, 2, 4, 5, 8, 9] [] (.seq (.stmt [1, 2, 4, 5, 8, 9, 10] [] (.reg [ ⟨some 10, .mv (.c (.int .i64 0)), none⟩])) (.block 0 (.seq (.own 8 none) (.loop [8, 10, 1, 2, 4, 5, 9] (.seq (.stmt [1, 2, 4, 5, 8, 9, 10] [] (.seq (.stmt [1, 2, 4, 5, 8, 9, 10, 59] [] (.reg [ ⟨some 57, .mv (.t 10), none⟩, ⟨some 58, .mv (.t 9), none⟩, ⟨some 59, .bin .lss (.t 57) (.t 58), none⟩])) (.cond (.t 59) (.skip) (.exit 0)))) (.seq (.stmt [1, 2, 4, 5, 8, 9, 10] [] (.block 1 (.reg [ ⟨some 62, .mv (.t 8), none⟩, ⟨some 63, .fa 5 (.t 2), none⟩, ⟨some 64, .lds (.t 63), none⟩, ⟨some 65, .mv (.t 10), none⟩, ⟨some 66, .ia 6 (.t 64) (.t 65), none⟩, ⟨some 67, .lda 6 (.t 66), none⟩, ⟨some 68, .mv (.t 1), none⟩, ⟨some 69, .call false 13 [(.t 67), (.t 68)], none⟩, ⟨some 70, .bsl 12 (.agg [.int .i64 0, .int .i64 0, .int .i64 0, .int .i64 0, .int .i64 0, .int .i64 0, .int .i64 0, .int .i64 0, .lst [] true, .int .i64 0, .int .i64 0, .lst [] true]) 1 [(0, (.t 69))], none⟩, ⟨some 71, .app 12 128 false (.t 62) (.t 70), none⟩, ⟨some 8, .mv (.t 71), none⟩]))) (.reg [ ⟨some 60, .mv (.t 10), none⟩, ⟨some 61, .bin .add (.t 60) (.c (.int .i64 1)), none⟩, ⟨some 10, .mv (.t 61), none⟩])))))))) (.seq (.stmt [4, 5, 8] [(8, none)] (.reg [ ⟨some 72, .mv (.t 8), none⟩, ⟨some 73, .fa 5 (.t 2), none⟩, ⟨some 74, .lds (.t 73), none⟩, ⟨some 75, .mv (.t 9), none⟩, ⟨some 76, .ia 6 (.t 74) (.t 75), none⟩, ⟨some 77, .lda 6 (.t 76), none⟩, ⟨some 78, .mv (.t 1), none⟩, ⟨some 79, .call false 15 [(.t 77), (.t 78)], none⟩, ⟨some 80, .bsl 12 (.agg [.int .i64 0, .int .i64 0, .int .i64 0, .int .i64 0, .int .i64 0, .int .i64 0, .int .i64 0, .int .i64 0, .lst [] true, .int .i64 0, .int .i64 0, .lst [] true]) 1 [(0, (.t 79))], none⟩, ⟨some 81, .app 12 128 false (.t 72) (.t 80), none⟩, ⟨some 8, .mv (.t 81), none⟩])) (.seq (.stmt [4, 5, 8, 84] [] (.reg [ ⟨some 82, .mv (.t 8), none⟩, ⟨some 83, .call false 44 [(.t 82)], none⟩, ⟨some 84, .un .not (.t 83), none⟩])) (.cond (.t 84) (.seq (.stmt [4, 5, 8] [] (.reg [ ⟨some 85, .fa 9 (.t 5), none⟩, ⟨none, .sts (.t 85) (.c (.int .i64 2)), none⟩])) (.reg [ ⟨some 86, .mv (.t 8), none⟩, ⟨some 87, .fa 11 (.t 5), none⟩, ⟨none, .sts (.t 87) (.t 86), none⟩])) (.skip))))))) (.skip)))) (.seq (.reg [ ⟨some 88, .lda 12 (.t 5), none⟩, ⟨none, .sta 12 (.t 4) (.t 88), none⟩]) (.ret)))))), [.ca 4 12]⟩
def a16 : AFunc := ⟨.seq (.reg [ ⟨some 1, .box (.t 0), none⟩, ⟨some 2, .alloc [.int .i64 0, .int .i64 0, .int .i64 0, .int .i64 0, .int .i64 0, .int .i64 0, .int .i64 0, .int .i64 0, .lst [] true, .int .i64 0, .int .i64 0, .lst [] true], none⟩]) (.seq (.prune [1, 2]) (.seq (.reg [ ⟨some 6, .fa 0 (.t 1), none⟩, ⟨some 7, .lda 6 (.t 6), none⟩, ⟨some 8, .fa 6 (.t 1), none⟩, ⟨some 9, .lds (.t 8), none⟩, ⟨some 10, .fa 7 (.t 1), none⟩, ⟨some 11, .lds (.t 10), none⟩, ⟨some 12, .fa 9 (.t 1), none⟩, ⟨some 13, .lds (.t 12), none⟩, ⟨some 14, .fa 10 (.t 1), none⟩, ⟨some 15, .lds (.t 14), none⟩, ⟨some 16, .build [.int .i64 0, .int .i64 0, .int .i64 0, .int .i64 0, .int .i64 0, .int .i64 0, .int .i64 0, .int .i64 0, .lst [] true, .int .i64 0, .int .i64 0, .lst [] true] [(0, 6, (.t 7)), (6, 1, (.t 9)), (7, 1, (.t 11)), (9, 1, (.t 13)), (10, 1, (.t 15))], none⟩, ⟨some 3, .alloc [.int .i64 0, .int .i64 0, .int .i64 0, .int .i64 0, .int .i64 0, .int .i64 0, .int .i64 0, .int .i64 0, .lst [] true, .int .i64 0, .int .i64 0, .lst [] true], none⟩, ⟨none, .sta 12 (.t 3) (.t 16), none⟩]) (.seq (.prune [1, 2, 3]) (.seq (.seq (.reg [ ⟨some 4, .mv (.c (.int .i64 0)), none⟩]) (.seq (.prune [1, 2, 3, 4]) (.block 0 (.seq (.own 3 (some 8)) (.loop [4, 1, 2, 3] (.seq (.seq (.reg [ ⟨some 17, .mv (.t 4), none⟩, ⟨some 18, .fa 8 (.t 1), none⟩, ⟨some 19, .lds (.t 18), none⟩, ⟨some 20, .len .slice (.t 19), none⟩, ⟨some 21, .bin .lss (.t 17) (.t 20), none⟩]) (.seq (.prune [1, 2, 3, 4, 21]) (.cond (.t 21) (.skip) (.exit 0)))) (.seq (.prune [1, 2, 3, 4]) (.seq (.block 1 (.draw 1 [ (⟨some 24, .fa 8 (.t 3), none⟩, 0, []), (⟨some 25, .lds (.t 24), none⟩, 0, [0]), (⟨some 26, .fa 8 (.t 1), none⟩, 0, []), (⟨some 27, .lds (.t 26), none⟩, 0, [2]), (⟨some 28, .mv (.t 4), none⟩, 0, []), (⟨some 29, .ia 12 (.t 27) (.t 28), none⟩, 0, [2, 3, 4]), (⟨some 30, .lda 12 (.t 29), none⟩, 0, [2, 3, 4, 5]), (⟨some 31, .call false 16 [(.t 30)], none⟩, 0, [2, 3, 4, 5, 6]), (⟨some 32, .bsl 12 (.agg [.int .i64 0, .int .i64 0, .int .i64 0, .int .i64 0, .int .i64 0, .int .i64 0, .int .i64 0, .int .i64 0, .lst [] true, .int .i64 0, .int .i64 0, .lst [] true]) 1 [(0, (.t 31))], none⟩, 0, [2, 3, 4, 5, 6, 7]), (⟨some 33, .app 12 128 false (.t 25) (.t 32), none⟩, 0, [0, 1, 2, 3, 4, 5, 6, 7, 8]), (⟨some 34, .fa 8 (.t 3), none⟩, 0, [0, 1, 2, 3, 4, 5, 6, 7, 8, 9]), (⟨none, .sts (.t 34) (.t 33), none⟩, 0, [0, 1, 2, 3, 4, 5, 6, 7, 8, 9, 10])])) (.seq (.prune [1, 2, 3, 4]) (.reg [ ⟨some 22, .mv (.t 4), none⟩, ⟨some 23, .bin .add (.t 22) (.c (.int .i64 1)), none⟩, ⟨some 4, .mv (.t 23), none⟩])))))))))) (.seq (.prune [1, 2, 3]) (.seq (.seq (.reg [ ⟨some 5, .mv (.c (.int .i64 0)), none⟩]) (.seq (.prune [1, 2, 3, 5]) (.block 2 (.seq (.own 3 (some 11)) (.loop [5, 1, 2, 3] (.seq (.seq (.reg [ ⟨some 35, .mv (.t 5), none⟩, ⟨some 36, .fa 11 (.t 1), none⟩, ⟨some 37, .lds (.t 36), none⟩, ⟨some 38, .len .slice (.t 37), none⟩, ⟨some 39, .bin .lss (.t 35) (.t 38), none⟩]) (.seq (.prune [1, 2, 3, 5, 39]) (.cond (.t 39) (.skip) (.exit 2)))) (.seq (.prune [1, 2, 3, 5]) (.seq (.block 3 (.draw 1 [ (⟨some 42, .fa 11 (.t 3), none⟩, 0, []), (⟨some 43, .lds (.t 42), none⟩, 0, [0]), (⟨some 44, .fa 11 (.t 1), none⟩, 0, []), (⟨some 45, .lds (.t 44), none⟩, 0, [2]), (⟨some 46, .mv (.t 5), none⟩, 0, []), (⟨some 47, .ia 12 (.t 45) (.t 46), none⟩, 0, [2, 3, 4]), (⟨some 48, .lda 12 (.t 47), none⟩, 0, [2, 3, 4, 5]), (⟨some 49, .call false 16 [(.t 48)], none⟩, 0, [2, 3, 4, 5, 6]), (⟨some 50, .bsl 12 (.agg [.int .i64 0, .int .i64 0, .int .i64 0, .int .i64 0, .int .i64 0, .int .i64 0, .int .i64 0, .int .i64 0, .lst [] true, .int .i64 0, .int .i64 0, .lst [] true]) 1 [(0, (.t 49))], none⟩, 0, [2, 3, 4, 5, 6, 7]), (⟨some 51, .app 12 128 false (.t 43) (.t 50), none⟩, 0, [0, 1, 2, 3, 4, 5, 6, 7, 8]), (⟨some 52, .fa 11 (.t 3), none⟩, 0, [0, 1, 2, 3, 4, 5, 6, 7, 8, 9]), (⟨none, .sts (.t 52) (.t 51), none⟩, 0, [0, 1, 2, 3, 4, 5, 6, 7, 8, 9, 10])])) (.seq (.prune [1, 2, 3, 5]) (.reg [ ⟨some 40, .mv (.t 5), none⟩, ⟨some 41, .bin .add (.t 40) (.c (.int .i64 1)), none⟩, ⟨some 5, .mv (.t 41), none⟩])))))))))) (.seq (.prune [2, 3]) (.seq (.reg [ ⟨some 53, .lda 12 (.t 3), none⟩, ⟨none, .sta 12 (.t 2) (.t 53), none⟩]) (.ret))))))))), [.ca 2 12]⟩
def a17 : AFunc := ⟨.seq (.reg [ ⟨some 1, .box (.t 0), none⟩, ⟨some 2, .mv (.c (.bool false)), none⟩]) (.seq (.prune [1]) (.seq (.reg [ ⟨some 3, .lda 12 (.t 1), none⟩, ⟨some 4, .call false 46 [(.t 3), (.c (.int .i64 25))], none⟩, ⟨some 2, .mv (.t 4), none⟩]) (.ret))), [.t 2]⟩
def a18 : AFunc := ⟨.seq (.reg [ ⟨some 2, .box (.t 0), none⟩, ⟨some 3, .box (.t 1), none⟩, ⟨some 4, .alloc [.int .i64 0, .int .i64 0, .int .i64 0, .int .i64 0, .int .i64 0, .int .i64 0, .int .i64 0, .int .i64 0, .lst [] true, .int .i64 0, .int .i64 0, .lst [] true], none⟩]) (.seq (.prune [2, 3, 4]) (.seq (.reg [ ⟨some 10, .lda 12 (.t 2), none⟩, ⟨some 5, .alloc [.int .i64 0, .int .i64 0, .int .i64 0, .int .i64 0, .int .i64 0, .int .i64 0, .int .i64 0, .int .i64 0, .lst [] true, .int .i64 0, .int .i64 0, .lst [] true], none⟩, ⟨none, .sta 12 (.t 5) (.t 10), none⟩]) (.seq (.prune [2, 3, 4, 5]) (.seq (.seq (.reg [ ⟨some 11, .mv (.c (.int .i64 0)), none⟩]) (.seq (.prune [2, 3, 4, 5, 11]) (.block 0 (.loop [11, 2, 3, 4, 5] (.seq (.reg [ ⟨some 12, .bin .lss (.t 11) (.c (.int .i64 6)), none⟩]) (.seq (.prune [2, 3, 4, 5, 11, 12]) (.seq (.cond (.t 12) (.skip) (.exit 0)) (.seq (.prune [2, 3, 4, 5, 11]) (.seq (.block 1 (.seq (.reg [ ⟨some 13, .mv (.t 11), none⟩, ⟨some 6, .mv (.t 13), none⟩]) (.seq (.prune [2, 3, 4, 5, 6, 11]) (.draw 0 [ (⟨some 14, .mv (.t 6), none⟩, 0, []), (⟨some 15, .mv (.t 6), none⟩, 0, []), (⟨some 16, .fa 0 (.t 2), none⟩, 0, []), (⟨some 17, .iaa 6 1 (.t 16) (.t 15), none⟩, 0, [1, 2]), (⟨some 18, .lds (.t 17), none⟩, 0, [1, 2, 3]), (⟨some 19, .mv (.t 6), none⟩, 0, []), (⟨some 20, .fa 0 (.t 3), none⟩, 0, []), (⟨some 21, .iaa 6 1 (.t 20) (.t 19), none⟩, 0, [5, 6]), (⟨some 22, .lds (.t 21), none⟩, 0, [5, 6, 7]), (⟨some 23, .bsl 1 (.int .i64 0) 2 [(0, (.t 18)), (1, (.t 22))], none⟩, 0, [1, 2, 3, 4, 5, 6, 7, 8]), (⟨some 24, .call false 47 [(.t 23)], none⟩, 0, [1, 2, 3, 4, 5, 6, 7, 8, 9]), (⟨some 25, .fa 0 (.t 5), none⟩, 0, []), (⟨some 26, .iaa 6 1 (.t 25) (.t 14), none⟩, 0, [0, 1, 2, 3, 4, 5, 6, 7, 8, 9, 10, 11]), (⟨none, .sts (.t 26) (.t 24), none⟩, 0, [0, 1, 2, 3, 4, 5, 6, 7, 8, 9, 10, 11, 12])])))) (.seq (.prune [2, 3, 4, 5, 11]) (.reg [ ⟨some 27, .bin .add (.t 11) (.c (.int .i64 1)), none⟩, ⟨some 11, .mv (.t 27), none⟩]))))))))))) (.seq (.prune [2, 3, 4, 5]) (.seq (.block 2 (.seq (.reg [ ⟨some 43, .fa 6 (.t 2), none⟩, ⟨some 44, .lds (.t 43), none⟩, ⟨some 45, .fa 6 (.t 3), none⟩, ⟨some 46, .lds (.t 45), none⟩, ⟨some 47, .call false 48 [(.t 44), (.t 46)], none⟩, ⟨some 42, .mv (.t 47), none⟩]) (.seq (.prune [2, 3, 4, 5, 42]) (.cond (.t 42) (.skip) (.seq (.reg [ ⟨some 49, .fa 6 (.t 3), none⟩, ⟨some 50, .lds (.t 49), none⟩, ⟨some 51, .bin .eql (.t 50) (.c (.int .i64 1)), none⟩, ⟨some 52, .mv (.t 51), none⟩, ⟨some 53, .fa 6 (.t 2), some (52, false)⟩, ⟨some 54, .lds (.t 53), some (52, false)⟩, ⟨some 55, .bin .eql (.t 54) (.c (.int .i64 0)), some (52, false)⟩, ⟨some 56, .pick (.t 52) (.c (.bool true)) (.t 55), none⟩, ⟨some 48, .mv (.t 56), none⟩]) (.seq (.prune [2, 3, 4, 5, 48]) (.cond (.t 48) (.draw 0 [ (⟨some 57, .fa 6 (.t 3), none⟩, 0, []), (⟨some 58, .lds (.t 57), none⟩, 0, [0]), (⟨some 59, .fa 7 (.t 3), none⟩, 0, []), (⟨some 60, .lds (.t 59), none⟩, 0, [2]), (⟨some 61, .fa 8 (.t 3), none⟩, 0, []), (⟨some 62, .lds (.t 61), none⟩, 0, [4]), (⟨some 63, .fa 6 (.t 5), none⟩, 0, [0, 1]), (⟨none, .sts (.t 63) (.t 58), none⟩, 0, [0, 1, 6]), (⟨some 64, .fa 7 (.t 5), none⟩, 0, [0, 1, 2, 3, 6, 7]), (⟨none, .sts (.t 64) (.t 60), none⟩, 0, [0, 1, 2, 3, 6, 7, 8]), (⟨some 65, .fa 8 (.t 5), none⟩, 0, [0, 1, 2, 3, 4, 5, 6, 7, 8, 9]), (⟨none, .sts (.t 65) (.t 62), none⟩, 0, [0, 1, 2, 3, 4, 5, 6, 7, 8, 9, 10])]) (.seq (.reg [ ⟨some 67, .fa 6 (.t 2), none⟩, ⟨some 68, .lds (.t 67), none⟩, ⟨some 69, .bin .eql (.t 68) (.c (.int .i64 3)), none⟩, ⟨some 70, .mv (.t 69), none⟩, ⟨some 71, .fa 6 (.t 3), some (70, true)⟩, ⟨some 72, .lds (.t 71), some (70, true)⟩, ⟨some 73, .bin .eql (.t 72) (.c (.int .i64 3)), some (70, true)⟩, ⟨some 74, .pick (.t 70) (.t 73) (.c (.bool false)), none⟩, ⟨some 66, .mv (.t 74), none⟩]) (.seq (.prune [2, 3, 4, 5, 66]) (.cond (.t 66) (.seq (.reg [ ⟨some 75, .fa 7 (.t 2), none⟩, ⟨some 76, .lds (.t 75), none⟩, ⟨some 77, .fa 7 (.t 3), none⟩, ⟨some 78, .lds (.t 77), none⟩, ⟨some 79, .bsl 1 (.int .i64 0) 2 [(0, (.t 76)), (1, (.t 78))], none⟩, ⟨some 80, .call false 47 [(.t 79)], none⟩, ⟨some 81, .fa 7 (.t 5), none⟩, ⟨none, .sts (.t 81) (.t 80), none⟩]) (.seq (.prune [2, 3, 4, 5]) (.draw 0 [ (⟨some 82, .lda 12 (.t 2), none⟩, 0, []), (⟨some 83, .call false 31 [(.t 82)], none⟩, 0, [0]), (⟨some 84, .lda 12 (.t 3), none⟩, 0, []), (⟨some 85, .call false 31 [(.t 84)], none⟩, 0, [0, 1, 2]), (⟨some 86, .call false 18 [(.t 83), (.t 85)], none⟩, 0, [0, 1, 2, 3]), (⟨some 87, .bsl 12 (.agg [.int .i64 0, .int .i64 0, .int .i64 0, .int .i64 0, .int .i64 0, .int .i64 0, .int .i64 0, .int .i64 0, .lst [] true, .int .i64 0, .int .i64 0, .lst [] true]) 1 [(0, (.t 86))], none⟩, 0, [0, 1, 2, 3, 4]), (⟨some 88, .fa 8 (.t 5), none⟩, 0, [0, 1, 2, 3, 4, 5]), (⟨none, .sts (.t 88) (.t 87), none⟩, 0, [0, 1, 2, 3, 4, 5, 6])]))) (.seq (.reg [ ⟨some 28, .fa 6 (.t 5), none⟩, ⟨none, .sts (.t 28) (.c (.int .i64 2)), none⟩, ⟨some 29, .fa 7 (.t 5), none⟩, ⟨none, .sts (.t 29) (.c (.int .i64 0)), none⟩]) (.seq (.prune [2, 3, 4, 5]) (.draw 0 [ (⟨some 30, .lda 12 (.t 2), none⟩, 0, []), (⟨some 31, .call false 31 [(.t 30)], none⟩, 0, [0]), (⟨some 32, .lda 12 (.t 3), none⟩, 0, []), (⟨some 33, .call false 31 [(.t 32)], none⟩, 0, [0, 1, 2]), (⟨some 34, .call false 18 [(.t 31), (.t 33)], none⟩, 0, [0, 1, 2, 3]), (⟨some 35, .lda 12 (.t 2), none⟩, 0, []), (⟨some 36, .call false 33 [(.t 35)], none⟩, 0, [0, 1, 2, 3, 4, 5]), (⟨some 37, .lda 12 (.t 3), none⟩, 0, []), (⟨some 38, .call false 33 [(.t 37)], none⟩, 0, [0, 1, 2, 3, 4, 5, 6, 7]), (⟨some 39, .call false 18 [(.t 36), (.t 38)], none⟩, 0, [0, 1, 2, 3, 4, 5, 6, 7, 8]), (⟨some 40, .bsl 12 (.agg [.int .i64 0, .int .i64 0, .int .i64 0, .int .i64 0, .int .i64 0, .int .i64 0, .int .i64 0, .int .i64 0, .lst [] true, .int .i64 0, .int .i64 0, .lst [] true]) 2 [(0, (.t 34)), (1, (.t 39))], none⟩, 0, [0, 1, 2, 3, 4, 5, 6, 7, 8, 9]), (⟨some 41, .fa 8 (.t 5), none⟩, 0, [0, 1, 2, 3, 4, 5, 6, 7, 8, 9, 10]), (⟨none, .sts (.t 41) (.t 40), none⟩, 0, [0, 1, 2, 3, 4, 5, 6, 7, 8, 9, 10, 11])]))))))))))))) (.seq (.prune [2, 3, 4, 5]) (.seq (.block 3 (.seq (.reg [ ⟨some 124, .fa 9 (.t 2), none⟩, ⟨some 125, .lds (.t 124), none⟩, ⟨some 126, .fa 9 (.t 3), none⟩, ⟨some 127, .lds (.t 126), none⟩, ⟨some 128, .call false 48 [(.t 125), (.t 127)], none⟩, ⟨some 123, .mv (.t 128), none⟩]) (.seq (.prune [2, 3, 4, 5, 123]) (.cond (.t 123) (.skip) (.seq (.reg [ ⟨some 130, .fa 9 (.t 3), none⟩, ⟨some 131, .lds (.t 130), none⟩, ⟨some 132, .bin .eql (.t 131) (.c (.int .i64 1)), none⟩, ⟨some 133, .mv (.t 132), none⟩, ⟨some 134, .fa 9 (.t 2), some (133, false)⟩, ⟨some 135, .lds (.t 134), some (133, false)⟩, ⟨some 136, .bin .eql (.t 135) (.c (.int .i64 0)), some (133, false)⟩, ⟨some 137, .pick (.t 133) (.c (.bool true)) (.t 136), none⟩, ⟨some 129, .mv (.t 137), none⟩]) (.seq (.prune [2, 3, 4, 5, 129]) (.cond (.t 129) (.draw 0 [ (⟨some 138, .fa 9 (.t 3), none⟩, 0, []), (⟨some 139, .lds (.t 138), none⟩, 0, [0]), (⟨some 140, .fa 10 (.t 3), none⟩, 0, []), (⟨some 141, .lds (.t 140), none⟩, 0, [2]), (⟨some 142, .fa 11 (.t 3), none⟩, 0, []), (⟨some 143, .lds (.t 142), none⟩, 0, [4]), (⟨some 144, .fa 9 (.t 5), none⟩, 0, [0, 1]), (⟨none, .sts (.t 144) (.t 139), none⟩, 0, [0, 1, 6]), (⟨some 145, .fa 10 (.t 5), none⟩, 0, [0, 1, 2, 3, 6, 7]), (⟨none, .sts (.t 145) (.t 141), none⟩, 0, [0, 1, 2, 3, 6, 7, 8]), (⟨some 146, .fa 11 (.t 5), none⟩, 0, [0, 1, 2, 3, 4, 5, 6, 7, 8, 9]), (⟨none, .sts (.t 146) (.t 143), none⟩, 0, [0, 1, 2, 3, 4, 5, 6, 7, 8, 9, 10])]) (.seq (.reg [ ⟨some 148, .fa 9 (.t 2), none⟩, ⟨some 149, .lds (.t 148), none⟩, ⟨some 150, .bin .eql (.t 149) (.c (.int .i64 3)), none⟩, ⟨some 151, .mv (.t 150), none⟩, ⟨some 152, .fa 9 (.t 3), some (151, false)⟩, ⟨some 153, .lds (.t 152), some (151, false)⟩, ⟨some 154, .bin .eql (.t 153) (.c (.int .i64 3)), some (151, false)⟩, ⟨some 155, .pick (.t 151) (.c (.bool true)) (.t 154), none⟩, ⟨some 156, .mv (.t 155), none⟩, ⟨some 157, .fa 11 (.t 2), some (156, false)⟩, ⟨some 158, .lds (.t 157), some (156, false)⟩, ⟨some 159, .len .slice (.t 158), some (156, false)⟩, ⟨some 160, .fa 11 (.t 3), some (156, false)⟩, ⟨some 161, .lds (.t 160), some (156, false)⟩, ⟨some 162, .len .slice (.t 161), some (156, false)⟩, ⟨some 163, .bin .neq (.t 159) (.t 162), some (156, false)⟩, ⟨some 164, .pick (.t 156) (.c (.bool true)) (.t 163), none⟩, ⟨some 147, .mv (.t 164), none⟩]) (.seq (.prune [2, 3, 4, 5, 147]) (.cond (.t 147) (.reg [ ⟨some 165, .fa 9 (.t 5), none⟩, ⟨none, .sts (.t 165) (.c (.int .i64 3)), none⟩, ⟨some 166, .fa 11 (.t 5), none⟩, ⟨none, .sts (.t 166) (.c (.lst [] true)), none⟩]) (.seq (.reg [ ⟨some 89, .fa 11 (.t 5), none⟩, ⟨none, .sts (.t 89) (.c (.lst [] true)), none⟩]) (.seq (.prune [2, 3, 4, 5]) (.seq (.reg [ ⟨some 90, .fa 11 (.t 2), none⟩, ⟨some 91, .lds (.t 90), none⟩, ⟨some 92, .len .slice (.t 91), none⟩, ⟨some 93, .mv (.c (.int .i64 0)), none⟩]) (.seq (.prune [2, 3, 4, 5, 92, 93]) (.block 4 (.seq (.own 5 (some 11)) (.loop [93, 2, 3, 4, 5, 92] (.seq (.reg [ ⟨some 94, .bin .lss (.t 93) (.t 92), none⟩]) (.seq (.prune [2, 3, 4, 5, 92, 93, 94]) (.seq (.cond (.t 94) (.skip) (.exit 4)) (.seq (.prune [2, 3, 4, 5, 92, 93]) (.seq (.block 5 (.seq (.reg [ ⟨some 95, .mv (.t 93), none⟩, ⟨some 7, .mv (.t 95), none⟩]) (.seq (.prune [2, 3, 4, 5, 7, 92, 93]) (.seq (.draw 2 [ (⟨some 96, .fa 11 (.t 3), none⟩, 0, []), (⟨some 97, .lds (.t 96), none⟩, 0, [0]), (⟨some 98, .mv (.t 7), none⟩, 0, []), (⟨some 99, .ia 12 (.t 97) (.t 98), none⟩, 0, [0, 1, 2]), (⟨some 100, .lda 12 (.t 99), none⟩, 0, [0, 1, 2, 3]), (⟨some 101, .fa 11 (.t 2), none⟩, 0, []), (⟨some 102, .lds (.t 101), none⟩, 0, [5]), (⟨some 103, .mv (.t 7), none⟩, 0, []), (⟨some 104, .ia 12 (.t 102) (.t 103), none⟩, 0, [5, 6, 7]), (⟨some 105, .lda 12 (.t 104), none⟩, 0, [5, 6, 7, 8]), (⟨some 8, .alloc [.int .i64 0, .int .i64 0, .int .i64 0, .int .i64 0, .int .i64 0, .int .i64 0, .int .i64 0, .int .i64 0, .lst [] true, .int .i64 0, .int .i64 0, .lst [] true], none⟩, 0, []), (⟨some 9, .alloc [.int .i64 0, .int .i64 0, .int .i64 0, .int .i64 0, .int .i64 0, .int .i64 0, .int .i64 0, .int .i64 0, .lst [] true, .int .i64 0, .int .i64 0, .lst [] true], none⟩, 1, []), (⟨none, .sta 12 (.t 8) (.t 100), none⟩, 0, [0, 1, 2, 3, 4, 10, 11]), (⟨none, .sta 12 (.t 9) (.t 105), none⟩, 0, [0, 1, 2, 3, 4, 5, 6, 7, 8, 9, 10, 11, 12])]) (.seq (.prune [2, 3, 4, 5, 7, 8, 9, 92, 93]) (.seq (.seq (.reg [ ⟨some 106, .mv (.t 7), none⟩, ⟨some 107, .fa 11 (.t 2), none⟩, ⟨some 108, .lds (.t 107), none⟩, ⟨some 109, .len .slice (.t 108), none⟩, ⟨some 110, .bin .sub (.t 109) (.c (.int .i64 1)), none⟩, ⟨some 111, .bin .eql (.t 106) (.t 110), none⟩]) (.seq (.prune [2, 3, 4, 5, 8, 9, 92, 93, 111]) (.cond (.t 111) (.reg [ ⟨some 112, .lda 12 (.t 9), none⟩, ⟨some 113, .lda 12 (.t 8), none⟩, ⟨none, .sta 12 (.t 8) (.t 112), none⟩, ⟨none, .sta 12 (.t 9) (.t 113), none⟩]) (.skip)))) (.seq (.prune [2, 3, 4, 5, 8, 9, 92, 93]) (.draw 1 [ (⟨some 114, .fa 11 (.t 5), none⟩, 0, []), (⟨some 115, .lds (.t 114), none⟩, 0, [0]), (⟨some 116, .lda 12 (.t 8), none⟩, 0, []), (⟨some 117, .lda 12 (.t 9), none⟩, 0, []), (⟨some 118, .call false 18 [(.t 116), (.t 117)], none⟩, 0, [2, 3]), (⟨some 119, .bsl 12 (.agg [.int .i64 0, .int .i64 0, .int .i64 0, .int .i64 0, .int .i64 0, .int .i64 0, .int .i64 0, .int .i64 0, .lst [] true, .int .i64 0, .int .i64 0, .lst [] true]) 1 [(0, (.t 118))], none⟩, 0, [2, 3, 4]), (⟨some 120, .app 12 128 false (.t 115) (.t 119), none⟩, 0, [0, 1, 2, 3, 4, 5]), (⟨some 121, .fa 11 (.t 5), none⟩, 0, [0, 1, 2, 3, 4, 5, 6]), (⟨none, .sts (.t 121) (.t 120), none⟩, 0, [0, 1, 2, 3, 4, 5, 6, 7])])))))))) (.seq (.prune [2, 3, 4, 5, 92, 93]) (.reg [ ⟨some 122, .bin .add (.t 93) (.c (.int .i64 1)), none⟩, ⟨some 93, .mv (.t 122), none⟩])))))))))))))))))))))))) (.seq (.prune [4, 5]) (.seq (.reg [ ⟨some 167, .lda 12 (.t 5), none⟩, ⟨none, .sta 12 (.t 4) (.t 167), none⟩]) (.ret))))))))))), [.ca 4 12]⟩
def a19 : AFunc := ⟨.seq (.stmt [2, 3, 4] [] (.reg [ ⟨some 2, .box (.t 0), none⟩, ⟨some 3, .box (.t 1), none⟩, ⟨some 4, .alloc [.int .i64 0, .int .i64 0, .int .i64 0, .int .i64 0, .int .i64 0, .int .i64 0, .int .i64 0, .int .i64 0, .lst [] true, .int .i64 0, .int .i64 0, .lst [] true], none⟩])) (.seq (.stmt [2, 3, 4, 5] [] (.reg [ ⟨some 11, .build [.int .i64 0, .int .i64 0, .int .i64 0, .int .i64 0, .int .i64 0, .int .i64 0, .int .i64 0, .int .i64 0, .lst [] true, .int .i64 0, .int .i64 0, .lst [] true] [], none⟩, ⟨some 5, .alloc [.int .i64 0, .int .i64 0, .int .i64 0, .int .i64 0, .int .i64 0, .int .i64 0, .int .i64 0, .int .i64 0, .lst [] true, .int .i64 0, .int .i64 0, .lst [] true], none⟩, ⟨none, .sta 12 (.t 5) (.t 11), none⟩])) (.seq (.stmt [2, 3, 4, 5] [] (.seq (.stmt [2, 3, 4, 5, 6] [] (.reg [ ⟨some 6, .mv (.c (.int .i64 0)), none⟩])) (.block 0 (.loop [6, 2, 3, 4, 5] (.seq (.stmt [2, 3, 4, 5, 6] [] (.seq (.stmt [2, 3, 4, 5, 6, 13] [] (.reg [ ⟨some 12, .mv (.t 6), none⟩, ⟨some 13, .bin .lss (.t 12) (.c (.int .i64 6)), none⟩])) (.cond (.t 13) (.skip) (.exit 0)))) (.seq (.stmt [2, 3, 4, 5, 6] [] (.block 1 (.draw 0 [ (⟨some 16, .mv (.t 6), none⟩, 0, []), (⟨some 17, .mv (.t 6), none⟩, 0, []), (⟨some 18, .fa 0 (.t 2), none⟩, 0, []), (⟨some 19, .iaa 6 1 (.t 18) (.t 17), none⟩, 0, [1, 2]), (⟨some 20, .lds (.t 19), none⟩, 0, [1, 2, 3]), (⟨some 21, .mv (.t 6), none⟩, 0, []), (⟨some 22, .fa 0 (.t 3), none⟩, 0, []), (⟨some 23, .iaa 6 1 (.t 22) (.t 21), none⟩, 0, [5, 6]), (⟨some 24, .lds (.t 23), none⟩, 0, [5, 6, 7]), (⟨some 25, .call false 49 [(.t 20), (.t 24)], none⟩, 0, [1, 2, 3, 4, 5, 6, 7, 8]), (⟨some 26, .fa 0 (.t 5), none⟩, 0, []), (⟨some 27, .iaa 6 1 (.t 26) (.t 16), none⟩, 0, [0, 1, 2, 3, 4, 5, 6, 7, 8, 9, 10]), (⟨none, .sts (.t 27) (.t 25), none⟩, 0, [0, 1, 2, 3, 4, 5, 6, 7, 8, 9, 10, 11])]))) (.reg [ ⟨some 14, .mv (.t 6), none⟩, ⟨some 15, .bin .add (.t 14) (.c (.int .i64 1)), none⟩, ⟨some 6, .mv (.t 15), none⟩]))))))) (.seq (.stmt [2, 3, 4, 5, 7] [] (.reg [ ⟨some 28, .lda 12 (.t 2), none⟩, ⟨some 7, .alloc [.int .i64 0, .int .i64 0, .int .i64 0, .int .i64 0, .int .i64 0, .int .i64 0, .int .i64 0, .int .i64 0, .lst [] true, .int .i64 0, .int .i64 0, .lst [] true], none⟩, ⟨none, .sta 12 (.t 7) (.t 28), none⟩])) (.seq (.stmt [2, 3, 4, 5, 7] [] (.seq (.stmt [2, 3, 4, 5, 7, 36] [] (.reg [ ⟨some 29, .fa 6 (.t 2), none⟩, ⟨some 30, .lds (.t 29), none⟩, ⟨some 31, .bin .neq (.t 30) (.c (.int .i64 1)), none⟩, ⟨some 32, .mv (.t 31), none⟩, ⟨some 33, .fa 6 (.t 3), some (32, true)⟩, ⟨some 34, .lds (.t 33), some (32, true)⟩, ⟨some 35, .bin .neq (.t 34) (.c (.int .i64 0)), some (32, true)⟩, ⟨some 36, .pick (.t 32) (.t 35) (.c (.bool false)), none⟩])) (.cond (.t 36) (.reg [ ⟨some 37, .lda 12 (.t 3), none⟩, ⟨none, .sta 12 (.t 7) (.t 37), none⟩]) (.skip)))) (.seq (.stmt [2, 3, 4, 5, 7] [] (.reg [ ⟨some 38, .fa 6 (.t 7), none⟩, ⟨some 39, .lds (.t 38), none⟩, ⟨some 40, .fa 6 (.t 5), none⟩, ⟨none, .sts (.t 40) (.t 39), none⟩])) (.seq (.stmt [2, 3, 4, 5, 7] [] (.reg [ ⟨some 41, .fa 7 (.t 7), none⟩, ⟨some 42, .lds (.t 41), none⟩, ⟨some 43, .fa 7 (.t 5), none⟩, ⟨none, .sts (.t 43) (.t 42), none⟩])) (.seq (.stmt [2, 3, 4, 5] [] (.reg [ ⟨some 44, .fa 8 (.t 7), none⟩, ⟨some 45, .lds (.t 44), none⟩, ⟨some 46, .fa 8 (.t 5), none⟩, ⟨none, .sts (.t 46) (.t 45), none⟩])) (.seq (.stmt [2, 3, 4, 5] [(5, some 8)] (.seq (.stmt [2, 3, 4, 5, 54] [] (.reg [ ⟨some 47, .fa 6 (.t 2), none⟩, ⟨some 48, .lds (.t 47), none⟩, ⟨some 49, .bin .geq (.t 48) (.c (.int .i64 2)), none⟩, ⟨some 50, .mv (.t 49), none⟩, ⟨some 51, .fa 6 (.t 3), some (50, true)⟩, ⟨some 52, .lds (.t 51), some (50, true)⟩, ⟨some 53, .bin .geq (.t 52) (.c (.int .i64 2)), some (50, true)⟩, ⟨some 54, .pick (.t 50) (.t 53) (.c (.bool false)), none⟩])) (.cond (.t 54) (.seq (.stmt [2, 3, 4, 5] [] (.reg [ ⟨some 55, .fa 7 (.t 5), none⟩, ⟨none, .sts (.t 55) (.c (.int .i64 0)), none⟩])) (.seq (.stmt [2, 3, 4, 5] [] (.reg [ ⟨some 56, .fa 6 (.t 5), none⟩, ⟨none, .sts (.t 56) (.c (.int .i64 2)), none⟩])) (.seq (.stmt [2, 3, 4, 5] [] (.draw 0 [ (⟨some 57, .lda 12 (.t 2), none⟩, 0, []), (⟨some 58, .call false 32 [(.t 57)], none⟩, 0, [0]), (⟨some 59, .lda 12 (.t 3), none⟩, 0, []), (⟨some 60, .call false 32 [(.t 59)], none⟩, 0, [0, 1, 2]), (⟨some 61, .call false 19 [(.t 58), (.t 60)], none⟩, 0, [0, 1, 2, 3]), (⟨some 62, .bsl 12 (.agg [.int .i64 0, .int .i64 0, .int .i64 0, .int .i64 0, .int .i64 0, .int .i64 0, .int .i64 0, .int .i64 0, .lst [] true, .int .i64 0, .int .i64 0, .lst [] true]) 1 [(0, (.t 61))], none⟩, 0, [0, 1, 2, 3, 4]), (⟨some 63, .fa 8 (.t 5), none⟩, 0, [0, 1, 2, 3, 4, 5]), (⟨none, .sts (.t 63) (.t 62), none⟩, 0, [0, 1, 2, 3, 4, 5, 6])])) (.seq (.stmt [2, 3, 4, 5, 71] [] (.reg [ ⟨some 64, .fa 6 (.t 2), none⟩, ⟨some 65, .lds (.t 64), none⟩, ⟨some 66, .bin .eql (.t 65) (.c (.int .i64 3)), none⟩, ⟨some 67, .mv (.t 66), none⟩, ⟨some 68, .fa 6 (.t 3), some (67, true)⟩, ⟨some 69, .lds (.t 68), some (67, true)⟩, ⟨some 70, .bin .eql (.t 69) (.c (.int .i64 3)), some (67, true)⟩, ⟨some 71, .pick (.t 67) (.t 70) (.c (.bool false)), none⟩])) (.cond (.t 71) (.seq (.stmt [2, 3, 4, 5] [] (.reg [ ⟨some 72, .fa 6 (.t 5), none⟩, ⟨none, .sts (.t 72) (.c (.int .i64 3)), none⟩])) (.reg [ ⟨some 73, .fa 7 (.t 2), none⟩, ⟨some 74, .lds (.t 73), none⟩, ⟨some 75, .fa 7 (.t 3), none⟩, ⟨some 76, .lds (.t 75), none⟩, ⟨some 77, .call false 49 [(.t 74), (.t 76)], none⟩, ⟨some 78, .fa 7 (.t 5), none⟩, ⟨none, .sts (.t 78) (.t 77), none⟩])) (.draw 1 [ (⟨some 79, .fa 8 (.t 5), none⟩, 0, []), (⟨some 80, .lds (.t 79), none⟩, 0, [0]), (⟨some 81, .lda 12 (.t 2), none⟩, 0, []), (⟨some 82, .call false 34 [(.t 81)], none⟩, 0, [2]), (⟨some 83, .lda 12 (.t 3), none⟩, 0, []), (⟨some 84, .call false 34 [(.t 83)], none⟩, 0, [2, 3, 4]), (⟨some 85, .call false 19 [(.t 82), (.t 84)], none⟩, 0, [2, 3, 4, 5]), (⟨some 86, .bsl 12 (.agg [.int .i64 0, .int .i64 0, .int .i64 0, .int .i64 0, .int .i64 0, .int .i64 0, .int .i64 0, .int .i64 0, .lst [] true, .int .i64 0, .int .i64 0, .lst [] true]) 1 [(0, (.t 85))], none⟩, 0, [2, 3, 4, 5, 6]), (⟨some 87, .app 12 128 false (.t 80) (.t 86), none⟩, 0, [0, 1, 2, 3, 4, 5, 6, 7]), (⟨some 88, .fa 8 (.t 5), none⟩, 0, [0, 1, 2, 3, 4, 5, 6, 7, 8]), (⟨none, .sts (.t 88) (.t 87), none⟩, 0, [0, 1, 2, 3, 4, 5, 6, 7, 8, 9])])))))) (.skip)))) (.seq (.stmt [2, 3, 4, 5, 8] [] (.reg [ ⟨some 89, .lda 12 (.t 2), none⟩, ⟨some 8, .alloc [.int .i64 0, .int .i64 0, .int .i64 0, .int .i64 0, .int .i64 0, .int .i64 0, .int .i64 0, .int .i64 0, .lst [] true, .int .i64 0, .int .i64 0, .lst [] true], none⟩, ⟨none, .sta 12 (.t 8) (.t 89), none⟩])) (.seq (.stmt [2, 3, 4, 5, 8] [] (.seq (.stmt [2, 3, 4, 5, 8, 97] [] (.reg [ ⟨some 90, .fa 9 (.t 2), none⟩, ⟨some 91, .lds (.t 90), none⟩, ⟨some 92, .bin .neq (.t 91) (.c (.int .i64 1)), none⟩, ⟨some 93, .mv (.t 92), none⟩, ⟨some 94, .fa 9 (.t 3), some (93, true)⟩, ⟨some 95, .lds (.t 94), some (93, true)⟩, ⟨some 96, .bin .neq (.t 95) (.c (.int .i64 0)), some (93, true)⟩, ⟨some 97, .pick (.t 93) (.t 96) (.c (.bool false)), none⟩])) (.cond (.t 97) (.reg [ ⟨some 98, .lda 12 (.t 3), none⟩, ⟨none, .sta 12 (.t 8) (.t 98), none⟩]) (.skip)))) (.seq (.stmt [2, 3, 4, 5, 8] [] (.reg [ ⟨some 99, .fa 9 (.t 8), none⟩, ⟨some 100, .lds (.t 99), none⟩, ⟨some 101, .fa 9 (.t 5), none⟩, ⟨none, .sts (.t 101) (.t 100), none⟩])) (.seq (.stmt [2, 3, 4, 5, 8] [] (.reg [ ⟨some 102, .fa 10 (.t 8), none⟩, ⟨some 103, .lds (.t 102), none⟩, ⟨some 104, .fa 10 (.t 5), none⟩, ⟨none, .sts (.t 104) (.t 103), none⟩])) (.seq (.stmt [2, 3, 4, 5] [] (.reg [ ⟨some 105, .fa 11 (.t 8), none⟩, ⟨some 106, .lds (.t 105), none⟩, ⟨some 107, .fa 11 (.t 5), none⟩, ⟨none, .sts (.t 107) (.t 106), none⟩])) (.seq (.stmt [4, 5] [(5, some 11)] (.seq (.stmt [2, 3, 4, 5, 115] [] (.reg [ ⟨some 108, .fa 9 (.t 2), none⟩, ⟨some 109, .lds (.t 108), none⟩, ⟨some 110, .bin .geq (.t 109) (.c (.int .i64 2)), none⟩, ⟨some 111, .mv (.t 110), none⟩, ⟨some 112, .fa 9 (.t 3), some (111, true)⟩, ⟨some 113, .lds (.t 112), some (111, true)⟩, ⟨some 114, .bin .geq (.t 113) (.c (.int .i64 2)), some (111, true)⟩, ⟨some 115, .pick (.t 111) (.t 114) (.c (.bool false)), none⟩])) (.cond (.t 115) (.seq (.stmt [2, 3, 4, 5] [] (.reg [ ⟨some 116, .fa 9 (.t 5), none⟩, ⟨none, .sts (.t 116) (.c (.int .i64 3)), none⟩])) (.seq (.stmt [2, 3, 4, 5] [] (.reg [ ⟨some 117, .fa 11 (.t 5), none⟩, ⟨none, .sts (.t 117) (.c (.lst [] true)), none⟩])) (.seq (.stmt [2, 3, 4, 5, 134] [] (.reg [ ⟨some 118, .fa 9 (.t 2), none⟩, ⟨some 119, .lds (.t 118), none⟩, ⟨some 120, .bin .eql (.t 119) (.c (.int .i64 2)), none⟩, ⟨some 121, .mv (.t 120), none⟩, ⟨some 122, .fa 9 (.t 3), some (121, true)⟩, ⟨some 123, .lds (.t 122), some (121, true)⟩, ⟨some 124, .bin .eql (.t 123) (.c (.int .i64 2)), some (121, true)⟩, ⟨some 125, .pick (.t 121) (.t 124) (.c (.bool false)), none⟩, ⟨some 126, .mv (.t 125), none⟩, ⟨some 127, .fa 11 (.t 2), some (126, true)⟩, ⟨some 128, .lds (.t 127), some (126, true)⟩, ⟨some 129, .len .slice (.t 128), some (126, true)⟩, ⟨some 130, .fa 11 (.t 3), some (126, true)⟩, ⟨some 131, .lds (.t 130), some (126, true)⟩, ⟨some 132, .len .slice (.t 131), some (126, true)⟩, ⟨some 133, .bin .eql (.t 129) (.t 132), some (126, true)⟩, ⟨some 134, .pick (.t 126) (.t 133) (.c (.bool false)), none⟩])) (.cond (.t 134) (.seq (.stmt [2, 3, 4, 5] [] (.reg [ ⟨some 135, .fa 9 (.t 5), none⟩, ⟨none, .sts (.t 135) (.c (.int .i64 2)), none⟩])) (.seq (.stmt [2, 3, 4, 5, 9] [] (.reg [ ⟨some 136, .fa 11 (.t 2), none⟩, ⟨some 137, .lds (.t 136), none⟩, ⟨some 138, .len .slice (.t 137), none⟩, ⟨some 139, .bin .sub (.t 138) (.c (.int .i64 1)), none⟩, ⟨some 9, .mv (.t 139), none⟩])) (.seq (.stmt [2, 3, 4, 5, 9] [] (.seq (.stmt [2, 3, 4, 5, 9, 10] [] (.reg [ ⟨some 10, .mv (.c (.int .i64 0)), none⟩])) (.block 2 (.seq (.own 5 (some 11)) (.loop [10, 2, 3, 4, 5, 9] (.seq (.stmt [2, 3, 4, 5, 9, 10] [] (.seq (.stmt [2, 3, 4, 5, 9, 10, 142] [] (.reg [ ⟨some 140, .mv (.t 10), none⟩, ⟨some 141, .mv (.t 9), none⟩, ⟨some 142, .bin .lss (.t 140) (.t 141), none⟩])) (.cond (.t 142) (.skip) (.exit 2)))) (.seq (.stmt [2, 3, 4, 5, 9, 10] [] (.block 3 (.draw 1 [ (⟨some 145, .fa 11 (.t 5), none⟩, 0, []), (⟨some 146, .lds (.t 145), none⟩, 0, [0]), (⟨some 147, .fa 11 (.t 3), none⟩, 0, []), (⟨some 148, .lds (.t 147), none⟩, 0, [2]), (⟨some 149, .mv (.t 10), none⟩, 0, []), (⟨some 150, .ia 12 (.t 148) (.t 149), none⟩, 0, [2, 3, 4]), (⟨some 151, .lda 12 (.t 150), none⟩, 0, [2, 3, 4, 5]), (⟨some 152, .fa 11 (.t 2), none⟩, 0, []), (⟨some 153, .lds (.t 152), none⟩, 0, [7]), (⟨some 154, .mv (.t 10), none⟩, 0, []), (⟨some 155, .ia 12 (.t 153) (.t 154), none⟩, 0, [7, 8, 9]), (⟨some 156, .lda 12 (.t 155), none⟩, 0, [7, 8, 9, 10]), (⟨some 157, .call false 19 [(.t 151), (.t 156)], none⟩, 0, [2, 3, 4, 5, 6, 7, 8, 9, 10, 11]), (⟨some 158, .bsl 12 (.agg [.int .i64 0, .int .i64 0, .int .i64 0, .int .i64 0, .int .i64 0, .int .i64 0, .int .i64 0, .int .i64 0, .lst [] true, .int .i64 0, .int .i64 0, .lst [] true]) 1 [(0, (.t 157))], none⟩, 0, [2, 3, 4, 5, 6, 7, 8, 9, 10, 11, 12]), (⟨some 159, .app 12 128 false (.t 146) (.t 158), none⟩, 0, [0, 1, 2, 3, 4, 5, 6, 7, 8, 9, 10, 11, 12, 13]), (⟨some 160, .fa 11 (.t 5), none⟩, 0, [0, 1, 2, 3, 4, 5, 6, 7, 8, 9, 10, 11, 12, 13, 14]), (⟨none, .sts (.t 160) (.t 159), none⟩, 0, [0, 1, 2, 3, 4, 5, 6, 7, 8, 9, 10, 11, 12, 13, 14, 15])]))) (.reg [ ⟨some 143, .mv (.t 10), none⟩, ⟨some 144, .bin .add (.t 143) (.c (.int .i64 1)), none⟩, ⟨some 10, .mv (.t 144), none⟩])))))))) (.draw 1 [ (⟨some 161, .fa 11 (.t 5), none⟩, 0, []), (⟨some 162, .lds (.t 161), none⟩, 0, [0]), (⟨some 163, .fa 11 (.t 2), none⟩, 0, []), (⟨some 164, .lds (.t 163), none⟩, 0, [2]), (⟨some 165, .mv (.t 9), none⟩, 0, []), (⟨some 166, .ia 12 (.t 164) (.t 165), none⟩, 0, [2, 3, 4]), (⟨some 167, .lda 12 (.t 166), none⟩, 0, [2, 3, 4, 5]), (⟨some 168, .fa 11 (.t 3), none⟩, 0, []), (⟨some 169, .lds (.t 168), none⟩, 0, [7]), (⟨some 170, .mv (.t 9), none⟩, 0, []), (⟨some 171, .ia 12 (.t 169) (.t 170), none⟩, 0, [7, 8, 9]), (⟨some 172, .lda 12 (.t 171), none⟩, 0, [7, 8, 9, 10]), (⟨some 173, .call false 19 [(.t 167), (.t 172)], none⟩, 0, [2, 3, 4, 5, 6, 7, 8, 9, 10, 11]), (⟨some 174, .bsl 12 (.agg [.int .i64 0, .int .i64 0, .int .i64 0, .int .i64 0, .int .i64 0, .int .i64 0, .int .i64 0, .int .i64 0, .lst [] true, .int .i64 0, .int .i64 0, .lst [] true]) 1 [(0, (.t 173))], none⟩, 0, [2, 3, 4, 5, 6, 7, 8, 9, 10, 11, 12]), (⟨some 175, .app 12 128 false (.t 162) (.t 174), none⟩, 0, [0, 1, 2, 3, 4, 5, 6, 7, 8, 9, 10, 11, 12, 13]), (⟨some 176, .fa 11 (.t 5), none⟩, 0, [0, 1, 2, 3, 4, 5, 6, 7, 8, 9, 10, 11, 12, 13, 14]), (⟨none, .sts (.t 176) (.t 175), none⟩, 0, [0, 1, 2, 3, 4, 5, 6, 7, 8, 9, 10, 11, 12, 13, 14, 15])])))) (.skip))))) (.skip)))) (.seq (.reg [ ⟨some 177, .lda 12 (.t 5), none⟩, ⟨none, .sta 12 (.t 4) (.t 177), none⟩]) (.ret)))))))))))))))), [.ca 4 12]⟩
def a20 : AFunc := ⟨.seq (.reg [ ⟨some 1, .box (.t 0), none⟩, ⟨some 2, .mv (.c (.bool false)), none⟩]) (.seq (.prune [1]) (.seq (.reg [ ⟨some 3, .lda 12 (.t 1), none⟩, ⟨some 4, .call false 50 [(.t 3), (.c (.int .i64 25))], none⟩, ⟨some 2, .mv (.t 4), none⟩]) (.ret))), [.t 2]⟩
def a21 : AFunc := ⟨.seq (.reg [ ⟨some 1, .box (.t 0), none⟩, ⟨some 2, .mv (.c (.int .i64 0)), none⟩]) (.seq (.prune [1]) (.seq (.reg [ ⟨some 3, .mv (.c (.int .i64 0)), none⟩]) (.seq (.prune [1, 3]) (.seq (.seq (.reg [ ⟨some 6, .fa 8 (.t 1), none⟩, ⟨some 7, .lds (.t 6), none⟩, ⟨some 8, .fa 11 (.t 1), none⟩, ⟨some 9, .lds (.t 8), none⟩, ⟨some 10, .bsl 1 (.lst [] true) 2 [(0, (.t 7)), (1, (.t 9))], none⟩, ⟨some 11, .call false 51 [(.t 10)], none⟩, ⟨some 12, .len .slice (.t 11), none⟩, ⟨some 13, .mv (.c (.int .i64 0)), none⟩]) (.seq (.prune [3, 11, 12, 13]) (.block 0 (.loop [3, 13, 11, 12] (.seq (.reg [ ⟨some 14, .bin .lss (.t 13) (.t 12), none⟩]) (.seq (.prune [3, 11, 12, 13, 14]) (.seq (.cond (.t 14) (.skip) (.exit 0)) (.seq (.prune [3, 11, 12, 13]) (.seq (.block 1 (.seq (.reg [ ⟨some 15, .ia 12 (.t 11) (.t 13), none⟩, ⟨some 16, .lda 12 (.t 15), none⟩, ⟨some 5, .alloc [.int .i64 0, .int .i64 0, .int .i64 0, .int .i64 0, .int .i64 0, .int .i64 0, .int .i64 0, .int .i64 0, .lst [] true, .int .i64 0, .int .i64 0, .lst [] true], none⟩, ⟨none, .sta 12 (.t 5) (.t 16), none⟩]) (.seq (.prune [3, 5, 11, 12, 13]) (.reg [ ⟨some 17, .mv (.t 3), none⟩, ⟨some 18, .lda 12 (.t 5), none⟩, ⟨some 19, .call false 21 [(.t 18)], none⟩, ⟨some 20, .mm true (.t 17) (.t 19), none⟩, ⟨some 3, .mv (.t 20), none⟩])))) (.seq (.prune [3, 11, 12, 13]) (.reg [ ⟨some 21, .bin .add (.t 13) (.c (.int .i64 1)), none⟩, ⟨some 13, .mv (.t 21), none⟩]))))))))))) (.seq (.prune [3]) (.seq (.reg [ ⟨some 22, .mv (.t 3), none⟩, ⟨some 23, .bin .add (.t 22) (.c (.int .i64 1)), none⟩, ⟨some 2, .mv (.t 23), none⟩]) (.ret))))))), [.t 2]⟩
def a22 : AFunc := ⟨.seq (.reg [ ⟨some 1, .box (.t 0), none⟩, ⟨some 2, .mv (.c (.int .i64 0)), none⟩]) (.seq (.prune [1]) (.seq (.reg [ ⟨some 3, .mv (.c (.int .i64 1)), none⟩]) (.seq (.prune [1, 3]) (.seq (.seq (.reg [ ⟨some 6, .fa 8 (.t 1), none⟩, ⟨some 7, .lds (.t 6), none⟩, ⟨some 8, .fa 11 (.t 1), none⟩, ⟨some 9, .lds (.t 8), none⟩, ⟨some 10, .bsl 1 (.lst [] true) 2 [(0, (.t 7)), (1, (.t 9))], none⟩, ⟨some 11, .call false 51 [(.t 10)], none⟩, ⟨some 12, .len .slice (.t 11), none⟩, ⟨some 13, .mv (.c (.int .i64 0)), none⟩]) (.seq (.prune [3, 11, 12, 13]) (.block 0 (.loop [3, 13, 11, 12] (.seq (.reg [ ⟨some 14, .bin .lss (.t 13) (.t 12), none⟩]) (.seq (.prune [3, 11, 12, 13, 14]) (.seq (.cond (.t 14) (.skip) (.exit 0)) (.seq (.prune [3, 11, 12, 13]) (.seq (.block 1 (.seq (.reg [ ⟨some 15, .ia 12 (.t 11) (.t 13), none⟩, ⟨some 16, .lda 12 (.t 15), none⟩, ⟨some 5, .alloc [.int .i64 0, .int .i64 0, .int .i64 0, .int .i64 0, .int .i64 0, .int .i64 0, .int .i64 0, .int .i64 0, .lst [] true, .int .i64 0, .int .i64 0, .lst [] true], none⟩, ⟨none, .sta 12 (.t 5) (.t 16), none⟩]) (.seq (.prune [3, 5, 11, 12, 13]) (.reg [ ⟨some 17, .mv (.t 3), none⟩, ⟨some 18, .lda 12 (.t 5), none⟩, ⟨some 19, .call false 22 [(.t 18)], none⟩, ⟨some 20, .bin .add (.t 17) (.t 19), none⟩, ⟨some 3, .mv (.t 20), none⟩])))) (.seq (.prune [3, 11, 12, 13]) (.reg [ ⟨some 21, .bin .add (.t 13) (.c (.int .i64 1)), none⟩, ⟨some 13, .mv (.t 21), none⟩]))))))))))) (.seq (.prune [3]) (.seq (.reg [ ⟨some 22, .mv (.t 3), none⟩, ⟨some 2, .mv (.t 22), none⟩]) (.ret))))))), [.t 2]⟩
def a24 : AFunc := ⟨.seq (.reg [ ⟨some 2, .box (.t 0), none⟩, ⟨some 4, .mv (.c (.int .i64 0)), none⟩]) (.seq (.prune [1, 2]) (.seq (.block 0 (.seq (.reg [ ⟨some 8, .mv (.t 1), none⟩, ⟨some 9, .bin .eql (.t 8) (.c (.int .i64 64)), none⟩, ⟨some 10, .mv (.t 9), none⟩, ⟨some 11, .fa 6 (.t 2), some (10, true)⟩, ⟨some 12, .lds (.t 11), some (10, true)⟩, ⟨some 13, .bin .eql (.t 12) (.c (.int .i64 1)), some (10, true)⟩, ⟨some 14, .pick (.t 10) (.t 13) (.c (.bool false)), none⟩, ⟨some 7, .mv (.t 14), none⟩]) (.seq (.prune [1, 2, 7]) (.cond (.t 7) (.seq (.reg [ ⟨some 15, .fa 7 (.t 2), none⟩, ⟨some 16, .lds (.t 15), none⟩, ⟨some 4, .mv (.t 16), none⟩]) (.ret)) (.seq (.reg [ ⟨some 18, .mv (.t 1), none⟩, ⟨some 19, .bin .eql (.t 18) (.c (.int .i64 128)), none⟩, ⟨some 20, .mv (.t 19), none⟩, ⟨some 21, .fa 9 (.t 2), some (20, true)⟩, ⟨some 22, .lds (.t 21), some (20, true)⟩, ⟨some 23, .bin .eql (.t 22) (.c (.int .i64 1)), some (20, true)⟩, ⟨some 24, .pick (.t 20) (.t 23) (.c (.bool false)), none⟩, ⟨some 17, .mv (.t 24), none⟩]) (.seq (.prune [1, 2, 17]) (.cond (.t 17) (.seq (.reg [ ⟨some 25, .fa 10 (.t 2), none⟩, ⟨some 26, .lds (.t 25), none⟩, ⟨some 4, .mv (.t 26), none⟩]) (.ret)) (.skip)))))))) (.seq (.prune [1, 2]) (.seq (.seq (.reg [ ⟨some 27, .fa 0 (.t 2), none⟩, ⟨some 28, .lda 6 (.t 27), none⟩, ⟨some 29, .mv (.c (.int .i64 0)), none⟩]) (.seq (.prune [1, 28, 29]) (.block 1 (.loop [29, 1, 28] (.seq (.reg [ ⟨some 30, .bin .lss (.t 29) (.c (.int .i64 6)), none⟩]) (.seq (.prune [1, 28, 29, 30]) (.seq (.cond (.t 30) (.skip) (.exit 1)) (.seq (.prune [1, 28, 29]) (.seq (.block 2 (.seq (.reg [ ⟨some 31, .mv (.t 29), none⟩, ⟨some 32, .ixa 6 1 none (.t 28) (.t 29), none⟩, ⟨some 5, .mv (.t 31), none⟩, ⟨some 6, .mv (.t 32), none⟩]) (.seq (.prune [1, 5, 6, 28, 29]) (.seq (.reg [ ⟨some 33, .mv (.t 1), none⟩, ⟨some 34, .mv (.t 5), none⟩, ⟨some 35, .bin .shl (.c (.int .i64 1)) (.t 34), none⟩, ⟨some 36, .bin .eql (.t 33) (.t 35), none⟩]) (.seq (.prune [1, 6, 28, 29, 36]) (.cond (.t 36) (.seq (.reg [ ⟨some 37, .mv (.t 6), none⟩, ⟨some 4, .mv (.t 37), none⟩]) (.ret)) (.skip))))))) (.seq (.prune [1, 28, 29]) (.reg [ ⟨some 38, .bin .add (.t 29) (.c (.int .i64 1)), none⟩, ⟨some 29, .mv (.t 38), none⟩]))))))))))) (.seq (.prune []) (.seq (.reg [ ⟨some 4, .mv (.c (.int .i64 0)), none⟩]) (.ret))))))), [.t 4]⟩
def a26 : AFunc := ⟨.seq (.reg [ ⟨some 2, .box (.t 0), none⟩, ⟨some 3, .box (.t 1), none⟩, ⟨some 4, .mv (.c (.bool false)), none⟩]) (.seq (.prune [2, 3]) (.seq (.seq (.reg [ ⟨some 7, .fa 0 (.t 2), none⟩, ⟨some 8, .lda 6 (.t 7), none⟩, ⟨some 9, .fa 0 (.t 3), none⟩, ⟨some 10, .lda 6 (.t 9), none⟩, ⟨some 11, .eqv true (.ints [.i, .i, .i, .i, .i, .i]) (.t 8) (.t 10), none⟩, ⟨some 12, .mv (.t 11), none⟩, ⟨some 13, .fa 6 (.t 2), some (12, false)⟩, ⟨some 14, .lds (.t 13), some (12, false)⟩, ⟨some 15, .fa 6 (.t 3), some (12, false)⟩, ⟨some 16, .lds (.t 15), some (12, false)⟩, ⟨some 17, .bin .neq (.t 14) (.t 16), some (12, false)⟩, ⟨some 18, .pick (.t 12) (.c (.bool true)) (.t 17), none⟩, ⟨some 19, .mv (.t 18), none⟩, ⟨some 20, .fa 7 (.t 2), some (19, false)⟩, ⟨some 21, .lds (.t 20), some (19, false)⟩, ⟨some 22, .fa 7 (.t 3), some (19, false)⟩, ⟨some 23, .lds (.t 22), some (19, false)⟩, ⟨some 24, .bin .neq (.t 21) (.t 23), some (19, false)⟩, ⟨some 25, .pick (.t 19) (.c (.bool true)) (.t 24), none⟩, ⟨some 26, .mv (.t 25), none⟩, ⟨some 27, .fa 9 (.t 2), some (26, false)⟩, ⟨some 28, .lds (.t 27), some (26, false)⟩, ⟨some 29, .fa 9 (.t 3), some (26, false)⟩, ⟨some 30, .lds (.t 29), some (26, false)⟩, ⟨some 31, .bin .neq (.t 28) (.t 30), some (26, false)⟩, ⟨some 32, .pick (.t 26) (.c (.bool true)) (.t 31), none⟩, ⟨some 33, .mv (.t 32), none⟩, ⟨some 34, .fa 10 (.t 2), some (33, false)⟩, ⟨some 35, .lds (.t 34), some (33, false)⟩, ⟨some 36, .fa 10 (.t 3), some (33, false)⟩, ⟨some 37, .lds (.t 36), some (33, false)⟩, ⟨some 38, .bin .neq (.t 35) (.t 37), some (33, false)⟩, ⟨some 39, .pick (.t 33) (.c (.bool true)) (.t 38), none⟩, ⟨some 40, .mv (.t 39), none⟩, ⟨some 41, .fa 8 (.t 2), some (40, false)⟩, ⟨some 42, .lds (.t 41), some (40, false)⟩, ⟨some 43, .len .slice (.t 42), some (40, false)⟩, ⟨some 44, .fa 8 (.t 3), some (40, false)⟩, ⟨some 45, .lds (.t 44), some (40, false)⟩, ⟨some 46, .len .slice (.t 45), some (40, false)⟩, ⟨some 47, .bin .neq (.t 43) (.t 46), some (40, false)⟩, ⟨some 48, .pick (.t 40) (.c (.bool true)) (.t 47), none⟩, ⟨some 49, .mv (.t 48), none⟩, ⟨some 50, .fa 11 (.t 2), some (49, false)⟩, ⟨some 51, .lds (.t 50), some (49, false)⟩, ⟨some 52, .len .slice (.t 51), some (49, false)⟩, ⟨some 53, .fa 11 (.t 3), some (49, false)⟩, ⟨some 54, .lds (.t 53), some (49, false)⟩, ⟨some 55, .len .slice (.t 54), some (49, false)⟩, ⟨some 56, .bin .neq (.t 52) (.t 55), some (49, false)⟩, ⟨some 57, .pick (.t 49) (.c (.bool true)) (.t 56), none⟩]) (.seq (.prune [2, 3, 57]) (.cond (.t 57) (.seq (.reg [ ⟨some 4, .mv (.c (.bool false)), none⟩]) (.ret)) (.skip)))) (.seq (.prune [2, 3]) (.seq (.seq (.reg [ ⟨some 5, .mv (.c (.int .i64 0)), none⟩]) (.seq (.prune [2, 3, 5]) (.block 0 (.loop [5, 2, 3] (.seq (.seq (.reg [ ⟨some 58, .mv (.t 5), none⟩, ⟨some 59, .fa 8 (.t 2), none⟩, ⟨some 60, .lds (.t 59), none⟩, ⟨some 61, .len .slice (.t 60), none⟩, ⟨some 62, .bin .lss (.t 58) (.t 61), none⟩]) (.seq (.prune [2, 3, 5, 62]) (.cond (.t 62) (.skip) (.exit 0)))) (.seq (.prune [2, 3, 5]) (.seq (.block 1 (.seq (.draw 0 [ (⟨some 65, .fa 8 (.t 2), none⟩, 0, []), (⟨some 66, .lds (.t 65), none⟩, 0, [0]), (⟨some 67, .mv (.t 5), none⟩, 0, []), (⟨some 68, .ia 12 (.t 66) (.t 67), none⟩, 0, [0, 1, 2]), (⟨some 69, .lda 12 (.t 68), none⟩, 0, [0, 1, 2, 3]), (⟨some 70, .fa 8 (.t 3), none⟩, 0, []), (⟨some 71, .lds (.t 70), none⟩, 0, [5]), (⟨some 72, .mv (.t 5), none⟩, 0, []), (⟨some 73, .ia 12 (.t 71) (.t 72), none⟩, 0, [5, 6, 7]), (⟨some 74, .lda 12 (.t 73), none⟩, 0, [5, 6, 7, 8]), (⟨some 75, .call false 26 [(.t 69), (.t 74)], none⟩, 0, [0, 1, 2, 3, 4, 5, 6, 7, 8, 9]), (⟨some 76, .un .not (.t 75), none⟩, 0, [0, 1, 2, 3, 4, 5, 6, 7, 8, 9, 10])]) (.seq (.prune [2, 3, 5, 76]) (.cond (.t 76) (.seq (.reg [ ⟨some 4, .mv (.c (.bool false)), none⟩]) (.ret)) (.skip))))) (.seq (.prune [2, 3, 5]) (.reg [ ⟨some 63, .mv (.t 5), none⟩, ⟨some 64, .bin .add (.t 63) (.c (.int .i64 1)), none⟩, ⟨some 5, .mv (.t 64), none⟩]))))))))) (.seq (.prune [2, 3]) (.seq (.seq (.reg [ ⟨some 6, .mv (.c (.int .i64 0)), none⟩]) (.seq (.prune [2, 3, 6]) (.block 2 (.loop [6, 2, 3] (.seq (.seq (.reg [ ⟨some 77, .mv (.t 6), none⟩, ⟨some 78, .fa 11 (.t 2), none⟩, ⟨some 79, .lds (.t 78), none⟩, ⟨some 80, .len .slice (.t 79), none⟩, ⟨some 81, .bin .lss (.t 77) (.t 80), none⟩]) (.seq (.prune [2, 3, 6, 81]) (.cond (.t 81) (.skip) (.exit 2)))) (.seq (.prune [2, 3, 6]) (.seq (.block 3 (.seq (.draw 0 [ (⟨some 84, .fa 11 (.t 2), none⟩, 0, []), (⟨some 85, .lds (.t 84), none⟩, 0, [0]), (⟨some 86, .mv (.t 6), none⟩, 0, []), (⟨some 87, .ia 12 (.t 85) (.t 86), none⟩, 0, [0, 1, 2]), (⟨some 88, .lda 12 (.t 87), none⟩, 0, [0, 1, 2, 3]), (⟨some 89, .fa 11 (.t 3), none⟩, 0, []), (⟨some 90, .lds (.t 89), none⟩, 0, [5]), (⟨some 91, .mv (.t 6), none⟩, 0, []), (⟨some 92, .ia 12 (.t 90) (.t 91), none⟩, 0, [5, 6, 7]), (⟨some 93, .lda 12 (.t 92), none⟩, 0, [5, 6, 7, 8]), (⟨some 94, .call false 26 [(.t 88), (.t 93)], none⟩, 0, [0, 1, 2, 3, 4, 5, 6, 7, 8, 9]), (⟨some 95, .un .not (.t 94), none⟩, 0, [0, 1, 2, 3, 4, 5, 6, 7, 8, 9, 10])]) (.seq (.prune [2, 3, 6, 95]) (.cond (.t 95) (.seq (.reg [ ⟨some 4, .mv (.c (.bool false)), none⟩]) (.ret)) (.skip))))) (.seq (.prune [2, 3, 6]) (.reg [ ⟨some 82, .mv (.t 6), none⟩, ⟨some 83, .bin .add (.t 82) (.c (.int .i64 1)), none⟩, ⟨some 6, .mv (.t 83), none⟩]))))))))) (.seq (.prune []) (.seq (.reg [ ⟨some 4, .mv (.c (.bool true)), none⟩]) (.ret))))))))), [.t 4]⟩
def a27 : AFunc := ⟨.seq (.reg [ ⟨some 1, .box (.t 0), none⟩, ⟨some 2, .mv (.c (.bool false)), none⟩]) (.seq (.prune [1]) (.seq (.reg [ ⟨some 3, .fa 0 (.t 1), none⟩, ⟨some 4, .lda 6 (.t 3), none⟩, ⟨some 5, .build [.int .i64 0, .int .i64 0, .int .i64 0, .int .i64 0, .int .i64 0, .int .i64 0] [], none⟩, ⟨some 6, .eqv false (.ints [.i, .i, .i, .i, .i, .i]) (.t 4) (.t 5), none⟩, ⟨some 7, .mv (.t 6), none⟩, ⟨some 8, .fa 6 (.t 1), some (7, true)⟩, ⟨some 9, .lds (.t 8), some (7, true)⟩, ⟨some 10, .bin .eql (.t 9) (.c (.int .i64 0)), some (7, true)⟩, ⟨some 11, .pick (.t 7) (.t 10) (.c (.bool false)), none⟩, ⟨some 12, .mv (.t 11), none⟩, ⟨some 13, .fa 7 (.t 1), some (12, true)⟩, ⟨some 14, .lds (.t 13), some (12, true)⟩, ⟨some 15, .bin .eql (.t 14) (.c (.int .i64 0)), some (12, true)⟩, ⟨some 16, .pick (.t 12) (.t 15) (.c (.bool false)), none⟩, ⟨some 17, .mv (.t 16), none⟩, ⟨some 18, .fa 8 (.t 1), some (17, true)⟩, ⟨some 19, .lds (.t 18), some (17, true)⟩, ⟨some 20, .len .slice (.t 19), some (17, true)⟩, ⟨some 21, .bin .eql (.t 20) (.c (.int .i64 0)), some (17, true)⟩, ⟨some 22, .pick (.t 17) (.t 21) (.c (.bool false)), none⟩, ⟨some 23, .mv (.t 22), none⟩, ⟨some 24, .fa 9 (.t 1), some (23, true)⟩, ⟨some 25, .lds (.t 24), some (23, true)⟩, ⟨some 26, .bin .eql (.t 25) (.c (.int .i64 0)), some (23, true)⟩, ⟨some 27, .pick (.t 23) (.t 26) (.c (.bool false)), none⟩, ⟨some 28, .mv (.t 27), none⟩, ⟨some 29, .fa 10 (.t 1), some (28, true)⟩, ⟨some 30, .lds (.t 29), some (28, true)⟩, ⟨some 31, .bin .eql (.t 30) (.c (.int .i64 0)), some (28, true)⟩, ⟨some 32, .pick (.t 28) (.t 31) (.c (.bool false)), none⟩, ⟨some 33, .mv (.t 32), none⟩, ⟨some 34, .fa 11 (.t 1), some (33, true)⟩, ⟨some 35, .lds (.t 34), some (33, true)⟩, ⟨some 36, .len .slice (.t 35), some (33, true)⟩, ⟨some 37, .bin .eql (.t 36) (.c (.int .i64 0)), some (33, true)⟩, ⟨some 38, .pick (.t 33) (.t 37) (.c (.bool false)), none⟩, ⟨some 2, .mv (.t 38), none⟩]) (.ret))), [.t 2]⟩
def a28 : AFunc := ⟨.seq (.reg [ ⟨some 1, .box (.t 0), none⟩, ⟨some 2, .mv (.c (.bool false)), none⟩]) (.seq (.prune [1]) (.seq (.reg [ ⟨some 3, .lda 12 (.t 1), none⟩, ⟨some 4, .call false 53 [(.t 3)], none⟩, ⟨some 5, .mv (.t 4), none⟩, ⟨some 6, .fa 6 (.t 1), some (5, true)⟩, ⟨some 7, .lds (.t 6), some (5, true)⟩, ⟨some 8, .bin .eql (.t 7) (.c (.int .i64 0)), some (5, true)⟩, ⟨some 9, .pick (.t 5) (.t 8) (.c (.bool false)), none⟩, ⟨some 10, .mv (.t 9), none⟩, ⟨some 11, .fa 7 (.t 1), some (10, true)⟩, ⟨some 12, .lds (.t 11), some (10, true)⟩, ⟨some 13, .bin .eql (.t 12) (.c (.int .i64 0)), some (10, true)⟩, ⟨some 14, .pick (.t 10) (.t 13) (.c (.bool false)), none⟩, ⟨some 15, .mv (.t 14), none⟩, ⟨some 16, .fa 8 (.t 1), some (15, true)⟩, ⟨some 17, .lds (.t 16), some (15, true)⟩, ⟨some 18, .len .slice (.t 17), some (15, true)⟩, ⟨some 19, .bin .eql (.t 18) (.c (.int .i64 0)), some (15, true)⟩, ⟨some 20, .pick (.t 15) (.t 19) (.c (.bool false)), none⟩, ⟨some 21, .mv (.t 20), none⟩, ⟨some 22, .fa 9 (.t 1), some (21, true)⟩, ⟨some 23, .lds (.t 22), some (21, true)⟩, ⟨some 24, .bin .eql (.t 23) (.c (.int .i64 0)), some (21, true)⟩, ⟨some 25, .pick (.t 21) (.t 24) (.c (.bool false)), none⟩, ⟨some 26, .mv (.t 25), none⟩, ⟨some 27, .fa 10 (.t 1), some (26, true)⟩, ⟨some 28, .lds (.t 27), some (26, true)⟩, ⟨some 29, .bin .eql (.t 28) (.c (.int .i64 0)), some (26, true)⟩, ⟨some 30, .pick (.t 26) (.t 29) (.c (.bool false)), none⟩, ⟨some 31, .mv (.t 30), none⟩, ⟨some 32, .fa 11 (.t 1), some (31, true)⟩, ⟨some 33, .lds (.t 32), some (31, true)⟩, ⟨some 34, .len .slice (.t 33), some (31, true)⟩, ⟨some 35, .bin .eql (.t 34) (.c (.int .i64 0)), some (31, true)⟩, ⟨some 36, .pick (.t 31) (.t 35) (.c (.bool false)), none⟩, ⟨some 2, .mv (.t 36), none⟩]) (.ret))), [.t 2]⟩
def a31 : AFunc := ⟨.seq (.reg [ ⟨some 1, .box (.t 0), none⟩, ⟨some 2, .alloc [.int .i64 0, .int .i64 0, .int .i64 0, .int .i64 0, .int .i64 0, .int .i64 0, .int .i64 0, .int .i64 0, .lst [] true, .int .i64 0, .int .i64 0, .lst [] true], none⟩]) (.seq (.prune [1, 2]) (.seq (.seq (.reg [ ⟨some 3, .fa 6 (.t 1), none⟩, ⟨some 4, .lds (.t 3), none⟩, ⟨some 5, .bin .lss (.t 4) (.c (.int .i64 2)), none⟩]) (.seq (.prune [1, 2, 5]) (.cond (.t 5) (.seq (.reg [ ⟨some 6, .build [.int .i64 0, .int .i64 0, .int .i64 0, .int .i64 0, .int .i64 0, .int .i64 0, .int .i64 0, .int .i64 0, .lst [] true, .int .i64 0, .int .i64 0, .lst [] true] [], none⟩, ⟨none, .sta 12 (.t 2) (.t 6), none⟩]) (.ret)) (.skip)))) (.seq (.prune [1, 2]) (.seq (.reg [ ⟨some 7, .fa 8 (.t 1), none⟩, ⟨some 8, .lds (.t 7), none⟩, ⟨some 9, .ia 12 (.t 8) (.c (.int .i64 0)), none⟩, ⟨some 10, .lda 12 (.t 9), none⟩, ⟨none, .sta 12 (.t 2) (.t 10), none⟩]) (.ret))))), [.ca 2 12]⟩
def a32 : AFunc := ⟨.seq (.reg [ ⟨some 1, .box (.t 0), none⟩, ⟨some 2, .alloc [.int .i64 0, .int .i64 0, .int .i64 0, .int .i64 0, .int .i64 0, .int .i64 0, .int .i64 0, .int .i64 0, .lst [] true, .int .i64 0, .int .i64 0, .lst [] true], none⟩]) (.seq (.prune [1, 2]) (.seq (.seq (.reg [ ⟨some 3, .fa 6 (.t 1), none⟩, ⟨some 4, .lds (.t 3), none⟩, ⟨some 5, .bin .lss (.t 4) (.c (.int .i64 2)), none⟩]) (.seq (.prune [1, 2, 5]) (.cond (.t 5) (.seq (.reg [ ⟨some 6, .build [.int .i64 0, .int .i64 0, .int .i64 0, .int .i64 0, .int .i64 0, .int .i64 0, .int .i64 0, .int .i64 0, .lst [] true, .int .i64 0, .int .i64 0, .lst [] true] [], none⟩, ⟨none, .sta 12 (.t 2) (.t 6), none⟩]) (.ret)) (.skip)))) (.seq (.prune [1, 2]) (.seq (.reg [ ⟨some 7, .fa 8 (.t 1), none⟩, ⟨some 8, .lds (.t 7), none⟩, ⟨some 9, .ia 12 (.t 8) (.c (.int .i64 0)), none⟩, ⟨some 10, .lda 12 (.t 9), none⟩, ⟨none, .sta 12 (.t 2) (.t 10), none⟩]) (.ret))))), [.ca 2 12]⟩
def a33 : AFunc := ⟨.seq (.reg [ ⟨some 1, .box (.t 0), none⟩, ⟨some 2, .alloc [.int .i64 0, .int .i64 0, .int .i64 0, .int .i64 0, .int .i64 0, .int .i64 0, .int .i64 0, .int .i64 0, .lst [] true, .int .i64 0, .int .i64 0, .lst [] true], none⟩]) (.seq (.prune [1, 2]) (.seq (.seq (.reg [ ⟨some 5, .fa 6 (.t 1), none⟩, ⟨some 6, .lds (.t 5), none⟩]) (.seq (.prune [1, 2, 6]) (.block 0 (.seq (.reg [ ⟨some 8, .bin .eql (.t 6) (.c (.int .i64 2)), none⟩, ⟨some 7, .mv (.t 8), none⟩]) (.seq (.prune [1, 2, 6, 7]) (.cond (.t 7) (.seq (.reg [ ⟨some 9, .fa 8 (.t 1), none⟩, ⟨some 10, .lds (.t 9), none⟩, ⟨some 11, .ia 12 (.t 10) (.c (.int .i64 1)), none⟩, ⟨some 12, .lda 12 (.t 11), none⟩, ⟨none, .sta 12 (.t 2) (.t 12), none⟩]) (.ret)) (.seq (.reg [ ⟨some 14, .bin .eql (.t 6) (.c (.int .i64 3)), none⟩, ⟨some 13, .mv (.t 14), none⟩]) (.seq (.prune [1, 2, 13]) (.cond (.t 13) (.seq (.reg [ ⟨some 15, .fa 7 (.t 1), none⟩, ⟨some 16, .lds (.t 15), none⟩, ⟨some 3, .mv (.t 16), none⟩]) (.seq (.prune [1, 2, 3]) (.seq (.reg [ ⟨some 17, .mv (.t 3), none⟩, ⟨some 18, .mv (.t 3), none⟩, ⟨some 19, .mv (.t 3), none⟩, ⟨some 20, .mv (.t 3), none⟩, ⟨some 21, .mv (.t 3), none⟩, ⟨some 22, .build [.int .i64 0, .int .i64 0, .int .i64 0, .int .i64 0, .int .i64 0, .int .i64 0] [(0, 1, (.t 17)), (1, 1, (.t 18)), (2, 1, (.t 19)), (3, 1, (.t 20)), (4, 1, (.c (.int .i64 0))), (5, 1, (.t 21))], none⟩, ⟨some 23, .mv (.t 3), none⟩, ⟨some 24, .fa 8 (.t 1), none⟩, ⟨some 25, .lds (.t 24), none⟩, ⟨some 26, .build [.int .i64 0, .int .i64 0, .int .i64 0, .int .i64 0, .int .i64 0, .int .i64 0, .int .i64 0, .int .i64 0, .lst [] true, .int .i64 0, .int .i64 0, .lst [] true] [(0, 6, (.t 22)), (6, 1, (.c (.int .i64 3))), (7, 1, (.t 23)), (8, 1, (.t 25))], none⟩, ⟨some 4, .alloc [.int .i64 0, .int .i64 0, .int .i64 0, .int .i64 0, .int .i64 0, .int .i64 0, .int .i64 0, .int .i64 0, .lst [] true, .int .i64 0, .int .i64 0, .lst [] true], none⟩, ⟨none, .sta 12 (.t 4) (.t 26), none⟩]) (.seq (.prune [2, 3, 4]) (.seq (.seq (.reg [ ⟨some 27, .mv (.t 3), none⟩, ⟨some 28, .bin .neq (.t 27) (.c (.int .i64 0)), none⟩]) (.seq (.prune [2, 3, 4, 28]) (.cond (.t 28) (.reg [ ⟨some 29, .mv (.t 3), none⟩, ⟨some 30, .fa 9 (.t 4), none⟩, ⟨none, .sts (.t 30) (.c (.int .i64 1)), none⟩, ⟨some 31, .fa 10 (.t 4), none⟩, ⟨none, .sts (.t 31) (.t 29), none⟩]) (.skip)))) (.seq (.prune [2, 4]) (.seq (.reg [ ⟨some 32, .lda 12 (.t 4), none⟩, ⟨none, .sta 12 (.t 2) (.t 32), none⟩]) (.ret)))))))) (.skip)))))))))) (.seq (.prune [2]) (.seq (.reg [ ⟨some 33, .build [.int .i64 0, .int .i64 0, .int .i64 0, .int .i64 0, .int .i64 0, .int .i64 0, .int .i64 0, .int .i64 0, .lst [] true, .int .i64 0, .int .i64 0, .lst [] true] [], none⟩, ⟨none, .sta 12 (.t 2) (.t 33), none⟩]) (.ret))))), [.ca 2 12]⟩
def a34 : AFunc := ⟨.seq (.reg [ ⟨some 1, .box (.t 0), none⟩, ⟨some 2, .alloc [.int .i64 0, .int .i64 0, .int .i64 0, .int .i64 0, .int .i64 0, .int .i64 0, .int .i64 0, .int .i64 0, .lst [] true, .int .i64 0, .int .i64 0, .lst [] true], none⟩]) (.seq (.prune [1, 2]) (.seq (.seq (.reg [ ⟨some 3, .fa 6 (.t 1), none⟩, ⟨some 4, .lds (.t 3), none⟩, ⟨some 5, .bin .lss (.t 4) (.c (.int .i64 2)), none⟩]) (.seq (.prune [1, 2, 5]) (.cond (.t 5) (.seq (.reg [ ⟨some 6, .build [.int .i64 0, .int .i64 0, .int .i64 0, .int .i64 0, .int .i64 0, .int .i64 0, .int .i64 0, .int .i64 0, .lst [] true, .int .i64 0, .int .i64 0, .lst [] true] [], none⟩, ⟨none, .sta 12 (.t 2) (.t 6), none⟩]) (.ret)) (.skip)))) (.seq (.prune [1, 2]) (.seq (.seq (.reg [ ⟨some 7, .fa 6 (.t 1), none⟩, ⟨some 8, .lds (.t 7), none⟩, ⟨some 9, .bin .eql (.t 8) (.c (.int .i64 2)), none⟩]) (.seq (.prune [1, 2, 9]) (.cond (.t 9) (.seq (.reg [ ⟨some 10, .fa 8 (.t 1), none⟩, ⟨some 11, .lds (.t 10), none⟩, ⟨some 12, .ia 12 (.t 11) (.c (.int .i64 1)), none⟩, ⟨some 13, .lda 12 (.t 12), none⟩, ⟨none, .sta 12 (.t 2) (.t 13), none⟩]) (.ret)) (.skip)))) (.seq (.prune [1, 2]) (.seq (.draw 0 [ (⟨some 14, .fa 8 (.t 1), none⟩, 0, []), (⟨some 15, .lds (.t 14), none⟩, 0, [0]), (⟨some 16, .ia 12 (.t 15) (.c (.int .i64 0)), none⟩, 0, [0, 1]), (⟨some 17, .lda 12 (.t 16), none⟩, 0, [0, 1, 2]), (⟨some 18, .fa 7 (.t 1), none⟩, 0, []), (⟨some 19, .lds (.t 18), none⟩, 0, [4]), (⟨some 20, .call false 54 [(.t 17), (.t 19)], none⟩, 0, [0, 1, 2, 3, 4, 5]), (⟨none, .sta 12 (.t 2) (.t 20), none⟩, 0, [0, 1, 2, 3, 4, 5, 6])]) (.ret))))))), [.ca 2 12]⟩
def a36 : AFunc := ⟨.seq (.reg [ ⟨some 2, .box (.t 0), none⟩, ⟨some 4, .mv (.c (.bool false)), none⟩]) (.seq (.prune [1, 2]) (.seq (.reg [ ⟨some 5, .mv (.t 1), none⟩, ⟨some 6, .bin .eql (.t 5) (.c (.int .i64 64)), none⟩, ⟨some 7, .mv (.t 6), none⟩, ⟨some 8, .fa 6 (.t 2), some (7, true)⟩, ⟨some 9, .lds (.t 8), some (7, true)⟩, ⟨some 10, .bin .geq (.t 9) (.c (.int .i64 2)), some (7, true)⟩, ⟨some 11, .pick (.t 7) (.t 10) (.c (.bool false)), none⟩, ⟨some 12, .mv (.t 11), none⟩, ⟨some 13, .mv (.t 1), some (12, false)⟩, ⟨some 14, .bin .eql (.t 13) (.c (.int .i64 128)), some (12, false)⟩, ⟨some 15, .mv (.t 14), some (12, false)⟩, ⟨some 16, .fa 9 (.t 2), some (15, true)⟩, ⟨some 17, .lds (.t 16), some (15, true)⟩, ⟨some 18, .bin .geq (.t 17) (.c (.int .i64 2)), some (15, true)⟩, ⟨some 19, .pick (.t 15) (.t 18) (.c (.bool false)), some (12, false)⟩, ⟨some 20, .pick (.t 12) (.c (.bool true)) (.t 19), none⟩, ⟨some 4, .mv (.t 20), none⟩]) (.ret))), [.t 4]⟩
def a38 : AFunc := ⟨.seq (.reg [ ⟨some 2, .box (.t 0), none⟩, ⟨some 4, .mv (.c (.int .i64 0)), none⟩]) (.seq (.prune [1, 2]) (.seq (.seq (.reg [ ⟨some 8, .mv (.t 1), none⟩, ⟨some 9, .bin .eql (.t 8) (.c (.int .i64 0)), none⟩]) (.seq (.prune [1, 2, 9]) (.cond (.t 9) (.seq (.reg [ ⟨some 4, .mv (.c (.int .i64 1000)), none⟩]) (.ret)) (.skip)))) (.seq (.prune [1, 2]) (.seq (.reg [ ⟨some 5, .mv (.c (.int .i64 1)), none⟩]) (.seq (.prune [1, 2, 5]) (.seq (.seq (.reg [ ⟨some 6, .mv (.c (.int .i64 0)), none⟩]) (.seq (.prune [1, 2, 5, 6]) (.block 0 (.loop [5, 6, 1, 2] (.seq (.seq (.reg [ ⟨some 10, .mv (.t 6), none⟩, ⟨some 11, .fa 3 (.t 2), none⟩, ⟨some 12, .lds (.t 11), none⟩, ⟨some 13, .len .slice (.t 12), none⟩, ⟨some 14, .bin .lss (.t 10) (.t 13), none⟩, ⟨some 15, .mv (.t 14), none⟩, ⟨some 16, .mv (.t 5), some (15, true)⟩, ⟨some 17, .bin .lss (.t 16) (.c (.int .i64 1000)), some (15, true)⟩, ⟨some 18, .pick (.t 15) (.t 17) (.c (.bool false)), none⟩]) (.seq (.prune [1, 2, 5, 6, 18]) (.cond (.t 18) (.skip) (.exit 0)))) (.seq (.prune [1, 2, 5, 6]) (.seq (.block 1 (.reg [ ⟨some 21, .mv (.t 5), none⟩, ⟨some 22, .fa 3 (.t 2), none⟩, ⟨some 23, .lds (.t 22), none⟩, ⟨some 24, .mv (.t 6), none⟩, ⟨some 25, .ia 6 (.t 23) (.t 24), none⟩, ⟨some 26, .lda 6 (.t 25), none⟩, ⟨some 27, .mv (.t 1), none⟩, ⟨some 28, .bin .sub (.t 27) (.c (.int .i64 1)), none⟩, ⟨some 29, .call false 38 [(.t 26), (.t 28)], none⟩, ⟨some 30, .bin .add (.t 21) (.t 29), none⟩, ⟨some 5, .mv (.t 30), none⟩])) (.seq (.prune [1, 2, 5, 6]) (.reg [ ⟨some 19, .mv (.t 6), none⟩, ⟨some 20, .bin .add (.t 19) (.c (.int .i64 1)), none⟩, ⟨some 6, .mv (.t 20), none⟩]))))))))) (.seq (.prune [1, 2, 5]) (.seq (.seq (.reg [ ⟨some 7, .mv (.c (.int .i64 0)), none⟩]) (.seq (.prune [1, 2, 5, 7]) (.block 2 (.loop [5, 7, 1, 2] (.seq (.seq (.reg [ ⟨some 31, .mv (.t 7), none⟩, ⟨some 32, .fa 5 (.t 2), none⟩, ⟨some 33, .lds (.t 32), none⟩, ⟨some 34, .len .slice (.t 33), none⟩, ⟨some 35, .bin .lss (.t 31) (.t 34), none⟩, ⟨some 36, .mv (.t 35), none⟩, ⟨some 37, .mv (.t 5), some (36, true)⟩, ⟨some 38, .bin .lss (.t 37) (.c (.int .i64 1000)), some (36, true)⟩, ⟨some 39, .pick (.t 36) (.t 38) (.c (.bool false)), none⟩]) (.seq (.prune [1, 2, 5, 7, 39]) (.cond (.t 39) (.skip) (.exit 2)))) (.seq (.prune [1, 2, 5, 7]) (.seq (.block 3 (.reg [ ⟨some 42, .mv (.t 5), none⟩, ⟨some 43, .fa 5 (.t 2), none⟩, ⟨some 44, .lds (.t 43), none⟩, ⟨some 45, .mv (.t 7), none⟩, ⟨some 46, .ia 6 (.t 44) (.t 45), none⟩, ⟨some 47, .lda 6 (.t 46), none⟩, ⟨some 48, .mv (.t 1), none⟩, ⟨some 49, .bin .sub (.t 48) (.c (.int .i64 1)), none⟩, ⟨some 50, .call false 38 [(.t 47), (.t 49)], none⟩, ⟨some 51, .bin .add (.t 42) (.t 50), none⟩, ⟨some 5, .mv (.t 51), none⟩])) (.seq (.prune [1, 2, 5, 7]) (.reg [ ⟨some 40, .mv (.t 7), none⟩, ⟨some 41, .bin .add (.t 40) (.c (.int .i64 1)), none⟩, ⟨some 7, .mv (.t 41), none⟩]))))))))) (.seq (.prune [5]) (.seq (.reg [ ⟨some 52, .mv (.t 5), none⟩, ⟨some 53, .mm false (.t 52) (.c (.int .i64 1000)), none⟩, ⟨some 4, .mv (.t 53), none⟩]) (.ret))))))))))), [.t 4]⟩
def a39 : AFunc := ⟨.seq (.reg [ ⟨some 2, .box (.t 0), none⟩, ⟨some 4, .mv (.c (.bool false)), none⟩]) (.seq (.prune [1, 2]) (.seq (.seq (.reg [ ⟨some 7, .mv (.t 1), none⟩, ⟨some 8, .bin .eql (.t 7) (.c (.int .i64 0)), none⟩, ⟨some 9, .mv (.t 8), none⟩, ⟨some 10, .fa 8 (.t 2), some (9, false)⟩, ⟨some 11, .lds (.t 10), some (9, false)⟩, ⟨some 12, .len .slice (.t 11), some (9, false)⟩, ⟨some 13, .bin .gtr (.t 12) (.c (.int .i64 12)), some (9, false)⟩, ⟨some 14, .pick (.t 9) (.c (.bool true)) (.t 13), none⟩, ⟨some 15, .mv (.t 14), none⟩, ⟨some 16, .fa 11 (.t 2), some (15, false)⟩, ⟨some 17, .lds (.t 16), some (15, false)⟩, ⟨some 18, .len .slice (.t 17), some (15, false)⟩, ⟨some 19, .bin .gtr (.t 18) (.c (.int .i64 12)), some (15, false)⟩, ⟨some 20, .pick (.t 15) (.c (.bool true)) (.t 19), none⟩]) (.seq (.prune [1, 2, 20]) (.cond (.t 20) (.seq (.reg [ ⟨some 4, .mv (.c (.bool false)), none⟩]) (.ret)) (.skip)))) (.seq (.prune [1, 2]) (.seq (.seq (.reg [ ⟨some 5, .mv (.c (.int .i64 0)), none⟩]) (.seq (.prune [1, 2, 5]) (.block 0 (.loop [5, 1, 2] (.seq (.seq (.reg [ ⟨some 21, .mv (.t 5), none⟩, ⟨some 22, .fa 8 (.t 2), none⟩, ⟨some 23, .lds (.t 22), none⟩, ⟨some 24, .len .slice (.t 23), none⟩, ⟨some 25, .bin .lss (.t 21) (.t 24), none⟩]) (.seq (.prune [1, 2, 5, 25]) (.cond (.t 25) (.skip) (.exit 0)))) (.seq (.prune [1, 2, 5]) (.seq (.block 1 (.seq (.reg [ ⟨some 28, .fa 8 (.t 2), none⟩, ⟨some 29, .lds (.t 28), none⟩, ⟨some 30, .mv (.t 5), none⟩, ⟨some 31, .ia 12 (.t 29) (.t 30), none⟩, ⟨some 32, .lda 12 (.t 31), none⟩, ⟨some 33, .mv (.t 1), none⟩, ⟨some 34, .bin .sub (.t 33) (.c (.int .i64 1)), none⟩, ⟨some 35, .call false 39 [(.t 32), (.t 34)], none⟩, ⟨some 36, .un .not (.t 35), none⟩]) (.seq (.prune [1, 2, 5, 36]) (.cond (.t 36) (.seq (.reg [ ⟨some 4, .mv (.c (.bool false)), none⟩]) (.ret)) (.skip))))) (.seq (.prune [1, 2, 5]) (.reg [ ⟨some 26, .mv (.t 5), none⟩, ⟨some 27, .bin .add (.t 26) (.c (.int .i64 1)), none⟩, ⟨some 5, .mv (.t 27), none⟩]))))))))) (.seq (.prune [1, 2]) (.seq (.seq (.reg [ ⟨some 6, .mv (.c (.int .i64 0)), none⟩]) (.seq (.prune [1, 2, 6]) (.block 2 (.loop [6, 1, 2] (.seq (.seq (.reg [ ⟨some 37, .mv (.t 6), none⟩, ⟨some 38, .fa 11 (.t 2), none⟩, ⟨some 39, .lds (.t 38), none⟩, ⟨some 40, .len .slice (.t 39), none⟩, ⟨some 41, .bin .lss (.t 37) (.t 40), none⟩]) (.seq (.prune [1, 2, 6, 41]) (.cond (.t 41) (.skip) (.exit 2)))) (.seq (.prune [1, 2, 6]) (.seq (.block 3 (.seq (.reg [ ⟨some 44, .fa 11 (.t 2), none⟩, ⟨some 45, .lds (.t 44), none⟩, ⟨some 46, .mv (.t 6), none⟩, ⟨some 47, .ia 12 (.t 45) (.t 46), none⟩, ⟨some 48, .lda 12 (.t 47), none⟩, ⟨some 49, .mv (.t 1), none⟩, ⟨some 50, .bin .sub (.t 49) (.c (.int .i64 1)), none⟩, ⟨some 51, .call false 39 [(.t 48), (.t 50)], none⟩, ⟨some 52, .un .not (.t 51), none⟩]) (.seq (.prune [1, 2, 6, 52]) (.cond (.t 52) (.seq (.reg [ ⟨some 4, .mv (.c (.bool false)), none⟩]) (.ret)) (.skip))))) (.seq (.prune [1, 2, 6]) (.reg [ ⟨some 42, .mv (.t 6), none⟩, ⟨some 43, .bin .add (.t 42) (.c (.int .i64 1)), none⟩, ⟨some 6, .mv (.t 43), none⟩]))))))))) (.seq (.prune []) (.seq (.reg [ ⟨some 4, .mv (.c (.bool true)), none⟩]) (.ret))))))))), [.t 4]⟩
def a40 : AFunc := ⟨.seq (.reg [ ⟨some 1, .box (.t 0), none⟩, ⟨some 2, .mv (.c (.bool false)), none⟩]) (.seq (.prune [1]) (.seq (.reg [ ⟨some 3, .lda 12 (.t 1), none⟩, ⟨some 4, .call false 55 [(.t 3), (.c (.int .i64 60))], none⟩, ⟨some 5, .bin .lss (.t 4) (.c (.int .i64 150)), none⟩, ⟨some 2, .mv (.t 5), none⟩]) (.ret))), [.t 2]⟩
def a41 : AFunc := ⟨.seq (.reg [ ⟨some 2, .box (.t 0), none⟩, ⟨some 4, .mv (.c (.bool false)), none⟩]) (.seq (.prune [1, 2]) (.seq (.seq (.reg [ ⟨some 8, .mv (.t 1), none⟩, ⟨some 9, .bin .eql (.t 8) (.c (.int .i64 0)), none⟩, ⟨some 10, .mv (.t 9), none⟩, ⟨some 11, .fa 1 (.t 2), some (10, false)⟩, ⟨some 12, .lds (.t 11), some (10, false)⟩, ⟨some 13, .bin .lss (.t 12) (.c (.int .i64 0)), some (10, false)⟩, ⟨some 14, .pick (.t 10) (.c (.bool true)) (.t 13), none⟩, ⟨some 15, .mv (.t 14), none⟩, ⟨some 16, .fa 1 (.t 2), some (15, false)⟩, ⟨some 17, .lds (.t 16), some (15, false)⟩, ⟨some 18, .bin .gtr (.t 17) (.c (.int .i64 63)), some (15, false)⟩, ⟨some 19, .pick (.t 15) (.c (.bool true)) (.t 18), none⟩, ⟨some 20, .mv (.t 19), none⟩, ⟨some 21, .fa 2 (.t 2), some (20, false)⟩, ⟨some 22, .lds (.t 21), some (20, false)⟩, ⟨some 23, .bin .lss (.t 22) (.c (.int .i64 0)), some (20, false)⟩, ⟨some 24, .pick (.t 20) (.c (.bool true)) (.t 23), none⟩, ⟨some 25, .mv (.t 24), none⟩, ⟨some 26, .fa 2 (.t 2), some (25, false)⟩, ⟨some 27, .lds (.t 26), some (25, false)⟩, ⟨some 28, .bin .gtr (.t 27) (.c (.int .i64 2)), some (25, false)⟩, ⟨some 29, .pick (.t 25) (.c (.bool true)) (.t 28), none⟩, ⟨some 30, .mv (.t 29), none⟩, ⟨some 31, .fa 4 (.t 2), some (30, false)⟩, ⟨some 32, .lds (.t 31), some (30, false)⟩, ⟨some 33, .bin .lss (.t 32) (.c (.int .i64 0)), some (30, false)⟩, ⟨some 34, .pick (.t 30) (.c (.bool true)) (.t 33), none⟩, ⟨some 35, .mv (.t 34), none⟩, ⟨some 36, .fa 4 (.t 2), some (35, false)⟩, ⟨some 37, .lds (.t 36), some (35, false)⟩, ⟨some 38, .bin .gtr (.t 37) (.c (.int .i64 2)), some (35, false)⟩, ⟨some 39, .pick (.t 35) (.c (.bool true)) (.t 38), none⟩]) (.seq (.prune [1, 2, 39]) (.cond (.t 39) (.seq (.reg [ ⟨some 4, .mv (.c (.bool false)), none⟩]) (.ret)) (.skip)))) (.seq (.prune [1, 2]) (.seq (.seq (.reg [ ⟨some 40, .fa 0 (.t 2), none⟩, ⟨some 41, .lds (.t 40), none⟩, ⟨some 42, .mv (.t 41), none⟩, ⟨some 43, .fa 1 (.t 2), some (42, true)⟩, ⟨some 44, .lds (.t 43), some (42, true)⟩, ⟨some 45, .bin .neq (.t 44) (.c (.int .i64 0)), some (42, true)⟩, ⟨some 46, .mv (.t 45), some (42, true)⟩, ⟨some 47, .fa 2 (.t 2), some (46, false)⟩, ⟨some 48, .lds (.t 47), some (46, false)⟩, ⟨some 49, .bin .neq (.t 48) (.c (.int .i64 0)), some (46, false)⟩, ⟨some 50, .pick (.t 46) (.c (.bool true)) (.t 49), some (42, true)⟩, ⟨some 51, .mv (.t 50), some (42, true)⟩, ⟨some 52, .fa 4 (.t 2), some (51, false)⟩, ⟨some 53, .lds (.t 52), some (51, false)⟩, ⟨some 54, .bin .neq (.t 53) (.c (.int .i64 0)), some (51, false)⟩, ⟨some 55, .pick (.t 51) (.c (.bool true)) (.t 54), some (42, true)⟩, ⟨some 56, .pick (.t 42) (.t 55) (.c (.bool false)), none⟩]) (.seq (.prune [1, 2, 56]) (.cond (.t 56) (.seq (.reg [ ⟨some 4, .mv (.c (.bool false)), none⟩]) (.ret)) (.skip)))) (.seq (.prune [1, 2]) (.seq (.reg [ ⟨some 57, .bsl 1 (.int .i64 0) 3 [(0, (.c (.int .i64 0))), (1, (.c (.int .i64 2))), (2, (.c (.int .i64 1)))], none⟩, ⟨some 5, .mv (.t 57), none⟩]) (.seq (.prune [1, 2, 5]) (.seq (.seq (.draw 0 [ (⟨some 58, .fa 3 (.t 2), none⟩, 0, []), (⟨some 59, .lds (.t 58), none⟩, 0, [0]), (⟨some 60, .len .slice (.t 59), none⟩, 0, [0, 1]), (⟨some 61, .mv (.t 5), none⟩, 0, []), (⟨some 62, .fa 2 (.t 2), none⟩, 0, []), (⟨some 63, .lds (.t 62), none⟩, 0, [4]), (⟨some 64, .ia 1 (.t 61) (.t 63), none⟩, 0, [3, 4, 5]), (⟨some 65, .lds (.t 64), none⟩, 0, [3, 4, 5, 6]), (⟨some 66, .bin .neq (.t 60) (.t 65), none⟩, 0, [0, 1, 2, 3, 4, 5, 6, 7]), (⟨some 67, .mv (.t 66), none⟩, 0, [0, 1, 2, 3, 4, 5, 6, 7, 8]), (⟨some 68, .fa 4 (.t 2), some (67, false)⟩, 0, [0, 1, 2, 3, 4, 5, 6, 7, 8, 9]), (⟨some 69, .lds (.t 68), some (67, false)⟩, 0, [0, 1, 2, 3, 4, 5, 6, 7, 8, 9, 10]), (⟨some 70, .bin .neq (.t 69) (.c (.int .i64 1)), some (67, false)⟩, 0, [0, 1, 2, 3, 4, 5, 6, 7, 8, 9, 10, 11]), (⟨some 71, .mv (.t 70), some (67, false)⟩, 0, [0, 1, 2, 3, 4, 5, 6, 7, 8, 9, 10, 11, 12]), (⟨some 72, .fa 5 (.t 2), some (71, true)⟩, 0, [0, 1, 2, 3, 4, 5, 6, 7, 8, 9, 10, 11, 12, 13]), (⟨some 73, .lds (.t 72), some (71, true)⟩, 0, [0, 1, 2, 3, 4, 5, 6, 7, 8, 9, 10, 11, 12, 13, 14]), (⟨some 74, .len .slice (.t 73), some (71, true)⟩, 0, [0, 1, 2, 3, 4, 5, 6, 7, 8, 9, 10, 11, 12, 13, 14, 15]), (⟨some 75, .bin .neq (.t 74) (.c (.int .i64 0)), some (71, true)⟩, 0, [0, 1, 2, 3, 4, 5, 6, 7, 8, 9, 10, 11, 12, 13, 14, 15, 16]), (⟨some 76, .pick (.t 71) (.t 75) (.c (.bool false)), some (67, false)⟩, 0, [0, 1, 2, 3, 4, 5, 6, 7, 8, 9, 10, 11, 12, 13, 14, 15, 16, 17]), (⟨some 77, .pick (.t 67) (.c (.bool true)) (.t 76), none⟩, 0, [0, 1, 2, 3, 4, 5, 6, 7, 8, 9, 10, 11, 12, 13, 14, 15, 16, 17, 18]), (⟨some 78, .mv (.t 77), none⟩, 0, [0, 1, 2, 3, 4, 5, 6, 7, 8, 9, 10, 11, 12, 13, 14, 15, 16, 17, 18, 19]), (⟨some 79, .fa 4 (.t 2), some (78, false)⟩, 0, [0, 1, 2, 3, 4, 5, 6, 7, 8, 9, 10, 11, 12, 13, 14, 15, 16, 17, 18, 19, 20]), (⟨some 80, .lds (.t 79), some (78, false)⟩, 0, [0, 1, 2, 3, 4, 5, 6, 7, 8, 9, 10, 11, 12, 13, 14, 15, 16, 17, 18, 19, 20, 21]), (⟨some 81, .bin .eql (.t 80) (.c (.int .i64 1)), some (78, false)⟩, 0, [0, 1, 2, 3, 4, 5, 6, 7, 8, 9, 10, 11, 12, 13, 14, 15, 16, 17, 18, 19, 20, 21, 22]), (⟨some 82, .mv (.t 81), some (78, false)⟩, 0, [0, 1, 2, 3, 4, 5, 6, 7, 8, 9, 10, 11, 12, 13, 14, 15, 16, 17, 18, 19, 20, 21, 22, 23]), (⟨some 83, .fa 5 (.t 2), some (82, true)⟩, 0, [0, 1, 2, 3, 4, 5, 6, 7, 8, 9, 10, 11, 12, 13, 14, 15, 16, 17, 18, 19, 20, 21, 22, 23, 24]), (⟨some 84, .lds (.t 83), some (82, true)⟩, 0, [0, 1, 2, 3, 4, 5, 6, 7, 8, 9, 10, 11, 12, 13, 14, 15, 16, 17, 18, 19, 20, 21, 22, 23, 24, 25]), (⟨some 85, .len .slice (.t 84), some (82, true)⟩, 0, [0, 1, 2, 3, 4, 5, 6, 7, 8, 9, 10, 11, 12, 13, 14, 15, 16, 17, 18, 19, 20, 21, 22, 23, 24, 25, 26]), (⟨some 86, .bin .lss (.t 85) (.c (.int .i64 1)), some (82, true)⟩, 0, [0, 1, 2, 3, 4, 5, 6, 7, 8, 9, 10, 11, 12, 13, 14, 15, 16, 17, 18, 19, 20, 21, 22, 23, 24, 25, 26, 27]), (⟨some 87, .mv (.t 86), some (82, true)⟩, 0, [0, 1, 2, 3, 4, 5, 6, 7, 8, 9, 10, 11, 12, 13, 14, 15, 16, 17, 18, 19, 20, 21, 22, 23, 24, 25, 26, 27, 28]), (⟨some 88, .fa 5 (.t 2), some (87, false)⟩, 0, [0, 1, 2, 3, 4, 5, 6, 7, 8, 9, 10, 11, 12, 13, 14, 15, 16, 17, 18, 19, 20, 21, 22, 23, 24, 25, 26, 27, 28, 29]), (⟨some 89, .lds (.t 88), some (87, false)⟩, 0, [0, 1, 2, 3, 4, 5, 6, 7, 8, 9, 10, 11, 12, 13, 14, 15, 16, 17, 18, 19, 20, 21, 22, 23, 24, 25, 26, 27, 28, 29, 30]), (⟨some 90, .len .slice (.t 89), some (87, false)⟩, 0, [0, 1, 2, 3, 4, 5, 6, 7, 8, 9, 10, 11, 12, 13, 14, 15, 16, 17, 18, 19, 20, 21, 22, 23, 24, 25, 26, 27, 28, 29, 30, 31]), (⟨some 91, .bin .gtr (.t 90) (.c (.int .i64 9)), some (87, false)⟩, 0, [0, 1, 2, 3, 4, 5, 6, 7, 8, 9, 10, 11, 12, 13, 14, 15, 16, 17, 18, 19, 20, 21, 22, 23, 24, 25, 26, 27, 28, 29, 30, 31, 32]), (⟨some 92, .pick (.t 87) (.c (.bool true)) (.t 91), some (82, true)⟩, 0, [0, 1, 2, 3, 4, 5, 6, 7, 8, 9, 10, 11, 12, 13, 14, 15, 16, 17, 18, 19, 20, 21, 22, 23, 24, 25, 26, 27, 28, 29, 30, 31, 32, 33]), (⟨some 93, .pick (.t 82) (.t 92) (.c (.bool false)), some (78, false)⟩, 0, [0, 1, 2, 3, 4, 5, 6, 7, 8, 9, 10, 11, 12, 13, 14, 15, 16, 17, 18, 19, 20, 21, 22, 23, 24, 25, 26, 27, 28, 29, 30, 31, 32, 33, 34]), (⟨some 94, .pick (.t 78) (.c (.bool true)) (.t 93), none⟩, 0, [0, 1, 2, 3, 4, 5, 6, 7, 8, 9, 10, 11, 12, 13, 14, 15, 16, 17, 18, 19, 20, 21, 22, 23, 24, 25, 26, 27, 28, 29, 30, 31, 32, 33, 34, 35])]) (.seq (.prune [1, 2, 94]) (.cond (.t 94) (.seq (.reg [ ⟨some 4, .mv (.c (.bool false)), none⟩]) (.ret)) (.skip)))) (.seq (.prune [1, 2]) (.seq (.seq (.reg [ ⟨some 6, .mv (.c (.int .i64 0)), none⟩]) (.seq (.prune [1, 2, 6]) (.block 0 (.loop [6, 1, 2] (.seq (.seq (.reg [ ⟨some 95, .mv (.t 6), none⟩, ⟨some 96, .fa 3 (.t 2), none⟩, ⟨some 97, .lds (.t 96), none⟩, ⟨some 98, .len .slice (.t 97), none⟩, ⟨some 99, .bin .lss (.t 95) (.t 98), none⟩]) (.seq (.prune [1, 2, 6, 99]) (.cond (.t 99) (.skip) (.exit 0)))) (.seq (.prune [1, 2, 6]) (.seq (.block 1 (.seq (.reg [ ⟨some 102, .fa 3 (.t 2), none⟩, ⟨some 103, .lds (.t 102), none⟩, ⟨some 104, .mv (.t 6), none⟩, ⟨some 105, .ia 6 (.t 103) (.t 104), none⟩, ⟨some 106, .lda 6 (.t 105), none⟩, ⟨some 107, .mv (.t 1), none⟩, ⟨some 108, .bin .sub (.t 107) (.c (.int .i64 1)), none⟩, ⟨some 109, .call false 41 [(.t 106), (.t 108)], none⟩, ⟨some 110, .un .not (.t 109), none⟩]) (.seq (.prune [1, 2, 6, 110]) (.cond (.t 110) (.seq (.reg [ ⟨some 4, .mv (.c (.bool false)), none⟩]) (.ret)) (.skip))))) (.seq (.prune [1, 2, 6]) (.reg [ ⟨some 100, .mv (.t 6), none⟩, ⟨some 101, .bin .add (.t 100) (.c (.int .i64 1)), none⟩, ⟨some 6, .mv (.t 101), none⟩]))))))))) (.seq (.prune [1, 2]) (.seq (.seq (.reg [ ⟨some 7, .mv (.c (.int .i64 0)), none⟩]) (.seq (.prune [1, 2, 7]) (.block 2 (.loop [7, 1, 2] (.seq (.seq (.reg [ ⟨some 111, .mv (.t 7), none⟩, ⟨some 112, .fa 5 (.t 2), none⟩, ⟨some 113, .lds (.t 112), none⟩, ⟨some 114, .len .slice (.t 113), none⟩, ⟨some 115, .bin .lss (.t 111) (.t 114), none⟩]) (.seq (.prune [1, 2, 7, 115]) (.cond (.t 115) (.skip) (.exit 2)))) (.seq (.prune [1, 2, 7]) (.seq (.block 3 (.seq (.reg [ ⟨some 118, .fa 5 (.t 2), none⟩, ⟨some 119, .lds (.t 118), none⟩, ⟨some 120, .mv (.t 7), none⟩, ⟨some 121, .ia 6 (.t 119) (.t 120), none⟩, ⟨some 122, .lda 6 (.t 121), none⟩, ⟨some 123, .mv (.t 1), none⟩, ⟨some 124, .bin .sub (.t 123) (.c (.int .i64 1)), none⟩, ⟨some 125, .call false 41 [(.t 122), (.t 124)], none⟩, ⟨some 126, .un .not (.t 125), none⟩]) (.seq (.prune [1, 2, 7, 126]) (.cond (.t 126) (.seq (.reg [ ⟨some 4, .mv (.c (.bool false)), none⟩]) (.ret)) (.skip))))) (.seq (.prune [1, 2, 7]) (.reg [ ⟨some 116, .mv (.t 7), none⟩, ⟨some 117, .bin .add (.t 116) (.c (.int .i64 1)), none⟩, ⟨some 7, .mv (.t 117), none⟩]))))))))) (.seq (.prune []) (.seq (.reg [ ⟨some 4, .mv (.c (.bool true)), none⟩]) (.ret))))))))))))))), [.t 4]⟩
def a42 : AFunc := ⟨.seq (.reg [ ⟨some 4, .mv (.t 1), none⟩, ⟨some 5, .call false 56 [(.t 4), (.c (.fn 45 []))], none⟩]) (.seq (.prune [0, 1, 5]) (.cond (.t 5) (.reg [ ⟨some 6, .mv (.t 0), none⟩, ⟨some 7, .mv (.t 0), none⟩, ⟨some 8, .mv (.t 1), none⟩, ⟨some 9, .nc (.t 6), none⟩, ⟨some 10, .fa 6 (.t 9), none⟩, ⟨none, .sts (.t 10) (.c (.int .i64 2)), none⟩, ⟨some 11, .nc (.t 7), none⟩, ⟨some 12, .fa 8 (.t 11), none⟩, ⟨none, .sts (.t 12) (.t 8), none⟩]) (.skip))), []⟩
def a43 : AFunc := ⟨.seq (.reg [ ⟨some 10, .mv (.c (.lst [] true)), none⟩]) (.seq (.prune [0, 1, 2, 3, 4, 10]) (.seq (.seq (.reg [ ⟨some 14, .mv (.t 1), none⟩, ⟨some 15, .len .slice (.t 14), none⟩, ⟨some 16, .mv (.c (.int .i64 0)), none⟩]) (.seq (.prune [0, 1, 2, 3, 4, 10, 14, 15, 16]) (.block 0 (.seq (.own 10 none) (.loop [10, 16, 0, 1, 2, 3, 4, 14, 15] (.seq (.reg [ ⟨some 17, .bin .lss (.t 16) (.t 15), none⟩]) (.seq (.prune [0, 1, 2, 3, 4, 10, 14, 15, 16, 17]) (.seq (.cond (.t 17) (.skip) (.exit 0)) (.seq (.prune [0, 1, 2, 3, 4, 10, 14, 15, 16]) (.seq (.block 1 (.seq (.reg [ ⟨some 18, .mv (.t 16), none⟩, ⟨some 19, .ia 6 (.t 14) (.t 16), none⟩, ⟨some 20, .lda 6 (.t 19), none⟩, ⟨some 12, .alloc [.bool false, .int .i64 0, .int .i64 0, .lst [] true, .int .i64 0, .lst [] true], none⟩, ⟨some 11, .mv (.t 18), none⟩, ⟨none, .sta 6 (.t 12) (.t 20), none⟩]) (.seq (.prune [0, 1, 2, 3, 4, 10, 11, 12, 14, 15, 16]) (.seq (.reg [ ⟨some 21, .mv (.t 2), none⟩, ⟨some 13, .mv (.t 21), none⟩]) (.seq (.prune [0, 1, 2, 3, 4, 10, 11, 12, 13, 14, 15, 16]) (.seq (.seq (.reg [ ⟨some 22, .mv (.t 11), none⟩, ⟨some 23, .mv (.t 1), none⟩, ⟨some 24, .len .slice (.t 23), none⟩, ⟨some 25, .bin .sub (.t 24) (.c (.int .i64 1)), none⟩, ⟨some 26, .bin .eql (.t 22) (.t 25), none⟩]) (.seq (.prune [0, 1, 2, 3, 4, 10, 12, 13, 14, 15, 16, 26]) (.cond (.t 26) (.reg [ ⟨some 27, .mv (.t 3), none⟩, ⟨some 13, .mv (.t 27), none⟩]) (.skip)))) (.seq (.prune [0, 1, 2, 3, 4, 10, 12, 13, 14, 15, 16]) (.reg [ ⟨some 28, .mv (.t 10), none⟩, ⟨some 29, .mv (.t 13), none⟩, ⟨some 30, .lda 6 (.t 12), none⟩, ⟨some 31, .mv (.t 4), none⟩, ⟨some 32, .callv false (.t 29) [(.t 30), (.t 31)], none⟩, ⟨some 33, .bsl 12 (.agg [.int .i64 0, .int .i64 0, .int .i64 0, .int .i64 0, .int .i64 0, .int .i64 0, .int .i64 0, .int .i64 0, .lst [] true, .int .i64 0, .int .i64 0, .lst [] true]) 1 [(0, (.t 32))], none⟩, ⟨some 34, .app 12 128 false (.t 28) (.t 33), none⟩, ⟨some 10, .mv (.t 34), none⟩])))))))) (.seq (.prune [0, 1, 2, 3, 4, 10, 14, 15, 16]) (.reg [ ⟨some 35, .bin .add (.t 16) (.c (.int .i64 1)), none⟩, ⟨some 16, .mv (.t 35), none⟩])))))))))))) (.seq (.prune [0, 10]) (.seq (.reg [ ⟨some 36, .mv (.t 10), none⟩, ⟨some 37, .call false 56 [(.t 36), (.c (.fn 45 []))], none⟩]) (.seq (.prune [0, 10, 37]) (.cond (.t 37) (.reg [ ⟨some 38, .mv (.t 0), none⟩, ⟨some 39, .mv (.t 0), none⟩, ⟨some 40, .mv (.t 10), none⟩, ⟨some 41, .nc (.t 38), none⟩, ⟨some 42, .fa 9 (.t 41), none⟩, ⟨none, .sts (.t 42) (.c (.int .i64 2)), none⟩, ⟨some 43, .nc (.t 39), none⟩, ⟨some 44, .fa 11 (.t 43), none⟩, ⟨none, .sts (.t 44) (.t 40), none⟩]) (.skip))))))), []⟩
def a44 : AFunc := ⟨.seq (.reg [ ⟨some 2, .mv (.c (.bool false)), none⟩]) (.seq (.prune [0]) (.seq (.seq (.reg [ ⟨some 3, .mv (.c (.int .i64 0)), none⟩]) (.seq (.prune [0, 3]) (.block 0 (.loop [3, 0] (.seq (.seq (.reg [ ⟨some 4, .mv (.t 3), none⟩, ⟨some 5, .mv (.t 0), none⟩, ⟨some 6, .len .slice (.t 5), none⟩, ⟨some 7, .bin .lss (.t 4) (.t 6), none⟩]) (.seq (.prune [0, 3, 7]) (.cond (.t 7) (.skip) (.exit 0)))) (.seq (.prune [0, 3]) (.seq (.block 1 (.seq (.reg [ ⟨some 10, .mv (.t 0), none⟩, ⟨some 11, .mv (.t 3), none⟩, ⟨some 12, .ia 12 (.t 10) (.t 11), none⟩, ⟨some 13, .lda 12 (.t 12), none⟩, ⟨some 14, .call false 28 [(.t 13)], none⟩, ⟨some 15, .un .not (.t 14), none⟩]) (.seq (.prune [0, 3, 15]) (.cond (.t 15) (.seq (.reg [ ⟨some 2, .mv (.c (.bool false)), none⟩]) (.ret)) (.skip))))) (.seq (.prune [0, 3]) (.reg [ ⟨some 8, .mv (.t 3), none⟩, ⟨some 9, .bin .add (.t 8) (.c (.int .i64 1)), none⟩, ⟨some 3, .mv (.t 9), none⟩]))))))))) (.seq (.prune []) (.seq (.reg [ ⟨some 2, .mv (.c (.bool true)), none⟩]) (.ret))))), [.t 2]⟩
def a45 : AFunc := ⟨.seq (.reg [ ⟨some 1, .box (.t 0), none⟩, ⟨some 2, .mv (.c (.bool false)), none⟩]) (.seq (.prune [1]) (.seq (.reg [ ⟨some 3, .lda 12 (.t 1), none⟩, ⟨some 4, .call false 27 [(.t 3)], none⟩, ⟨some 5, .un .not (.t 4), none⟩, ⟨some 2, .mv (.t 5), none⟩]) (.ret))), [.t 2]⟩
def a46 : AFunc := ⟨.seq (.reg [ ⟨some 2, .box (.t 0), none⟩, ⟨some 4, .mv (.c (.bool false)), none⟩]) (.seq (.prune [1, 2]) (.seq (.seq (.reg [ ⟨some 9, .mv (.t 1), none⟩, ⟨some 10, .bin .eql (.t 9) (.c (.int .i64 0)), none⟩, ⟨some 11, .mv (.t 10), none⟩, ⟨some 12, .fa 6 (.t 2), some (11, false)⟩, ⟨some 13, .lds (.t 12), some (11, false)⟩, ⟨some 14, .bin .lss (.t 13) (.c (.int .i64 0)), some (11, false)⟩, ⟨some 15, .pick (.t 11) (.c (.bool true)) (.t 14), none⟩, ⟨some 16, .mv (.t 15), none⟩, ⟨some 17, .fa 6 (.t 2), some (16, false)⟩, ⟨some 18, .lds (.t 17), some (16, false)⟩, ⟨some 19, .bin .gtr (.t 18) (.c (.int .i64 3)), some (16, false)⟩, ⟨some 20, .pick (.t 16) (.c (.bool true)) (.t 19), none⟩, ⟨some 21, .mv (.t 20), none⟩, ⟨some 22, .fa 9 (.t 2), some (21, false)⟩, ⟨some 23, .lds (.t 22), some (21, false)⟩, ⟨some 24, .bin .lss (.t 23) (.c (.int .i64 0)), some (21, false)⟩, ⟨some 25, .pick (.t 21) (.c (.bool true)) (.t 24), none⟩, ⟨some 26, .mv (.t 25), none⟩, ⟨some 27, .fa 9 (.t 2), some (26, false)⟩, ⟨some 28, .lds (.t 27), some (26, false)⟩, ⟨some 29, .bin .gtr (.t 28) (.c (.int .i64 3)), some (26, false)⟩, ⟨some 30, .pick (.t 26) (.c (.bool true)) (.t 29), none⟩, ⟨some 31, .mv (.t 30), none⟩, ⟨some 32, .fa 7 (.t 2), some (31, false)⟩, ⟨some 33, .lds (.t 32), some (31, false)⟩, ⟨some 34, .bin .lss (.t 33) (.c (.int .i64 0)), some (31, false)⟩, ⟨some 35, .pick (.t 31) (.c (.bool true)) (.t 34), none⟩, ⟨some 36, .mv (.t 35), none⟩, ⟨some 37, .fa 7 (.t 2), some (36, false)⟩, ⟨some 38, .lds (.t 37), some (36, false)⟩, ⟨some 39, .bin .gtr (.t 38) (.c (.int .i64 99)), some (36, false)⟩, ⟨some 40, .pick (.t 36) (.c (.bool true)) (.t 39), none⟩, ⟨some 41, .mv (.t 40), none⟩, ⟨some 42, .fa 10 (.t 2), some (41, false)⟩, ⟨some 43, .lds (.t 42), some (41, false)⟩, ⟨some 44, .bin .lss (.t 43) (.c (.int .i64 0)), some (41, false)⟩, ⟨some 45, .pick (.t 41) (.c (.bool true)) (.t 44), none⟩, ⟨some 46, .mv (.t 45), none⟩, ⟨some 47, .fa 10 (.t 2), some (46, false)⟩, ⟨some 48, .lds (.t 47), some (46, false)⟩, ⟨some 49, .bin .gtr (.t 48) (.c (.int .i64 99)), some (46, false)⟩, ⟨some 50, .pick (.t 46) (.c (.bool true)) (.t 49), none⟩]) (.seq (.prune [1, 2, 50]) (.cond (.t 50) (.seq (.reg [ ⟨some 4, .mv (.c (.bool false)), none⟩]) (.ret)) (.skip)))) (.seq (.prune [1, 2]) (.seq (.seq (.reg [ ⟨some 5, .mv (.c (.int .i64 0)), none⟩]) (.seq (.prune [1, 2, 5]) (.block 0 (.loop [5, 1, 2] (.seq (.seq (.reg [ ⟨some 51, .mv (.t 5), none⟩, ⟨some 52, .bin .lss (.t 51) (.c (.int .i64 6)), none⟩]) (.seq (.prune [1, 2, 5, 52]) (.cond (.t 52) (.skip) (.exit 0)))) (.seq (.prune [1, 2, 5]) (.seq (.block 1 (.seq (.reg [ ⟨some 55, .mv (.t 5), none⟩, ⟨some 56, .fa 0 (.t 2), none⟩, ⟨some 57, .iaa 6 1 (.t 56) (.t 55), none⟩, ⟨some 58, .lds (.t 57), none⟩, ⟨some 59, .bin .lss (.t 58) (.c (.int .i64 0)), none⟩, ⟨some 60, .mv (.t 59), none⟩, ⟨some 61, .mv (.t 5), some (60, false)⟩, ⟨some 62, .fa 0 (.t 2), some (60, false)⟩, ⟨some 63, .iaa 6 1 (.t 62) (.t 61), some (60, false)⟩, ⟨some 64, .lds (.t 63), some (60, false)⟩, ⟨some 65, .bin .gtr (.t 64) (.c (.int .i64 99)), some (60, false)⟩, ⟨some 66, .pick (.t 60) (.c (.bool true)) (.t 65), none⟩]) (.seq (.prune [1, 2, 5, 66]) (.cond (.t 66) (.seq (.reg [ ⟨some 4, .mv (.c (.bool false)), none⟩]) (.ret)) (.skip))))) (.seq (.prune [1, 2, 5]) (.reg [ ⟨some 53, .mv (.t 5), none⟩, ⟨some 54, .bin .add (.t 53) (.c (.int .i64 1)), none⟩, ⟨some 5, .mv (.t 54), none⟩]))))))))) (.seq (.prune [1, 2]) (.seq (.reg [ ⟨some 67, .bsl 1 (.int .i64 0) 4 [(0, (.c (.int .i64 0))), (1, (.c (.int .i64 0))), (2, (.c (.int .i64 2))), (3, (.c (.int .i64 1)))], none⟩, ⟨some 6, .mv (.t 67), none⟩]) (.seq (.prune [1, 2, 6]) (.seq (.seq (.draw 0 [ (⟨some 68, .fa 8 (.t 2), none⟩, 0, []), (⟨some 69, .lds (.t 68), none⟩, 0, [0]), (⟨some 70, .len .slice (.t 69), none⟩, 0, [0, 1]), (⟨some 71, .mv (.t 6), none⟩, 0, []), (⟨some 72, .fa 6 (.t 2), none⟩, 0, []), (⟨some 73, .lds (.t 72), none⟩, 0, [4]), (⟨some 74, .ia 1 (.t 71) (.t 73), none⟩, 0, [3, 4, 5]), (⟨some 75, .lds (.t 74), none⟩, 0, [3, 4, 5, 6]), (⟨some 76, .bin .neq (.t 70) (.t 75), none⟩, 0, [0, 1, 2, 3, 4, 5, 6, 7]), (⟨some 77, .mv (.t 76), none⟩, 0, [0, 1, 2, 3, 4, 5, 6, 7, 8]), (⟨some 78, .fa 6 (.t 2), some (77, false)⟩, 0, [0, 1, 2, 3, 4, 5, 6, 7, 8, 9]), (⟨some 79, .lds (.t 78), some (77, false)⟩, 0, [0, 1, 2, 3, 4, 5, 6, 7, 8, 9, 10]), (⟨some 80, .bin .eql (.t 79) (.c (.int .i64 1)), some (77, false)⟩, 0, [0, 1, 2, 3, 4, 5, 6, 7, 8, 9, 10, 11]), (⟨some 81, .mv (.t 80), some (77, false)⟩, 0, [0, 1, 2, 3, 4, 5, 6, 7, 8, 9, 10, 11, 12]), (⟨some 82, .fa 7 (.t 2), some (81, true)⟩, 0, [0, 1, 2, 3, 4, 5, 6, 7, 8, 9, 10, 11, 12, 13]), (⟨some 83, .lds (.t 82), some (81, true)⟩, 0, [0, 1, 2, 3, 4, 5, 6, 7, 8, 9, 10, 11, 12, 13, 14]), (⟨some 84, .bin .eql (.t 83) (.c (.int .i64 0)), some (81, true)⟩, 0, [0, 1, 2, 3, 4, 5, 6, 7, 8, 9, 10, 11, 12, 13, 14, 15]), (⟨some 85, .pick (.t 81) (.t 84) (.c (.bool false)), some (77, false)⟩, 0, [0, 1, 2, 3, 4, 5, 6, 7, 8, 9, 10, 11, 12, 13, 14, 15, 16]), (⟨some 86, .pick (.t 77) (.c (.bool true)) (.t 85), none⟩, 0, [0, 1, 2, 3, 4, 5, 6, 7, 8, 9, 10, 11, 12, 13, 14, 15, 16, 17]), (⟨some 87, .mv (.t 86), none⟩, 0, [0, 1, 2, 3, 4, 5, 6, 7, 8, 9, 10, 11, 12, 13, 14, 15, 16, 17, 18]), (⟨some 88, .fa 6 (.t 2), some (87, false)⟩, 0, [0, 1, 2, 3, 4, 5, 6, 7, 8, 9, 10, 11, 12, 13, 14, 15, 16, 17, 18, 19]), (⟨some 89, .lds (.t 88), some (87, false)⟩, 0, [0, 1, 2, 3, 4, 5, 6, 7, 8, 9, 10, 11, 12, 13, 14, 15, 16, 17, 18, 19, 20]), (⟨some 90, .bin .eql (.t 89) (.c (.int .i64 0)), some (87, false)⟩, 0, [0, 1, 2, 3, 4, 5, 6, 7, 8, 9, 10, 11, 12, 13, 14, 15, 16, 17, 18, 19, 20, 21]), (⟨some 91, .mv (.t 90), some (87, false)⟩, 0, [0, 1, 2, 3, 4, 5, 6, 7, 8, 9, 10, 11, 12, 13, 14, 15, 16, 17, 18, 19, 20, 21, 22]), (⟨some 92, .fa 6 (.t 2), some (91, false)⟩, 0, [0, 1, 2, 3, 4, 5, 6, 7, 8, 9, 10, 11, 12, 13, 14, 15, 16, 17, 18, 19, 20, 21, 22, 23]), (⟨some 93, .lds (.t 92), some (91, false)⟩, 0, [0, 1, 2, 3, 4, 5, 6, 7, 8, 9, 10, 11, 12, 13, 14, 15, 16, 17, 18, 19, 20, 21, 22, 23, 24]), (⟨some 94, .bin .eql (.t 93) (.c (.int .i64 2)), some (91, false)⟩, 0, [0, 1, 2, 3, 4, 5, 6, 7, 8, 9, 10, 11, 12, 13, 14, 15, 16, 17, 18, 19, 20, 21, 22, 23, 24, 25]), (⟨some 95, .pick (.t 91) (.c (.bool true)) (.t 94), some (87, false)⟩, 0, [0, 1, 2, 3, 4, 5, 6, 7, 8, 9, 10, 11, 12, 13, 14, 15, 16, 17, 18, 19, 20, 21, 22, 23, 24, 25, 26]), (⟨some 96, .mv (.t 95), some (87, false)⟩, 0, [0, 1, 2, 3, 4, 5, 6, 7, 8, 9, 10, 11, 12, 13, 14, 15, 16, 17, 18, 19, 20, 21, 22, 23, 24, 25, 26, 27]), (⟨some 97, .fa 7 (.t 2), some (96, true)⟩, 0, [0, 1, 2, 3, 4, 5, 6, 7, 8, 9, 10, 11, 12, 13, 14, 15, 16, 17, 18, 19, 20, 21, 22, 23, 24, 25, 26, 27, 28]), (⟨some 98, .lds (.t 97), some (96, true)⟩, 0, [0, 1, 2, 3, 4, 5, 6, 7, 8, 9, 10, 11, 12, 13, 14, 15, 16, 17, 18, 19, 20, 21, 22, 23, 24, 25, 26, 27, 28, 29]), (⟨some 99, .bin .neq (.t 98) (.c (.int .i64 0)), some (96, true)⟩, 0, [0, 1, 2, 3, 4, 5, 6, 7, 8, 9, 10, 11, 12, 13, 14, 15, 16, 17, 18, 19, 20, 21, 22, 23, 24, 25, 26, 27, 28, 29, 30]), (⟨some 100, .pick (.t 96) (.t 99) (.c (.bool false)), some (87, false)⟩, 0, [0, 1, 2, 3, 4, 5, 6, 7, 8, 9, 10, 11, 12, 13, 14, 15, 16, 17, 18, 19, 20, 21, 22, 23, 24, 25, 26, 27, 28, 29, 30, 31]), (⟨some 101, .pick (.t 87) (.c (.bool true)) (.t 100), none⟩, 0, [0, 1, 2, 3, 4, 5, 6, 7, 8, 9, 10, 11, 12, 13, 14, 15, 16, 17, 18, 19, 20, 21, 22, 23, 24, 25, 26, 27, 28, 29, 30, 31, 32])]) (.seq (.prune [1, 2, 101]) (.cond (.t 101) (.seq (.reg [ ⟨some 4, .mv (.c (.bool false)), none⟩]) (.ret)) (.skip)))) (.seq (.prune [1, 2]) (.seq (.seq (.reg [ ⟨some 102, .fa 6 (.t 2), none⟩, ⟨some 103, .lds (.t 102), none⟩, ⟨some 104, .bin .geq (.t 103) (.c (.int .i64 2)), none⟩, ⟨some 105, .mv (.t 104), none⟩, ⟨some 106, .fa 8 (.t 2), some (105, true)⟩, ⟨some 107, .lds (.t 106), some (105, true)⟩, ⟨some 108, .call false 44 [(.t 107)], some (105, true)⟩, ⟨some 109, .pick (.t 105) (.t 108) (.c (.bool false)), none⟩, ⟨some 110, .mv (.t 109), none⟩, ⟨some 111, .fa 7 (.t 2), some (110, true)⟩, ⟨some 112, .lds (.t 111), some (110, true)⟩, ⟨some 113, .bin .eql (.t 112) (.c (.int .i64 0)), some (110, true)⟩, ⟨some 114, .pick (.t 110) (.t 113) (.c (.bool false)), none⟩]) (.seq (.prune [1, 2, 114]) (.cond (.t 114) (.seq (.reg [ ⟨some 4, .mv (.c (.bool false)), none⟩]) (.ret)) (.skip)))) (.seq (.prune [1, 2]) (.seq (.seq (.reg [ ⟨some 115, .fa 9 (.t 2), none⟩, ⟨some 116, .lds (.t 115), none⟩, ⟨some 117, .bin .neq (.t 116) (.c (.int .i64 2)), none⟩, ⟨some 118, .mv (.t 117), none⟩, ⟨some 119, .fa 11 (.t 2), some (118, true)⟩, ⟨some 120, .lds (.t 119), some (118, true)⟩, ⟨some 121, .len .slice (.t 120), some (118, true)⟩, ⟨some 122, .bin .neq (.t 121) (.c (.int .i64 0)), some (118, true)⟩, ⟨some 123, .pick (.t 118) (.t 122) (.c (.bool false)), none⟩, ⟨some 124, .mv (.t 123), none⟩, ⟨some 125, .fa 9 (.t 2), some (124, false)⟩, ⟨some 126, .lds (.t 125), some (124, false)⟩, ⟨some 127, .bin .eql (.t 126) (.c (.int .i64 2)), some (124, false)⟩, ⟨some 128, .mv (.t 127), some (124, false)⟩, ⟨some 129, .fa 11 (.t 2), some (128, true)⟩, ⟨some 130, .lds (.t 129), some (128, true)⟩, ⟨some 131, .len .slice (.t 130), some (128, true)⟩, ⟨some 132, .bin .lss (.t 131) (.c (.int .i64 1)), some (128, true)⟩, ⟨some 133, .mv (.t 132), some (128, true)⟩, ⟨some 134, .fa 11 (.t 2), some (133, false)⟩, ⟨some 135, .lds (.t 134), some (133, false)⟩, ⟨some 136, .len .slice (.t 135), some (133, false)⟩, ⟨some 137, .bin .gtr (.t 136) (.c (.int .i64 9)), some (133, false)⟩, ⟨some 138, .pick (.t 133) (.c (.bool true)) (.t 137), some (128, true)⟩, ⟨some 139, .mv (.t 138), some (128, true)⟩, ⟨some 140, .fa 11 (.t 2), some (139, false)⟩, ⟨some 141, .lds (.t 140), some (139, false)⟩, ⟨some 142, .call false 44 [(.t 141)], some (139, false)⟩, ⟨some 143, .pick (.t 139) (.c (.bool true)) (.t 142), some (128, true)⟩, ⟨some 144, .pick (.t 128) (.t 143) (.c (.bool false)), some (124, false)⟩, ⟨some 145, .pick (.t 124) (.c (.bool true)) (.t 144), none⟩, ⟨some 146, .mv (.t 145), none⟩, ⟨some 147, .fa 9 (.t 2), some (146, false)⟩, ⟨some 148, .lds (.t 147), some (146, false)⟩, ⟨some 149, .bin .eql (.t 148) (.c (.int .i64 1)), some (146, false)⟩, ⟨some 150, .fa 10 (.t 2), some (146, false)⟩, ⟨some 151, .lds (.t 150), some (146, false)⟩, ⟨some 152, .bin .neq (.t 151) (.c (.int .i64 0)), some (146, false)⟩, ⟨some 153, .eqv true .bool (.t 149) (.t 152), some (146, false)⟩, ⟨some 154, .pick (.t 146) (.c (.bool true)) (.t 153), none⟩]) (.seq (.prune [1, 2, 154]) (.cond (.t 154) (.seq (.reg [ ⟨some 4, .mv (.c (.bool false)), none⟩]) (.ret)) (.skip)))) (.seq (.prune [1, 2]) (.seq (.seq (.reg [ ⟨some 7, .mv (.c (.int .i64 0)), none⟩]) (.seq (.prune [1, 2, 7]) (.block 2 (.loop [7, 1, 2] (.seq (.seq (.reg [ ⟨some 155, .mv (.t 7), none⟩, ⟨some 156, .fa 8 (.t 2), none⟩, ⟨some 157, .lds (.t 156), none⟩, ⟨some 158, .len .slice (.t 157), none⟩, ⟨some 159, .bin .lss (.t 155) (.t 158), none⟩]) (.seq (.prune [1, 2, 7, 159]) (.cond (.t 159) (.skip) (.exit 2)))) (.seq (.prune [1, 2, 7]) (.seq (.block 3 (.seq (.reg [ ⟨some 162, .fa 8 (.t 2), none⟩, ⟨some 163, .lds (.t 162), none⟩, ⟨some 164, .mv (.t 7), none⟩, ⟨some 165, .ia 12 (.t 163) (.t 164), none⟩, ⟨some 166, .lda 12 (.t 165), none⟩, ⟨some 167, .mv (.t 1), none⟩, ⟨some 168, .bin .sub (.t 167) (.c (.int .i64 1)), none⟩, ⟨some 169, .call false 46 [(.t 166), (.t 168)], none⟩, ⟨some 170, .un .not (.t 169), none⟩]) (.seq (.prune [1, 2, 7, 170]) (.cond (.t 170) (.seq (.reg [ ⟨some 4, .mv (.c (.bool false)), none⟩]) (.ret)) (.skip))))) (.seq (.prune [1, 2, 7]) (.reg [ ⟨some 160, .mv (.t 7), none⟩, ⟨some 161, .bin .add (.t 160) (.c (.int .i64 1)), none⟩, ⟨some 7, .mv (.t 161), none⟩]))))))))) (.seq (.prune [1, 2]) (.seq (.seq (.reg [ ⟨some 8, .mv (.c (.int .i64 0)), none⟩]) (.seq (.prune [1, 2, 8]) (.block 4 (.loop [8, 1, 2] (.seq (.seq (.reg [ ⟨some 171, .mv (.t 8), none⟩, ⟨some 172, .fa 11 (.t 2), none⟩, ⟨some 173, .lds (.t 172), none⟩, ⟨some 174, .len .slice (.t 173), none⟩, ⟨some 175, .bin .lss (.t 171) (.t 174), none⟩]) (.seq (.prune [1, 2, 8, 175]) (.cond (.t 175) (.skip) (.exit 4)))) (.seq (.prune [1, 2, 8]) (.seq (.block 5 (.seq (.reg [ ⟨some 178, .fa 11 (.t 2), none⟩, ⟨some 179, .lds (.t 178), none⟩, ⟨some 180, .mv (.t 8), none⟩, ⟨some 181, .ia 12 (.t 179) (.t 180), none⟩, ⟨some 182, .lda 12 (.t 181), none⟩, ⟨some 183, .mv (.t 1), none⟩, ⟨some 184, .bin .sub (.t 183) (.c (.int .i64 1)), none⟩, ⟨some 185, .call false 46 [(.t 182), (.t 184)], none⟩, ⟨some 186, .un .not (.t 185), none⟩]) (.seq (.prune [1, 2, 8, 186]) (.cond (.t 186) (.seq (.reg [ ⟨some 4, .mv (.c (.bool false)), none⟩]) (.ret)) (.skip))))) (.seq (.prune [1, 2, 8]) (.reg [ ⟨some 176, .mv (.t 8), none⟩, ⟨some 177, .bin .add (.t 176) (.c (.int .i64 1)), none⟩, ⟨some 8, .mv (.t 177), none⟩]))))))))) (.seq (.prune []) (.seq (.reg [ ⟨some 4, .mv (.c (.bool true)), none⟩]) (.ret))))))))))))))))))), [.t 4]⟩
def a47 : AFunc := ⟨.seq (.reg [ ⟨some 2, .mv (.c (.int .i64 0)), none⟩]) (.seq (.prune [0]) (.seq (.reg [ ⟨some 3, .mv (.c (.int .i64 0)), none⟩]) (.seq (.prune [0, 3]) (.seq (.seq (.reg [ ⟨some 6, .mv (.t 0), none⟩, ⟨some 7, .len .slice (.t 6), none⟩, ⟨some 8, .mv (.c (.int .i64 0)), none⟩]) (.seq (.prune [3, 6, 7, 8]) (.block 0 (.loop [8, 3, 6, 7] (.seq (.reg [ ⟨some 9, .bin .lss (.t 8) (.t 7), none⟩]) (.seq (.prune [3, 6, 7, 8, 9]) (.seq (.cond (.t 9) (.skip) (.exit 0)) (.seq (.prune [3, 6, 7, 8]) (.seq (.block 1 (.seq (.reg [ ⟨some 10, .ia 1 (.t 6) (.t 8), none⟩, ⟨some 11, .lds (.t 10), none⟩, ⟨some 5, .mv (.t 11), none⟩]) (.seq (.prune [3, 5, 6, 7, 8]) (.seq (.reg [ ⟨some 12, .mv (.t 5), none⟩, ⟨some 13, .mv (.t 3), none⟩, ⟨some 14, .bin .neq (.t 12) (.t 13), none⟩]) (.seq (.prune [3, 5, 6, 7, 8, 14]) (.cond (.t 14) (.seq (.reg [ ⟨some 15, .mv (.t 5), none⟩, ⟨some 2, .mv (.t 15), none⟩]) (.ret)) (.skip))))))) (.seq (.prune [3, 6, 7, 8]) (.reg [ ⟨some 16, .bin .add (.t 8) (.c (.int .i64 1)), none⟩, ⟨some 8, .mv (.t 16), none⟩]))))))))))) (.seq (.prune [3]) (.seq (.reg [ ⟨some 17, .mv (.t 3), none⟩, ⟨some 2, .mv (.t 17), none⟩]) (.ret))))))), [.t 2]⟩
def a48 : AFunc := ⟨.seq (.reg [ ⟨some 4, .mv (.c (.bool false)), none⟩]) (.seq (.prune [0, 1]) (.seq (.reg [ ⟨some 5, .mv (.t 0), none⟩, ⟨some 6, .bin .eql (.t 5) (.c (.int .i64 1)), none⟩, ⟨some 7, .mv (.t 6), none⟩, ⟨some 8, .mv (.t 1), some (7, false)⟩, ⟨some 9, .bin .eql (.t 8) (.c (.int .i64 0)), some (7, false)⟩, ⟨some 10, .pick (.t 7) (.c (.bool true)) (.t 9), none⟩, ⟨some 4, .mv (.t 10), none⟩]) (.ret))), [.t 4]⟩
def a49 : AFunc := ⟨.seq (.reg [ ⟨some 4, .mv (.c (.int .i64 0)), none⟩]) (.seq (.prune [0, 1]) (.seq (.seq (.reg [ ⟨some 5, .mv (.t 0), none⟩, ⟨some 6, .bin .neq (.t 5) (.c (.int .i64 0)), none⟩]) (.seq (.prune [0, 1, 6]) (.cond (.t 6) (.seq (.reg [ ⟨some 7, .mv (.t 0), none⟩, ⟨some 4, .mv (.t 7), none⟩]) (.ret)) (.skip)))) (.seq (.prune [1]) (.seq (.reg [ ⟨some 8, .mv (.t 1), none⟩, ⟨some 4, .mv (.t 8), none⟩]) (.ret))))), [.t 4]⟩
def a50 : AFunc := ⟨.seq (.reg [ ⟨some 2, .box (.t 0), none⟩, ⟨some 3, .box (.t 1), none⟩, ⟨some 4, .mv (.c (.bool false)), none⟩]) (.seq (.prune [2, 3]) (.seq (.reg [ ⟨some 8, .mkf 57 [(.t 3)], none⟩, ⟨some 5, .mv (.t 8), none⟩]) (.seq (.prune [2, 3, 5]) (.seq (.reg [ ⟨some 6, .mv (.c (.fn 58 [])), none⟩]) (.seq (.prune [2, 3, 5, 6]) (.seq (.reg [ ⟨some 9, .fa 8 (.t 2), none⟩, ⟨some 10, .lds (.t 9), none⟩, ⟨some 11, .call false 56 [(.t 10), (.c (.fn 45 []))], none⟩, ⟨some 7, .mv (.t 11), none⟩]) (.seq (.prune [2, 3, 5, 6, 7]) (.seq (.block 0 (.seq (.reg [ ⟨some 13, .lds (.t 3), none⟩, ⟨some 14, .bin .eql (.t 13) (.c (.int .i64 0)), none⟩, ⟨some 15, .mv (.t 14), none⟩, ⟨some 16, .fa 0 (.t 2), some (15, false)⟩, ⟨some 17, .slca 6 1 none (.t 16) none none none, some (15, false)⟩, ⟨some 18, .mv (.t 6), some (15, false)⟩, ⟨some 19, .call false 60 [(.t 17), (.t 18)], some (15, false)⟩, ⟨some 20, .pick (.t 15) (.c (.bool true)) (.t 19), none⟩, ⟨some 21, .mv (.t 20), none⟩, ⟨some 22, .mv (.t 6), some (21, false)⟩, ⟨some 23, .fa 7 (.t 2), some (21, false)⟩, ⟨some 24, .lds (.t 23), some (21, false)⟩, ⟨some 25, .callv false (.t 22) [(.t 24)], some (21, false)⟩, ⟨some 26, .pick (.t 21) (.c (.bool true)) (.t 25), none⟩, ⟨some 27, .mv (.t 26), none⟩, ⟨some 28, .mv (.t 6), some (27, false)⟩, ⟨some 29, .fa 10 (.t 2), some (27, false)⟩, ⟨some 30, .lds (.t 29), some (27, false)⟩, ⟨some 31, .callv false (.t 28) [(.t 30)], some (27, false)⟩, ⟨some 32, .pick (.t 27) (.c (.bool true)) (.t 31), none⟩, ⟨some 12, .mv (.t 32), none⟩]) (.seq (.prune [2, 5, 7, 12]) (.cond (.t 12) (.seq (.reg [ ⟨some 4, .mv (.c (.bool false)), none⟩]) (.ret)) (.seq (.reg [ ⟨some 34, .fa 6 (.t 2), none⟩, ⟨some 35, .lds (.t 34), none⟩, ⟨some 36, .bin .lss (.t 35) (.c (.int .i64 0)), none⟩, ⟨some 37, .mv (.t 36), none⟩, ⟨some 38, .fa 6 (.t 2), some (37, false)⟩, ⟨some 39, .lds (.t 38), some (37, false)⟩, ⟨some 40, .bin .gtr (.t 39) (.c (.int .i64 3)), some (37, false)⟩, ⟨some 41, .pick (.t 37) (.c (.bool true)) (.t 40), none⟩, ⟨some 42, .mv (.t 41), none⟩, ⟨some 43, .fa 9 (.t 2), some (42, false)⟩, ⟨some 44, .lds (.t 43), some (42, false)⟩, ⟨some 45, .bin .lss (.t 44) (.c (.int .i64 0)), some (42, false)⟩, ⟨some 46, .pick (.t 42) (.c (.bool true)) (.t 45), none⟩, ⟨some 47, .mv (.t 46), none⟩, ⟨some 48, .fa 9 (.t 2), some (47, false)⟩, ⟨some 49, .lds (.t 48), some (47, false)⟩, ⟨some 50, .bin .gtr (.t 49) (.c (.int .i64 3)), some (47, false)⟩, ⟨some 51, .pick (.t 47) (.c (.bool true)) (.t 50), none⟩, ⟨some 33, .mv (.t 51), none⟩]) (.seq (.prune [2, 5, 7, 33]) (.cond (.t 33) (.seq (.reg [ ⟨some 4, .mv (.c (.bool false)), none⟩]) (.ret)) (.seq (.draw 0 [ (⟨some 53, .fa 8 (.t 2), none⟩, 0, []), (⟨some 54, .lds (.t 53), none⟩, 0, [0]), (⟨some 55, .len .slice (.t 54), none⟩, 0, [0, 1]), (⟨some 56, .build [.int .i64 0, .int .i64 0, .int .i64 0, .int .i64 0] [(0, 1, (.c (.int .i64 0))), (1, 1, (.c (.int .i64 0))), (2, 1, (.c (.int .i64 2))), (3, 1, (.c (.int .i64 1)))], none⟩, 0, []), (⟨some 57, .fa 6 (.t 2), none⟩, 0, []), (⟨some 58, .lds (.t 57), none⟩, 0, [4]), (⟨some 59, .ixa 4 1 none (.t 56) (.t 58), none⟩, 0, [3, 4, 5]), (⟨some 60, .bin .neq (.t 55) (.t 59), none⟩, 0, [0, 1, 2, 3, 4, 5, 6]), (⟨some 52, .mv (.t 60), none⟩, 0, [0, 1, 2, 3, 4, 5, 6, 7])]) (.seq (.prune [2, 5, 7, 52]) (.cond (.t 52) (.seq (.reg [ ⟨some 4, .mv (.c (.bool false)), none⟩]) (.ret)) (.seq (.reg [ ⟨some 62, .fa 6 (.t 2), none⟩, ⟨some 63, .lds (.t 62), none⟩, ⟨some 64, .bin .eql (.t 63) (.c (.int .i64 1)), none⟩, ⟨some 65, .mv (.t 64), none⟩, ⟨some 66, .fa 7 (.t 2), some (65, true)⟩, ⟨some 67, .lds (.t 66), some (65, true)⟩, ⟨some 68, .bin .eql (.t 67) (.c (.int .i64 0)), some (65, true)⟩, ⟨some 69, .pick (.t 65) (.t 68) (.c (.bool false)), none⟩, ⟨some 70, .mv (.t 69), none⟩, ⟨some 71, .fa 6 (.t 2), some (70, false)⟩, ⟨some 72, .lds (.t 71), some (70, false)⟩, ⟨some 73, .bin .eql (.t 72) (.c (.int .i64 3)), some (70, false)⟩, ⟨some 74, .mv (.t 73), some (70, false)⟩, ⟨some 75, .fa 7 (.t 2), some (74, true)⟩, ⟨some 76, .lds (.t 75), some (74, true)⟩, ⟨some 77, .bin .eql (.t 76) (.c (.int .i64 0)), some (74, true)⟩, ⟨some 78, .pick (.t 74) (.t 77) (.c (.bool false)), some (70, false)⟩, ⟨some 79, .mv (.t 78), some (70, false)⟩, ⟨some 80, .mv (.t 7), some (79, true)⟩, ⟨some 81, .un .not (.t 80), some (79, true)⟩, ⟨some 82, .pick (.t 79) (.t 81) (.c (.bool false)), some (70, false)⟩, ⟨some 83, .pick (.t 70) (.c (.bool true)) (.t 82), none⟩, ⟨some 61, .mv (.t 83), none⟩]) (.seq (.prune [2, 5, 7, 61]) (.cond (.t 61) (.seq (.reg [ ⟨some 4, .mv (.c (.bool false)), none⟩]) (.ret)) (.seq (.reg [ ⟨some 85, .fa 6 (.t 2), none⟩, ⟨some 86, .lds (.t 85), none⟩, ⟨some 87, .bin .eql (.t 86) (.c (.int .i64 2)), none⟩, ⟨some 88, .mv (.t 87), none⟩, ⟨some 89, .mv (.t 7), some (88, true)⟩, ⟨some 90, .un .not (.t 89), some (88, true)⟩, ⟨some 91, .pick (.t 88) (.t 90) (.c (.bool false)), none⟩, ⟨some 92, .mv (.t 91), none⟩, ⟨some 93, .fa 6 (.t 2), some (92, false)⟩, ⟨some 94, .lds (.t 93), some (92, false)⟩, ⟨some 95, .bin .eql (.t 94) (.c (.int .i64 0)), some (92, false)⟩, ⟨some 96, .mv (.t 95), some (92, false)⟩, ⟨some 97, .fa 6 (.t 2), some (96, false)⟩, ⟨some 98, .lds (.t 97), some (96, false)⟩, ⟨some 99, .bin .eql (.t 98) (.c (.int .i64 2)), some (96, false)⟩, ⟨some 100, .pick (.t 96) (.c (.bool true)) (.t 99), some (92, false)⟩, ⟨some 101, .mv (.t 100), some (92, false)⟩, ⟨some 102, .fa 7 (.t 2), some (101, true)⟩, ⟨some 103, .lds (.t 102), some (101, true)⟩, ⟨some 104, .bin .neq (.t 103) (.c (.int .i64 0)), some (101, true)⟩, ⟨some 105, .pick (.t 101) (.t 104) (.c (.bool false)), some (92, false)⟩, ⟨some 106, .pick (.t 92) (.c (.bool true)) (.t 105), none⟩, ⟨some 84, .mv (.t 106), none⟩]) (.seq (.prune [2, 5, 84]) (.cond (.t 84) (.seq (.reg [ ⟨some 4, .mv (.c (.bool false)), none⟩]) (.ret)) (.seq (.reg [ ⟨some 108, .fa 9 (.t 2), none⟩, ⟨some 109, .lds (.t 108), none⟩, ⟨some 110, .bin .eql (.t 109) (.c (.int .i64 2)), none⟩, ⟨some 111, .mv (.t 110), none⟩, ⟨some 112, .fa 11 (.t 2), some (111, true)⟩, ⟨some 113, .lds (.t 112), some (111, true)⟩, ⟨some 114, .len .slice (.t 113), some (111, true)⟩, ⟨some 115, .bin .gtr (.t 114) (.c (.int .i64 9)), some (111, true)⟩, ⟨some 116, .mv (.t 115), some (111, true)⟩, ⟨some 117, .fa 11 (.t 2), some (116, false)⟩, ⟨some 118, .lds (.t 117), some (116, false)⟩, ⟨some 119, .call false 56 [(.t 118), (.c (.fn 45 []))], some (116, false)⟩, ⟨some 120, .un .not (.t 119), some (116, false)⟩, ⟨some 121, .pick (.t 116) (.c (.bool true)) (.t 120), some (111, true)⟩, ⟨some 122, .pick (.t 111) (.t 121) (.c (.bool false)), none⟩, ⟨some 107, .mv (.t 122), none⟩]) (.seq (.prune [2, 5, 107]) (.cond (.t 107) (.seq (.reg [ ⟨some 4, .mv (.c (.bool false)), none⟩]) (.ret)) (.seq (.reg [ ⟨some 124, .fa 9 (.t 2), none⟩, ⟨some 125, .lds (.t 124), none⟩, ⟨some 126, .bin .neq (.t 125) (.c (.int .i64 2)), none⟩, ⟨some 127, .mv (.t 126), none⟩, ⟨some 128, .fa 11 (.t 2), some (127, true)⟩, ⟨some 129, .lds (.t 128), some (127, true)⟩, ⟨some 130, .len .slice (.t 129), some (127, true)⟩, ⟨some 131, .bin .gtr (.t 130) (.c (.int .i64 0)), some (127, true)⟩, ⟨some 132, .pick (.t 127) (.t 131) (.c (.bool false)), none⟩, ⟨some 133, .mv (.t 132), none⟩, ⟨some 134, .fa 9 (.t 2), some (133, false)⟩, ⟨some 135, .lds (.t 134), some (133, false)⟩, ⟨some 136, .bin .eql (.t 135) (.c (.int .i64 1)), some (133, false)⟩, ⟨some 137, .fa 10 (.t 2), some (133, false)⟩, ⟨some 138, .lds (.t 137), some (133, false)⟩, ⟨some 139, .bin .neq (.t 138) (.c (.int .i64 0)), some (133, false)⟩, ⟨some 140, .eqv true .bool (.t 136) (.t 139), some (133, false)⟩, ⟨some 141, .pick (.t 133) (.c (.bool true)) (.t 140), none⟩, ⟨some 123, .mv (.t 141), none⟩]) (.seq (.prune [2, 5, 123]) (.cond (.t 123) (.seq (.reg [ ⟨some 4, .mv (.c (.bool false)), none⟩]) (.ret)) (.skip))))))))))))))))))))))) (.seq (.prune [2, 5]) (.seq (.reg [ ⟨some 142, .fa 8 (.t 2), none⟩, ⟨some 143, .lds (.t 142), none⟩, ⟨some 144, .mv (.t 5), none⟩, ⟨some 145, .call false 56 [(.t 143), (.t 144)], none⟩, ⟨some 146, .un .not (.t 145), none⟩, ⟨some 147, .mv (.t 146), none⟩, ⟨some 148, .fa 11 (.t 2), some (147, true)⟩, ⟨some 149, .lds (.t 148), some (147, true)⟩, ⟨some 150, .mv (.t 5), some (147, true)⟩, ⟨some 151, .call false 56 [(.t 149), (.t 150)], some (147, true)⟩, ⟨some 152, .un .not (.t 151), some (147, true)⟩, ⟨some 153, .pick (.t 147) (.t 152) (.c (.bool false)), none⟩, ⟨some 4, .mv (.t 153), none⟩]) (.ret))))))))))), [.t 4]⟩
def a51 : AFunc := ⟨.seq (.reg [ ⟨some 2, .mv (.c (.lst [] true)), none⟩]) (.seq (.prune [0]) (.seq (.reg [ ⟨some 3, .mv (.c (.int .i64 0)), none⟩]) (.seq (.prune [0, 3]) (.seq (.seq (.reg [ ⟨some 9, .mv (.t 0), none⟩, ⟨some 10, .len .slice (.t 9), none⟩, ⟨some 11, .mv (.c (.int .i64 0)), none⟩]) (.seq (.prune [0, 3, 9, 10, 11]) (.block 0 (.loop [3, 11, 0, 9, 10] (.seq (.reg [ ⟨some 12, .bin .lss (.t 11) (.t 10), none⟩]) (.seq (.prune [0, 3, 9, 10, 11, 12]) (.seq (.cond (.t 12) (.skip) (.exit 0)) (.seq (.prune [0, 3, 9, 10, 11]) (.seq (.block 1 (.seq (.reg [ ⟨some 13, .ia 1 (.t 9) (.t 11), none⟩, ⟨some 14, .lds (.t 13), none⟩, ⟨some 5, .mv (.t 14), none⟩]) (.seq (.prune [0, 3, 5, 9, 10, 11]) (.seq (.reg [ ⟨some 15, .mv (.t 3), none⟩, ⟨some 16, .mv (.t 5), none⟩, ⟨some 17, .len .slice (.t 16), none⟩, ⟨some 18, .bin .add (.t 15) (.t 17), none⟩, ⟨some 3, .mv (.t 18), none⟩]) (.seq (.prune [0, 3, 9, 10, 11]) (.seq (.reg [ ⟨some 19, .mv (.t 3), none⟩, ⟨some 20, .bin .lss (.t 19) (.c (.int .i64 0)), none⟩]) (.seq (.prune [0, 3, 9, 10, 11, 20]) (.cond (.t 20) (.reg [ ⟨some 21, .mki 9 (.c (.str [108, 101, 110, 32, 111, 117, 116, 32, 111, 102, 32, 114, 97, 110, 103, 101])), none⟩, ⟨none, .panic (.t 21), none⟩]) (.skip))))))))) (.seq (.prune [0, 3, 9, 10, 11]) (.reg [ ⟨some 22, .bin .add (.t 11) (.c (.int .i64 1)), none⟩, ⟨some 11, .mv (.t 22), none⟩]))))))))))) (.seq (.prune [0, 3]) (.seq (.reg [ ⟨some 23, .mv (.t 3), none⟩, ⟨some 24, .call true 61 [(.c (.lst [] true)), (.t 23)], none⟩, ⟨some 6, .mv (.t 24), none⟩]) (.seq (.prune [0, 6]) (.seq (.seq (.reg [ ⟨some 25, .mv (.t 0), none⟩, ⟨some 26, .len .slice (.t 25), none⟩, ⟨some 27, .mv (.c (.int .i64 0)), none⟩]) (.seq (.prune [6, 25, 26, 27]) (.block 2 (.seq (.own 6 none) (.loop [6, 27, 25, 26] (.seq (.reg [ ⟨some 28, .bin .lss (.t 27) (.t 26), none⟩]) (.seq (.prune [6, 25, 26, 27, 28]) (.seq (.cond (.t 28) (.skip) (.exit 2)) (.seq (.prune [6, 25, 26, 27]) (.seq (.block 3 (.seq (.reg [ ⟨some 29, .ia 1 (.t 25) (.t 27), none⟩, ⟨some 30, .lds (.t 29), none⟩, ⟨some 8, .mv (.t 30), none⟩]) (.seq (.prune [6, 8, 25, 26, 27]) (.reg [ ⟨some 31, .mv (.t 6), none⟩, ⟨some 32, .mv (.t 8), none⟩, ⟨some 33, .app 12 128 false (.t 31) (.t 32), none⟩, ⟨some 6, .mv (.t 33), none⟩])))) (.seq (.prune [6, 25, 26, 27]) (.reg [ ⟨some 34, .bin .add (.t 27) (.c (.int .i64 1)), none⟩, ⟨some 27, .mv (.t 34), none⟩])))))))))))) (.seq (.prune [6]) (.seq (.reg [ ⟨some 35, .mv (.t 6), none⟩, ⟨some 2, .mv (.t 35), none⟩]) (.ret))))))))))), [.t 2]⟩
def a53 : AFunc := ⟨.seq (.reg [ ⟨some 1, .box (.t 0), none⟩, ⟨some 2, .mv (.c (.bool false)), none⟩]) (.seq (.prune [1]) (.seq (.seq (.reg [ ⟨some 3, .mv (.c (.int .i64 0)), none⟩]) (.seq (.prune [1, 3]) (.block 0 (.loop [3, 1] (.seq (.seq (.reg [ ⟨some 4, .mv (.t 3), none⟩, ⟨some 5, .bin .lss (.t 4) (.c (.int .i64 6)), none⟩]) (.seq (.prune [1, 3, 5]) (.cond (.t 5) (.skip) (.exit 0)))) (.seq (.prune [1, 3]) (.seq (.block 1 (.seq (.reg [ ⟨some 8, .mv (.t 3), none⟩, ⟨some 9, .fa 0 (.t 1), none⟩, ⟨some 10, .iaa 6 1 (.t 9) (.t 8), none⟩, ⟨some 11, .lds (.t 10), none⟩, ⟨some 12, .bin .neq (.t 11) (.c (.int .i64 0)), none⟩]) (.seq (.prune [1, 3, 12]) (.cond (.t 12) (.seq (.reg [ ⟨some 2, .mv (.c (.bool false)), none⟩]) (.ret)) (.skip))))) (.seq (.prune [1, 3]) (.reg [ ⟨some 6, .mv (.t 3), none⟩, ⟨some 7, .bin .add (.t 6) (.c (.int .i64 1)), none⟩, ⟨some 3, .mv (.t 7), none⟩]))))))))) (.seq (.prune []) (.seq (.reg [ ⟨some 2, .mv (.c (.bool true)), none⟩]) (.ret))))), [.t 2]⟩
def a54 : AFunc := ⟨.seq (.reg [ ⟨some 2, .box (.t 0), none⟩, ⟨some 4, .alloc [.int .i64 0, .int .i64 0, .int .i64 0, .int .i64 0, .int .i64 0, .int .i64 0, .int .i64 0, .int .i64 0, .lst [] true, .int .i64 0, .int .i64 0, .lst [] true], none⟩]) (.seq (.prune [1, 2, 4]) (.seq (.seq (.reg [ ⟨some 6, .lda 12 (.t 2), none⟩, ⟨some 7, .call false 28 [(.t 6)], none⟩, ⟨some 8, .mv (.t 7), none⟩, ⟨some 9, .mv (.t 1), some (8, true)⟩, ⟨some 10, .bin .eql (.t 9) (.c (.int .i64 0)), some (8, true)⟩, ⟨some 11, .pick (.t 8) (.t 10) (.c (.bool false)), none⟩]) (.seq (.prune [1, 2, 4, 11]) (.cond (.t 11) (.seq (.reg [ ⟨some 12, .build [.int .i64 0, .int .i64 0, .int .i64 0, .int .i64 0, .int .i64 0, .int .i64 0, .int .i64 0, .int .i64 0, .lst [] true, .int .i64 0, .int .i64 0, .lst [] true] [], none⟩, ⟨none, .sta 12 (.t 4) (.t 12), none⟩]) (.ret)) (.skip)))) (.seq (.prune [1, 2, 4]) (.seq (.reg [ ⟨some 13, .mv (.t 1), none⟩, ⟨some 14, .mv (.t 1), none⟩, ⟨some 15, .mv (.t 1), none⟩, ⟨some 16, .mv (.t 1), none⟩, ⟨some 17, .mv (.t 1), none⟩, ⟨some 18, .build [.int .i64 0, .int .i64 0, .int .i64 0, .int .i64 0, .int .i64 0, .int .i64 0] [(0, 1, (.t 13)), (1, 1, (.t 14)), (2, 1, (.t 15)), (3, 1, (.t 16)), (4, 1, (.c (.int .i64 0))), (5, 1, (.t 17))], none⟩, ⟨some 19, .mv (.t 1), none⟩, ⟨some 20, .lda 12 (.t 2), none⟩, ⟨some 21, .bsl 12 (.agg [.int .i64 0, .int .i64 0, .int .i64 0, .int .i64 0, .int .i64 0, .int .i64 0, .int .i64 0, .int .i64 0, .lst [] true, .int .i64 0, .int .i64 0, .lst [] true]) 1 [(0, (.t 20))], none⟩, ⟨some 22, .build [.int .i64 0, .int .i64 0, .int .i64 0, .int .i64 0, .int .i64 0, .int .i64 0, .int .i64 0, .int .i64 0, .lst [] true, .int .i64 0, .int .i64 0, .lst [] true] [(0, 6, (.t 18)), (6, 1, (.c (.int .i64 3))), (7, 1, (.t 19)), (8, 1, (.t 21))], none⟩, ⟨some 5, .alloc [.int .i64 0, .int .i64 0, .int .i64 0, .int .i64 0, .int .i64 0, .int .i64 0, .int .i64 0, .int .i64 0, .lst [] true, .int .i64 0, .int .i64 0, .lst [] true], none⟩, ⟨none, .sta 12 (.t 5) (.t 22), none⟩]) (.seq (.prune [1, 4, 5]) (.seq (.seq (.reg [ ⟨some 23, .mv (.t 1), none⟩, ⟨some 24, .bin .neq (.t 23) (.c (.int .i64 0)), none⟩]) (.seq (.prune [1, 4, 5, 24]) (.cond (.t 24) (.seq (.reg [ ⟨some 25, .fa 9 (.t 5), none⟩, ⟨none, .sts (.t 25) (.c (.int .i64 1)), none⟩]) (.seq (.prune [1, 4, 5]) (.reg [ ⟨some 26, .mv (.t 1), none⟩, ⟨some 27, .fa 10 (.t 5), none⟩, ⟨none, .sts (.t 27) (.t 26), none⟩]))) (.skip)))) (.seq (.prune [4, 5]) (.seq (.reg [ ⟨some 28, .lda 12 (.t 5), none⟩, ⟨none, .sta 12 (.t 4) (.t 28), none⟩]) (.ret))))))))), [.ca 4 12]⟩
def a55 : AFunc := ⟨.seq (.reg [ ⟨some 2, .box (.t 0), none⟩, ⟨some 4, .mv (.c (.int .i64 0)), none⟩]) (.seq (.prune [1, 2]) (.seq (.seq (.reg [ ⟨some 8, .mv (.t 1), none⟩, ⟨some 9, .bin .eql (.t 8) (.c (.int .i64 0)), none⟩]) (.seq (.prune [1, 2, 9]) (.cond (.t 9) (.seq (.reg [ ⟨some 4, .mv (.c (.int .i64 1000)), none⟩]) (.ret)) (.skip)))) (.seq (.prune [1, 2]) (.seq (.reg [ ⟨some 5, .mv (.c (.int .i64 1)), none⟩]) (.seq (.prune [1, 2, 5]) (.seq (.seq (.reg [ ⟨some 6, .mv (.c (.int .i64 0)), none⟩]) (.seq (.prune [1, 2, 5, 6]) (.block 0 (.loop [5, 6, 1, 2] (.seq (.seq (.reg [ ⟨some 10, .mv (.t 6), none⟩, ⟨some 11, .fa 8 (.t 2), none⟩, ⟨some 12, .lds (.t 11), none⟩, ⟨some 13, .len .slice (.t 12), none⟩, ⟨some 14, .bin .lss (.t 10) (.t 13), none⟩, ⟨some 15, .mv (.t 14), none⟩, ⟨some 16, .mv (.t 5), some (15, true)⟩, ⟨some 17, .bin .lss (.t 16) (.c (.int .i64 1000)), some (15, true)⟩, ⟨some 18, .pick (.t 15) (.t 17) (.c (.bool false)), none⟩]) (.seq (.prune [1, 2, 5, 6, 18]) (.cond (.t 18) (.skip) (.exit 0)))) (.seq (.prune [1, 2, 5, 6]) (.seq (.block 1 (.reg [ ⟨some 21, .mv (.t 5), none⟩, ⟨some 22, .fa 8 (.t 2), none⟩, ⟨some 23, .lds (.t 22), none⟩, ⟨some 24, .mv (.t 6), none⟩, ⟨some 25, .ia 12 (.t 23) (.t 24), none⟩, ⟨some 26, .lda 12 (.t 25), none⟩, ⟨some 27, .mv (.t 1), none⟩, ⟨some 28, .bin .sub (.t 27) (.c (.int .i64 1)), none⟩, ⟨some 29, .call false 55 [(.t 26), (.t 28)], none⟩, ⟨some 30, .bin .add (.t 21) (.t 29), none⟩, ⟨some 5, .mv (.t 30), none⟩])) (.seq (.prune [1, 2, 5, 6]) (.reg [ ⟨some 19, .mv (.t 6), none⟩, ⟨some 20, .bin .add (.t 19) (.c (.int .i64 1)), none⟩, ⟨some 6, .mv (.t 20), none⟩]))))))))) (.seq (.prune [1, 2, 5]) (.seq (.seq (.reg [ ⟨some 7, .mv (.c (.int .i64 0)), none⟩]) (.seq (.prune [1, 2, 5, 7]) (.block 2 (.loop [5, 7, 1, 2] (.seq (.seq (.reg [ ⟨some 31, .mv (.t 7), none⟩, ⟨some 32, .fa 11 (.t 2), none⟩, ⟨some 33, .lds (.t 32), none⟩, ⟨some 34, .len .slice (.t 33), none⟩, ⟨some 35, .bin .lss (.t 31) (.t 34), none⟩, ⟨some 36, .mv (.t 35), none⟩, ⟨some 37, .mv (.t 5), some (36, true)⟩, ⟨some 38, .bin .lss (.t 37) (.c (.int .i64 1000)), some (36, true)⟩, ⟨some 39, .pick (.t 36) (.t 38) (.c (.bool false)), none⟩]) (.seq (.prune [1, 2, 5, 7, 39]) (.cond (.t 39) (.skip) (.exit 2)))) (.seq (.prune [1, 2, 5, 7]) (.seq (.block 3 (.reg [ ⟨some 42, .mv (.t 5), none⟩, ⟨some 43, .fa 11 (.t 2), none⟩, ⟨some 44, .lds (.t 43), none⟩, ⟨some 45, .mv (.t 7), none⟩, ⟨some 46, .ia 12 (.t 44) (.t 45), none⟩, ⟨some 47, .lda 12 (.t 46), none⟩, ⟨some 48, .mv (.t 1), none⟩, ⟨some 49, .bin .sub (.t 48) (.c (.int .i64 1)), none⟩, ⟨some 50, .call false 55 [(.t 47), (.t 49)], none⟩, ⟨some 51, .bin .add (.t 42) (.t 50), none⟩, ⟨some 5, .mv (.t 51), none⟩])) (.seq (.prune [1, 2, 5, 7]) (.reg [ ⟨some 40, .mv (.t 7), none⟩, ⟨some 41, .bin .add (.t 40) (.c (.int .i64 1)), none⟩, ⟨some 7, .mv (.t 41), none⟩]))))))))) (.seq (.prune [5]) (.seq (.reg [ ⟨some 52, .mv (.t 5), none⟩, ⟨some 53, .mm false (.t 52) (.c (.int .i64 1000)), none⟩, ⟨some 4, .mv (.t 53), none⟩]) (.ret))))))))))), [.t 4]⟩
def a56 : AFunc := ⟨.seq (.reg [ ⟨some 4, .mv (.c (.bool false)), none⟩]) (.seq (.prune [0, 1]) (.seq (.reg [ ⟨some 5, .mv (.t 0), none⟩, ⟨some 6, .mv (.t 1), none⟩, ⟨some 7, .call false 62 [(.t 5), (.t 6)], none⟩, ⟨some 8, .bin .geq (.t 7) (.c (.int .i64 0)), none⟩, ⟨some 4, .mv (.t 8), none⟩]) (.ret))), [.t 4]⟩
def a57 : AFunc := ⟨.seq (.reg [ ⟨some 2, .box (.t 0), none⟩, ⟨some 3, .mv (.c (.bool false)), none⟩]) (.seq (.prune [1, 2]) (.seq (.reg [ ⟨some 4, .lda 12 (.t 2), none⟩, ⟨some 5, .lds (.t 1), none⟩, ⟨some 6, .bin .sub (.t 5) (.c (.int .i64 1)), none⟩, ⟨some 7, .call false 50 [(.t 4), (.t 6)], none⟩, ⟨some 8, .un .not (.t 7), none⟩, ⟨some 3, .mv (.t 8), none⟩]) (.ret))), [.t 3]⟩
def a58 : AFunc := ⟨.seq (.reg [ ⟨some 2, .mv (.c (.bool false)), none⟩]) (.seq (.prune [0]) (.seq (.reg [ ⟨some 3, .mv (.t 0), none⟩, ⟨some 4, .call false 59 [(.t 3)], none⟩, ⟨some 5, .un .not (.t 4), none⟩, ⟨some 2, .mv (.t 5), none⟩]) (.ret))), [.t 2]⟩
def a59 : AFunc := ⟨.seq (.reg [ ⟨some 2, .mv (.c (.bool false)), none⟩]) (.seq (.prune [0]) (.seq (.reg [ ⟨some 3, .mv (.t 0), none⟩, ⟨some 4, .bin .geq (.t 3) (.c (.int .i64 0)), none⟩, ⟨some 5, .mv (.t 4), none⟩, ⟨some 6, .mv (.t 0), some (5, true)⟩, ⟨some 7, .bin .leq (.t 6) (.c (.int .i64 99)), some (5, true)⟩, ⟨some 8, .pick (.t 5) (.t 7) (.c (.bool false)), none⟩, ⟨some 2, .mv (.t 8), none⟩]) (.ret))), [.t 2]⟩
def a60 : AFunc := ⟨.seq (.reg [ ⟨some 4, .mv (.c (.bool false)), none⟩]) (.seq (.prune [0, 1]) (.seq (.reg [ ⟨some 5, .mv (.t 0), none⟩, ⟨some 6, .mv (.t 1), none⟩, ⟨some 7, .call false 63 [(.t 5), (.t 6)], none⟩, ⟨some 8, .bin .geq (.t 7) (.c (.int .i64 0)), none⟩, ⟨some 4, .mv (.t 8), none⟩]) (.ret))), [.t 4]⟩
def a61 : AFunc := ⟨.seq (.reg [ ⟨some 4, .mv (.c (.lst [] true)), none⟩]) (.seq (.prune [0, 1]) (.seq (.seq (.reg [ ⟨some 5, .mv (.t 1), none⟩, ⟨some 6, .bin .lss (.t 5) (.c (.int .i64 0)), none⟩]) (.seq (.prune [0, 1, 6]) (.cond (.t 6) (.reg [ ⟨some 7, .mki 9 (.c (.str [99, 97, 110, 110, 111, 116, 32, 98, 101, 32, 110, 101, 103, 97, 116, 105, 118, 101])), none⟩, ⟨none, .panic (.t 7), none⟩]) (.skip)))) (.seq (.prune [0, 1]) (.seq (.seq (.reg [ ⟨some 8, .mv (.t 1), none⟩, ⟨some 9, .mv (.t 0), none⟩, ⟨some 10, .cap (.t 9), none⟩, ⟨some 11, .mv (.t 0), none⟩, ⟨some 12, .len .slice (.t 11), none⟩, ⟨some 13, .bin .sub (.t 10) (.t 12), none⟩, ⟨some 14, .bin .sub (.t 8) (.t 13), none⟩, ⟨some 1, .mv (.t 14), none⟩]) (.seq (.prune [0, 1]) (.seq (.reg [ ⟨some 15, .mv (.t 1), none⟩, ⟨some 16, .bin .gtr (.t 15) (.c (.int .i64 0)), none⟩]) (.seq (.prune [0, 1, 16]) (.cond (.t 16) (.reg [ ⟨some 17, .mv (.t 0), none⟩, ⟨some 18, .mv (.t 0), none⟩, ⟨some 19, .cap (.t 18), none⟩, ⟨some 20, .slc 12 (.t 17) none (some (.t 19)) none, none⟩, ⟨some 21, .mv (.t 1), none⟩, ⟨some 22, .appz 12 128 (.agg [.int .i64 0, .int .i64 0, .int .i64 0, .int .i64 0, .int .i64 0, .int .i64 0, .int .i64 0, .int .i64 0, .lst [] true, .int .i64 0, .int .i64 0, .lst [] true]) (.t 20) (.t 21), none⟩, ⟨some 23, .mv (.t 0), none⟩, ⟨some 24, .len .slice (.t 23), none⟩, ⟨some 25, .slc 12 (.t 22) none (some (.t 24)) none, none⟩, ⟨some 0, .mv (.t 25), none⟩]) (.skip)))))) (.seq (.prune [0]) (.seq (.reg [ ⟨some 26, .mv (.t 0), none⟩, ⟨some 4, .mv (.t 26), none⟩]) (.ret))))))), [.t 4]⟩
def a62 : AFunc := ⟨.seq (.reg [ ⟨some 4, .mv (.c (.int .i64 0)), none⟩]) (.seq (.prune [0, 1]) (.seq (.seq (.reg [ ⟨some 6, .mv (.t 0), none⟩, ⟨some 7, .len .slice (.t 6), none⟩, ⟨some 8, .mv (.c (.int .i64 0)), none⟩]) (.seq (.prune [0, 1, 7, 8]) (.block 0 (.loop [8, 0, 1, 7] (.seq (.reg [ ⟨some 9, .bin .lss (.t 8) (.t 7), none⟩]) (.seq (.prune [0, 1, 7, 8, 9]) (.seq (.cond (.t 9) (.skip) (.exit 0)) (.seq (.prune [0, 1, 7, 8]) (.seq (.block 1 (.seq (.reg [ ⟨some 10, .mv (.t 8), none⟩, ⟨some 5, .mv (.t 10), none⟩]) (.seq (.prune [0, 1, 5, 7, 8]) (.seq (.reg [ ⟨some 11, .mv (.t 1), none⟩, ⟨some 12, .mv (.t 0), none⟩, ⟨some 13, .mv (.t 5), none⟩, ⟨some 14, .ia 12 (.t 12) (.t 13), none⟩, ⟨some 15, .lda 12 (.t 14), none⟩, ⟨some 16, .callv false (.t 11) [(.t 15)], none⟩]) (.seq (.prune [0, 1, 5, 7, 8, 16]) (.cond (.t 16) (.seq (.reg [ ⟨some 17, .mv (.t 5), none⟩, ⟨some 4, .mv (.t 17), none⟩]) (.ret)) (.skip))))))) (.seq (.prune [0, 1, 7, 8]) (.reg [ ⟨some 18, .bin .add (.t 8) (.c (.int .i64 1)), none⟩, ⟨some 8, .mv (.t 18), none⟩]))))))))))) (.seq (.prune []) (.seq (.reg [ ⟨some 4, .mv (.c (.int .i64 (-1))), none⟩]) (.ret))))), [.t 4]⟩
def a63 : AFunc := ⟨.seq (.reg [ ⟨some 4, .mv (.c (.int .i64 0)), none⟩]) (.seq (.prune [0, 1]) (.seq (.seq (.reg [ ⟨some 6, .mv (.t 0), none⟩, ⟨some 7, .len .slice (.t 6), none⟩, ⟨some 8, .mv (.c (.int .i64 0)), none⟩]) (.seq (.prune [0, 1, 7, 8]) (.block 0 (.loop [8, 0, 1, 7] (.seq (.reg [ ⟨some 9, .bin .lss (.t 8) (.t 7), none⟩]) (.seq (.prune [0, 1, 7, 8, 9]) (.seq (.cond (.t 9) (.skip) (.exit 0)) (.seq (.prune [0, 1, 7, 8]) (.seq (.block 1 (.seq (.reg [ ⟨some 10, .mv (.t 8), none⟩, ⟨some 5, .mv (.t 10), none⟩]) (.seq (.prune [0, 1, 5, 7, 8]) (.seq (.reg [ ⟨some 11, .mv (.t 1), none⟩, ⟨some 12, .mv (.t 0), none⟩, ⟨some 13, .mv (.t 5), none⟩, ⟨some 14, .ia 1 (.t 12) (.t 13), none⟩, ⟨some 15, .lds (.t 14), none⟩, ⟨some 16, .callv false (.t 11) [(.t 15)], none⟩]) (.seq (.prune [0, 1, 5, 7, 8, 16]) (.cond (.t 16) (.seq (.reg [ ⟨some 17, .mv (.t 5), none⟩, ⟨some 4, .mv (.t 17), none⟩]) (.ret)) (.skip))))))) (.seq (.prune [0, 1, 7, 8]) (.reg [ ⟨some 18, .bin .add (.t 8) (.c (.int .i64 1)), none⟩, ⟨some 8, .mv (.t 18), none⟩]))))))))))) (.seq (.prune []) (.seq (.reg [ ⟨some 4, .mv (.c (.int .i64 (-1))), none⟩]) (.ret))))), [.t 4]⟩
def tabL : List (Option AFunc) := [none, none, none, some a3, none, none, none, some a7, some a8, some a9, some a10, some a11, some a12, some a13, some a14, some a15, some a16, some a17, some a18, some a19, some a20, some a21, some a22, none, some a24, none, some a26, some a27, some a28, none, none, some a31, some a32, some a33, some a34, none, some a36, none, some a38, some a39, some a40, some a41, some a42, some a43, some a44, some a45, some a46, some a47, some a48, some a49, some a50, some a51, none, some a53, some a54, some a55, some a56, some a57, some a58, some a59, some a60, some a61, some a62, some a63]
def tab (f : Nat) : Option AFunc := (tabL[f]?).join
end Go.Ev.Seat
namespace Go.Ev
open Go
structure Gh where
  M : Nat → Nat → Option Value
  mu : Nat → Option Nat
  T : Nat → Nat → Option Value
  own : Nat → Option Nat
def rfree (v : AVal) : Prop := lowV 0 v = true
inductive Rep (Γ : Gh) : AVal → Value → Prop
  | int (k : IntKind) (n : Int) : Rep Γ (.int k n) (.int k n)
  | bool (b : Bool) : Rep Γ (.bool b) (.bool b)
  | str (s : List UInt8) : Rep Γ (.str s) (.string ⟨s.toArray⟩)
  | nilp : Rep Γ .nilp (.pointer none)
  | nili : Rep Γ .nili .nilIface
  | nilf : Rep Γ .nilf .nilFunc
  | nilm : Rep Γ .nilm (.map none)
  | iface (t : TypeId) {v : AVal} {c : Value} : Rep Γ v c → Rep Γ (.iface t v) (.iface t c)
  | agg {cs : List AVal} {ds : List Value} : ds.length = cs.length → (∀ (i : Nat) (c : AVal) (d : Value), cs[i]? = some c → ds[i]? = some d → Rep Γ c d) →
      (∀ d, d ∈ ds → d.oneCell' = true) → Rep Γ (.agg cs) (.agg ds.toArray)
  | tup {cs : List AVal} {ds : List Value} : ds.length = cs.length → (∀ (i : Nat) (c : AVal) (d : Value), cs[i]? = some c → ds[i]? = some d → Rep Γ c d) → Rep Γ (.tup cs) (.tuple ds.toArray)
  | lstN (e : Bool) : Rep Γ (.lst [] e) (.slice none 0 0)
  | lstE {e : Bool} {a : Addr} {cap : Nat} : (e = true → cap = 0) → Rep Γ (.lst [] e) (.slice (some a) 0 cap)
  | lst {xs : List AVal} {e : Bool} {g off cap es : Nat} (f : Nat → Value) : xs.length ≤ cap → (e = true → cap = xs.length) → (∀ x, x ∈ xs → x.width = es) → (∀ x, x ∈ xs → rfree x) →
      (∀ (j : Nat) (c : AVal), (flatL xs)[j]? = some c → Γ.M g (off + j) = some (f j)) → (∀ (j : Nat) (c : AVal), (flatL xs)[j]? = some c → (f j).oneCell' = true) → (∀ (j : Nat) (c : AVal), (flatL xs)[j]? = some c → Rep Γ c (f j)) →
      Rep Γ (.lst xs e) (.slice (some ⟨g, off, none⟩) xs.length cap)
  | gl {o len cap : Nat} {a : Option Addr} : Γ.T o len = some (.slice a len cap) → (0 < len → a.isSome = true) → Rep Γ (.gl o len) (.slice a len cap)
  | lptr {o l a g cap : Nat} : Γ.T o l = some (.slice (some ⟨g, 0, none⟩) l cap) → Rep Γ (.lptr o l a) (.pointer (some ⟨g, a, none⟩))
  | sl {b off len cap g : Nat} {w : Option Nat} : Γ.mu b = some g → Rep Γ (.sl b off len cap w) (.slice (some ⟨g, off, none⟩) len cap)
  | ptr {b off g : Nat} : Γ.mu b = some g → Rep Γ (.ptr b off) (.pointer (some ⟨g, off, none⟩))
  | ro {cs : List AVal} {g off : Nat} (f : Nat → Value) : (∀ c, c ∈ cs → rfree c) → (∀ (j : Nat) (c : AVal), cs[j]? = some c → Γ.M g (off + j) = some (f j)) →
      (∀ (j : Nat) (c : AVal), cs[j]? = some c → (f j).oneCell' = true) → (∀ (j : Nat) (c : AVal), cs[j]? = some c → Rep Γ c (f j)) → Rep Γ (.ro cs) (.pointer (some ⟨g, off, none⟩))
  | fn (f : FuncId) {cs : List AVal} {ds : List Value} : ds.length = cs.length → (∀ (i : Nat) (c : AVal) (d : Value), cs[i]? = some c → ds[i]? = some d → Rep Γ c d) → Rep Γ (.fn f cs) (.func (.func f) #[] ds.toArray)
  | map {b g : Nat} : Γ.mu b = some g → Rep Γ (.map b) (.map (some g))
  | empN : Rep Γ (.emp true) (.slice none 0 0)
  | empE {a : Addr} {cap : Nat} : Rep Γ (.emp false) (.slice (some a) 0 cap)
def Reps (Γ : Gh) (cs : List AVal) (ds : List Value) : Prop := ds.length = cs.length ∧ ∀ (i : Nat) (c : AVal) (d : Value), cs[i]? = some c → ds[i]? = some d → Rep Γ c d
theorem low_mono_both (n m : Nat) (h : n ≤ m) : (∀ v, lowV n v = true → lowV m v = true) ∧ (∀ vs, lowL n vs = true → lowL m vs = true) := by
  constructor
  · intro v
    induction v using AVal.rec (motive_2 := fun vs => lowL n vs = true → lowL m vs = true) with
    | nil => simp [lowL]
    | cons v vs ih1 ih2 => rename_i hh; simp only [lowL, Bool.and_eq_true] at hh ⊢; exact ⟨ih1 hh.1, ih2 hh.2⟩
    | _ => simp_all [lowV] <;> omega
  · intro vs
    induction vs using AVal.rec_1 (motive_1 := fun v => lowV n v = true → lowV m v = true) with
    | nil => simp [lowL]
    | cons v vs ih1 ih2 => intro hh; simp only [lowL, Bool.and_eq_true] at hh ⊢; exact ⟨ih1 hh.1, ih2 hh.2⟩
    | _ => simp_all [lowV] <;> omega
theorem low_mono {n m : Nat} (h : n ≤ m) {v : AVal} (hv : lowV n v = true) : lowV m v = true := (low_mono_both n m h).1 v hv
theorem lowL_get {n : Nat} : ∀ {vs : List AVal} {i : Nat} {v : AVal}, lowL n vs = true → vs[i]? = some v → lowV n v = true
  | [], i, v, _, h => by simp at h
  | x :: xs, 0, v, hb, h => by simp only [lowL, Bool.and_eq_true] at hb; simp at h; exact h ▸ hb.1
  | x :: xs, i + 1, v, hb, h => by simp only [lowL, Bool.and_eq_true] at hb; simp at h; exact lowL_get hb.2 h
theorem lowL_iff {n : Nat} : ∀ {vs : List AVal}, lowL n vs = true ↔ ∀ v, v ∈ vs → lowV n v = true
  | [] => by simp [lowL]
  | x :: xs => by simp [lowL, lowL_iff (vs := xs)]
theorem rfree_flat {x : AVal} (h : rfree x) : ∀ c, c ∈ x.flat → rfree c := by
  intro c hc
  cases x <;> simp [AVal.flat] at hc <;> first | (subst hc; exact h) | skip
  simp only [rfree, lowV] at h ⊢
  exact lowL_iff.1 h c hc
theorem flatL_rfree {xs : List AVal} (h : ∀ x, x ∈ xs → rfree x) : ∀ c, c ∈ flatL xs → rfree c := by
  induction xs with
  | nil => simp [flatL]
  | cons x xs ih =>
    intro c hc
    simp only [flatL, List.mem_append] at hc
    rcases hc with hc | hc
    · exact rfree_flat (h x (by simp)) c hc
    · exact ih (fun y hy => h y (by simp [hy])) c hc
theorem Rep.move {Γ Γ' : Gh} {n : Nat} (hM : ∀ g o c, Γ.M g o = some c → Γ'.M g o = some c) (hmu : ∀ b g, b < n → Γ.mu b = some g → Γ'.mu b = some g)
    (hT : ∀ o l c, o < n → Γ.T o l = some c → Γ'.T o l = some c) {v : AVal} {c : Value} (h : Rep Γ v c) : lowV n v = true → Rep Γ' v c := by
  induction h with
  | int k n => intro _; exact .int k n
  | bool b => intro _; exact .bool b
  | str s => intro _; exact .str s
  | nilp => intro _; exact .nilp
  | nili => intro _; exact .nili
  | nilf => intro _; exact .nilf
  | nilm => intro _; exact .nilm
  | iface t _ ih => intro hb; exact .iface t (ih (by simpa [lowV] using hb))
  | agg hl _ h1 ih => intro hb; exact .agg hl (fun i c d hc hd => ih i c d hc hd (lowL_get (by simpa [lowV] using hb) hc)) h1
  | tup hl _ ih => intro hb; exact .tup hl (fun i c d hc hd => ih i c d hc hd (lowL_get (by simpa [lowV] using hb) hc))
  | lstN e => intro _; exact .lstN e
  | lstE h => intro _; exact .lstE h
  | lst f h1 h2 h3 h4 h5 h6 _ ih =>
    intro _
    exact .lst f h1 h2 h3 h4 (fun j c hc => hM _ _ _ (h5 j c hc)) h6 (fun j c hc => ih j c hc (low_mono (Nat.zero_le _) (flatL_rfree h4 c (List.mem_of_getElem? hc))))
  | gl h1 h2 => intro hb; exact .gl (hT _ _ _ (by simpa [lowV] using hb) h1) h2
  | lptr h1 => intro hb; exact .lptr (hT _ _ _ (by simpa [lowV] using hb) h1)
  | sl h1 => intro hb; exact .sl (hmu _ _ (by simpa [lowV] using hb) h1)
  | ptr h1 => intro hb; exact .ptr (hmu _ _ (by simpa [lowV] using hb) h1)
  | ro f h1 h2 h3 _ ih =>
    intro _
    exact .ro f h1 (fun j c hc => hM _ _ _ (h2 j c hc)) h3 (fun j c hc => ih j c hc (low_mono (Nat.zero_le _) (h1 c (List.mem_of_getElem? hc))))
  | fn f hl _ ih => intro hb; exact .fn f hl (fun i c d hc hd => ih i c d hc hd (lowL_get (by simpa [lowV] using hb) hc))
  | map h1 => intro hb; exact .map (hmu _ _ (by simpa [lowV] using hb) h1)
  | empN => intro _; exact .empN
  | empE => intro _; exact .empE
structure Gh.le (Γ Γ' : Gh) : Prop where
  M : ∀ g o c, Γ.M g o = some c → Γ'.M g o = some c
  mu : ∀ b g, Γ.mu b = some g → Γ'.mu b = some g
  T : ∀ o l c, Γ.T o l = some c → Γ'.T o l = some c
theorem Gh.le.refl (Γ : Gh) : Γ.le Γ := ⟨fun _ _ _ h => h, fun _ _ h => h, fun _ _ _ h => h⟩
theorem Gh.le.trans {Γ Γ' Γ'' : Gh} (h : Γ.le Γ') (h' : Γ'.le Γ'') : Γ.le Γ'' :=
  ⟨fun _ _ _ a => h'.M _ _ _ (h.M _ _ _ a), fun _ _ a => h'.mu _ _ (h.mu _ _ a), fun _ _ _ a => h'.T _ _ _ (h.T _ _ _ a)⟩
theorem Rep.mono {Γ Γ' : Gh} (hl : Γ.le Γ') {v : AVal} {c : Value} (h : Rep Γ v c) : Rep Γ' v c := by
  induction h with
  | int k n => exact .int k n
  | bool b => exact .bool b
  | str s => exact .str s
  | nilp => exact .nilp
  | nili => exact .nili
  | nilf => exact .nilf
  | nilm => exact .nilm
  | iface t _ ih => exact .iface t ih
  | agg hl' _ h1 ih => exact .agg hl' ih h1
  | tup hl' _ ih => exact .tup hl' ih
  | lstN e => exact .lstN e
  | lstE h => exact .lstE h
  | lst f h1 h2 h3 h4 h5 h6 _ ih => exact .lst f h1 h2 h3 h4 (fun j c hc => hl.M _ _ _ (h5 j c hc)) h6 ih
  | gl h1 h2 => exact .gl (hl.T _ _ _ h1) h2
  | lptr h1 => exact .lptr (hl.T _ _ _ h1)
  | sl h1 => exact .sl (hl.mu _ _ h1)
  | ptr h1 => exact .ptr (hl.mu _ _ h1)
  | ro f h1 h2 h3 _ ih => exact .ro f h1 (fun j c hc => hl.M _ _ _ (h2 j c hc)) h3 ih
  | fn f hl' _ ih => exact .fn f hl' ih
  | map h1 => exact .map (hl.mu _ _ h1)
  | empN => exact .empN
  | empE => exact .empE
theorem Reps.mono {Γ Γ' : Gh} (hl : Γ.le Γ') {cs : List AVal} {ds : List Value} (h : Reps Γ cs ds) : Reps Γ' cs ds := ⟨h.1, fun i c d hc hd => (h.2 i c d hc hd).mono hl⟩
theorem Reps.nil (Γ : Gh) : Reps Γ [] [] := ⟨rfl, by simp⟩
theorem Reps.cons {Γ : Gh} {c : AVal} {d : Value} {cs : List AVal} {ds : List Value} (h : Rep Γ c d) (hs : Reps Γ cs ds) : Reps Γ (c :: cs) (d :: ds) := by
  refine ⟨by simp [hs.1], ?_⟩
  intro i x y hx hy
  cases i with
  | zero => simp at hx hy; exact hx ▸ hy ▸ h
  | succ i => simp at hx hy; exact hs.2 i x y hx hy
theorem Reps.append {Γ : Gh} {cs cs' : List AVal} {ds ds' : List Value} (h : Reps Γ cs ds) (h' : Reps Γ cs' ds') : Reps Γ (cs ++ cs') (ds ++ ds') := by
  refine ⟨by simp [h.1, h'.1], ?_⟩
  intro i x y hx hy
  by_cases hi : i < cs.length
  · rw [List.getElem?_append_left hi] at hx
    rw [List.getElem?_append_left (by rw [h.1]; exact hi)] at hy
    exact h.2 i x y hx hy
  · rw [List.getElem?_append_right (by omega)] at hx
    rw [List.getElem?_append_right (by rw [h.1]; omega), h.1] at hy
    exact h'.2 _ x y hx hy
theorem Reps.take {Γ : Gh} {cs : List AVal} {ds : List Value} (h : Reps Γ cs ds) (n : Nat) : Reps Γ (cs.take n) (ds.take n) := by
  refine ⟨by simp [h.1], ?_⟩
  intro i x y hx hy
  rw [List.getElem?_take] at hx hy
  split at hx
  · rename_i hi; rw [if_pos hi] at hy; exact h.2 i x y hx hy
  · cases hx
theorem Reps.drop {Γ : Gh} {cs : List AVal} {ds : List Value} (h : Reps Γ cs ds) (n : Nat) : Reps Γ (cs.drop n) (ds.drop n) := by
  refine ⟨by simp [h.1], ?_⟩
  intro i x y hx hy
  rw [List.getElem?_drop] at hx hy
  exact h.2 _ x y hx hy
theorem Reps.get {Γ : Gh} {cs : List AVal} {ds : List Value} (h : Reps Γ cs ds) {i : Nat} {c : AVal} (hc : cs[i]? = some c) : ∃ d, ds[i]? = some d ∧ Rep Γ c d := by
  have hi : i < cs.length := (List.getElem?_eq_some_iff.1 hc).1
  have hi' : i < ds.length := by rw [h.1]; exact hi
  exact ⟨ds[i], List.getElem?_eq_getElem hi', h.2 i c _ hc (List.getElem?_eq_getElem hi')⟩
theorem Reps.set {Γ : Gh} {cs : List AVal} {ds : List Value} (h : Reps Γ cs ds) {c : AVal} {d : Value} (hc : Rep Γ c d) (n : Nat) : Reps Γ (cs.set n c) (ds.set n d) := by
  refine ⟨by simp [h.1], ?_⟩
  intro i x y hx hy
  rw [List.getElem?_set] at hx hy
  split at hx
  · rename_i hi
    rw [if_pos hi] at hy
    split at hx
    · split at hy
      · cases hx; cases hy; exact hc
      · cases hy
    · cases hx
  · rename_i hi; rw [if_neg hi] at hy; exact h.2 i x y hx hy
theorem Rep.agg_inv {Γ : Gh} {cs : List AVal} {c : Value} (h : Rep Γ (.agg cs) c) : ∃ ds : List Value, c = .agg ds.toArray ∧ Reps Γ cs ds ∧ ∀ d, d ∈ ds → d.oneCell' = true := by
  cases h with | agg h1 h2 h3 => exact ⟨_, rfl, ⟨h1, h2⟩, h3⟩
theorem Rep.tup_inv {Γ : Gh} {cs : List AVal} {c : Value} (h : Rep Γ (.tup cs) c) : ∃ ds : List Value, c = .tuple ds.toArray ∧ Reps Γ cs ds := by
  cases h with | tup h1 h2 => exact ⟨_, rfl, ⟨h1, h2⟩⟩
theorem Rep.fn_inv {Γ : Gh} {f : FuncId} {cs : List AVal} {c : Value} (h : Rep Γ (.fn f cs) c) : ∃ ds : List Value, c = .func (.func f) #[] ds.toArray ∧ Reps Γ cs ds := by
  cases h with | fn _ h1 h2 => exact ⟨_, rfl, ⟨h1, h2⟩⟩
theorem Rep.int_inv {Γ : Gh} {k : IntKind} {n : Int} {c : Value} (h : Rep Γ (.int k n) c) : c = .int k n := by cases h; rfl
theorem Rep.bool_inv {Γ : Gh} {b : Bool} {c : Value} (h : Rep Γ (.bool b) c) : c = .bool b := by cases h; rfl
theorem Rep.str_inv {Γ : Gh} {s : List UInt8} {c : Value} (h : Rep Γ (.str s) c) : c = .string ⟨s.toArray⟩ := by cases h; rfl
theorem Rep.ptr_inv {Γ : Gh} {b off : Nat} {c : Value} (h : Rep Γ (.ptr b off) c) : ∃ g, c = .pointer (some ⟨g, off, none⟩) ∧ Γ.mu b = some g := by
  cases h with | ptr h1 => exact ⟨_, rfl, h1⟩
theorem Rep.sl_inv {Γ : Gh} {b off len cap : Nat} {w : Option Nat} {c : Value} (h : Rep Γ (.sl b off len cap w) c) : ∃ g, c = .slice (some ⟨g, off, none⟩) len cap ∧ Γ.mu b = some g := by
  cases h with | sl h1 => exact ⟨_, rfl, h1⟩
theorem Rep.lptr_inv {Γ : Gh} {o l b : Nat} {c : Value} (h : Rep Γ (.lptr o l b) c) : ∃ g cap, c = .pointer (some ⟨g, b, none⟩) ∧ Γ.T o l = some (.slice (some ⟨g, 0, none⟩) l cap) := by
  cases h with | lptr h1 => exact ⟨_, _, rfl, h1⟩
theorem Rep.map_inv {Γ : Gh} {b : Nat} {c : Value} (h : Rep Γ (.map b) c) : ∃ g, c = .map (some g) ∧ Γ.mu b = some g := by
  cases h with | map h1 => exact ⟨_, rfl, h1⟩
theorem Rep.gl_inv {Γ : Gh} {o len : Nat} {c : Value} (h : Rep Γ (.gl o len) c) : ∃ a cap, c = .slice a len cap ∧ Γ.T o len = some c ∧ (0 < len → a.isSome = true) := by
  cases h with | gl h1 h2 => exact ⟨_, _, rfl, h1, h2⟩
theorem Rep.ro_inv {Γ : Gh} {cs : List AVal} {c : Value} (h : Rep Γ (.ro cs) c) : ∃ (g off : Nat) (f : Nat → Value), c = .pointer (some ⟨g, off, none⟩) ∧ (∀ c, c ∈ cs → rfree c) ∧ (∀ (j : Nat) (c : AVal), cs[j]? = some c → Γ.M g (off + j) = some (f j)) ∧
    (∀ (j : Nat) (c : AVal), cs[j]? = some c → (f j).oneCell' = true) ∧ (∀ (j : Nat) (c : AVal), cs[j]? = some c → Rep Γ c (f j)) := by
  cases h with | ro f h1 h2 h3 h4 => exact ⟨_, _, f, rfl, h1, h2, h3, h4⟩
theorem Rep.lst_inv {Γ : Gh} {xs : List AVal} {e : Bool} {c : Value} (h : Rep Γ (.lst xs e) c) : (xs = [] ∧ ∃ base cap, c = .slice base 0 cap ∧ ((base = none ∧ cap = 0) ∨ ((∃ a, base = some a) ∧ (e = true → cap = 0)))) ∨
    ∃ (g off cap es : Nat) (f : Nat → Value), c = .slice (some ⟨g, off, none⟩) xs.length cap ∧ xs.length ≤ cap ∧ (e = true → cap = xs.length) ∧ (∀ x, x ∈ xs → x.width = es) ∧ (∀ x, x ∈ xs → rfree x) ∧
      (∀ (j : Nat) (c : AVal), (flatL xs)[j]? = some c → Γ.M g (off + j) = some (f j)) ∧ (∀ (j : Nat) (c : AVal), (flatL xs)[j]? = some c → (f j).oneCell' = true) ∧ (∀ (j : Nat) (c : AVal), (flatL xs)[j]? = some c → Rep Γ c (f j)) := by
  cases h with
  | lstN => exact .inl ⟨rfl, _, _, rfl, .inl ⟨rfl, rfl⟩⟩
  | lstE h => exact .inl ⟨rfl, _, _, rfl, .inr ⟨⟨_, rfl⟩, h⟩⟩
  | lst f h1 h2 h3 h4 h5 h6 h7 => exact .inr ⟨_, _, _, _, f, rfl, h1, h2, h3, h4, h5, h6, h7⟩
theorem Rep.emp {Γ : Gh} {e : Bool} {base : Option Addr} {cap : Nat} (h : (base = none ∧ cap = 0) ∨ ((∃ a, base = some a) ∧ (e = true → cap = 0))) : Rep Γ (.lst [] e) (.slice base 0 cap) := by
  rcases h with ⟨rfl, rfl⟩ | ⟨⟨a, rfl⟩, h⟩
  · exact .lstN e
  · exact .lstE h
theorem Rep.emp_lst {Γ : Gh} {b : Bool} {c : Value} (h : Rep Γ (.emp b) c) : Rep Γ (.lst [] false) c := by
  cases h with
  | empN => exact .lstN _
  | empE => exact .lstE (by simp)
theorem Rep.cells {Γ : Gh} {v : AVal} {c : Value} (h : Rep Γ v c) : Reps Γ v.flat c.cells.toList := by
  cases h with
  | agg hl hr h1 => exact ⟨by simpa [AVal.flat, Value.cells] using hl, by simpa [AVal.flat, Value.cells] using hr⟩
  | _ => simp only [AVal.flat, Value.cells]; exact Reps.cons (by constructor <;> assumption) (Reps.nil Γ)
theorem Rep.cells_one {Γ : Gh} {v : AVal} {c : Value} (h : Rep Γ v c) (ht : ∀ vs, v ≠ .tup vs) : ∀ d, d ∈ c.cells.toList → d.oneCell' = true := by
  cases h with
  | agg hl hr h1 => simpa [Value.cells] using h1
  | tup => exact absurd rfl (ht _)
  | _ => intro d hd; simp [Value.cells] at hd; subst hd; rfl
def OkB (Γ : Gh) (w : World) (b : Nat) : ABlock → Prop
  | .hole => Γ.mu b = none ∧ ∀ l, Γ.T b l = none
  | .dead => True
  | .cells vs => ∃ g cs ty, Γ.mu b = some g ∧ Γ.own g = some b ∧ w.heap[g]? = some (.cells cs ty (0, 0)) ∧ (∀ o, Γ.M g o = none) ∧ Reps Γ vs cs.toList ∧ ∀ c, c ∈ cs.toList → c.oneCell' = true
  | .grow es xs op => ∃ c, Γ.T b xs.length = some c ∧ (∀ l, xs.length < l → Γ.T b l = none) ∧ (∀ x, x ∈ xs → rfree x) ∧ ((op = none ∧ Rep Γ (.lst xs true) c) ∨
      ∃ g cap cs ty, c = .slice (some ⟨g, 0, none⟩) xs.length cap ∧ Γ.own g = some b ∧ w.heap[g]? = some (.cells cs ty (0, 0)) ∧ xs.length ≤ cap ∧ cs.size = cap * es ∧ 0 < es ∧ (∀ x, x ∈ xs → x.width = es) ∧
        Reps Γ (flatL xs) (cs.toList.take (flatL xs).length) ∧ (∀ c, c ∈ cs.toList → c.oneCell' = true) ∧ op.getD xs.length ≤ xs.length ∧ (∀ j, j < op.getD xs.length * es → Γ.M g j = cs[j]?) ∧ ∀ j, op.getD xs.length * es ≤ j → Γ.M g j = none)
  | .mp es => ∃ g ents clock, Γ.mu b = some g ∧ Γ.own g = some b ∧ w.heap[g]? = some (.map ents clock) ∧ ents.size = es.length ∧
      ∀ (i : Nat) (k v : AVal) (e : MapEntry), es[i]? = some (k, v) → ents[i]? = some e → Rep Γ k e.key ∧ Rep Γ v e.val
structure Rel (Γ : Gh) (H : Heap) (w : World) : Prop where
  mem : ∀ g o c, Γ.M g o = some c → w.cell? ⟨g, o, none⟩ = some c
  blk : ∀ (b : Nat) (B : ABlock), H[b]? = some B → OkB Γ w b B
  dom : ∀ b, H.length ≤ b → Γ.mu b = none ∧ ∀ l, Γ.T b l = none
  owned : ∀ g b, Γ.own g = some b → g < w.heap.size
structure Stp (Γ : Gh) (w : World) (Γ' : Gh) (w' : World) : Prop where
  le : Γ.le Γ'
  own : ∀ g, g < w.heap.size → Γ.own g = none → Γ'.own g = none
  newM : ∀ g o, g < w.heap.size → Γ.own g = none → Γ'.M g o = Γ.M g o
  size : w.heap.size ≤ w'.heap.size
  heap : ∀ g : Nat, g < w.heap.size → Γ.own g = none → w'.heap[g]? = w.heap[g]?
  os : w'.os = w.os
  tape : w'.tape = w.tape
  output : w'.output = w.output
theorem Stp.refl (Γ : Gh) (w : World) : Stp Γ w Γ w := ⟨.refl Γ, fun _ _ h => h, fun _ _ _ _ => rfl, Nat.le_refl _, fun _ _ _ => rfl, rfl, rfl, rfl⟩
theorem Stp.trans {Γ Γ' Γ'' : Gh} {w w' w'' : World} (h : Stp Γ w Γ' w') (h' : Stp Γ' w' Γ'' w'') : Stp Γ w Γ'' w'' := by
  refine ⟨h.le.trans h'.le, ?_, ?_, Nat.le_trans h.size h'.size, ?_, h'.os.trans h.os, h'.tape.trans h.tape, h'.output.trans h.output⟩
  · intro g hg ho; exact h'.own g (Nat.lt_of_lt_of_le hg h.size) (h.own g hg ho)
  · intro g o hg ho; exact (h'.newM g o (Nat.lt_of_lt_of_le hg h.size) (h.own g hg ho)).trans (h.newM g o hg ho)
  · intro g hg ho; exact (h'.heap g (Nat.lt_of_lt_of_le hg h.size) (h.own g hg ho)).trans (h.heap g hg ho)
theorem Rel.drew {Γ : Gh} {H : Heap} {w : World} (h : Rel Γ H w) (n : Nat) : Rel Γ H { w with drawn := n } :=
  ⟨h.mem, h.blk, h.dom, h.owned⟩
theorem Stp.drew (Γ : Gh) (w : World) (n : Nat) : Stp Γ w Γ { w with drawn := n } := ⟨.refl Γ, fun _ _ h => h, fun _ _ _ _ => rfl, Nat.le_refl _, fun _ _ _ => rfl, rfl, rfl, rfl⟩
end Go.Ev
