/-
  Part 1 of a proof: NarrowHolds: for every input the law returns true, and what it was given reads behind the call as before. No conditions.
-/
import Derived.Calls
import Derived.Laws.Sem
import Derived.Laws.World
import Derived.Laws.Entries
import Derived.ChangeKeysEq
import Derived.Laws.Strings
namespace Go.Ev
theorem nrm.{u} : (∀ {α : Type u} (a b : α) (l : List α), (a :: l).set 0 b = b :: l) ∧ (∀ {α : Type u} (a : α) (l : List α) (n : Nat) (b : α), (a :: l).set (n + 1) b = a :: l.set n b) ∧ (∀ {α : Type u} (l : List α), [] ++ l = l) ∧ (∀ {α : Type u} (a : α) (l m : List α), (a :: l) ++ m = a :: (l ++ m)) ∧ (∀ {α : Type u} (a : α) (l : List α), (a :: l).length = l.length + 1) ∧ (∀ {α : Type u}, ([] : List α).length = 0) ∧ (∀ n : Nat, 0 + n = n) ∧ (∀ n : Nat, n + 0 = n) ∧ (∀ {α : Type u} (a : α) (l : List α) (n : Nat), (a :: l).take (n + 1) = a :: l.take n) ∧ (∀ {α : Type u} (l : List α), l.take 0 = []) ∧ (∀ {α : Type u} (n : Nat), ([] : List α).take n = []) ∧ (∀ {α : Type u} (a : α) (l : List α) (n : Nat), (a :: l).drop (n + 1) = l.drop n) ∧ (∀ {α : Type u} (l : List α), l.drop 0 = l) ∧ (∀ {α : Type u} (n : Nat), ([] : List α).drop n = []) ∧ (∀ {α : Type u} (a : α) (n : Nat), List.replicate (n + 1) a = a :: List.replicate n a) ∧ (∀ {α : Type u} (a : α), List.replicate 0 a = []) := by
  refine ⟨?_, ?_, ?_, ?_, ?_, ?_, ?_, ?_, ?_, ?_, ?_, ?_, ?_, ?_, ?_, ?_⟩ <;> intros <;> simp [List.replicate_succ]
open Go
inductive AVal where
  | int (k : IntKind) (n : Int)
  | bool (b : Bool)
  | str (s : List UInt8)
  | nilp
  | nili
  | nilf
  | nilm
  | iface (t : TypeId) (v : AVal)
  | agg (cs : List AVal)
  | tup (vs : List AVal)
  | lst (xs : List AVal) (e : Bool)
  | gl (o len : Nat)
  | lptr (o l a : Nat)
  | gtl (o l lo es : Nat)
  | sl (b off len cap : Nat) (w : Option Nat)
  | ptr (b off : Nat)
  | ro (cs : List AVal)
  | fn (f : FuncId) (caps : List AVal)
  | map (b : Nat)
  | emp (n : Bool)      -- an empty slice of which it is known whether it is nil
  deriving Inhabited
inductive ABlock where
  | hole
  | dead
  | cells (vs : List AVal)
  | grow (es : Nat) (xs : List AVal) (open_ : Option Nat)
  | mp (es : List (AVal × AVal))
  deriving Inhabited
abbrev Heap := List ABlock
abbrev Env := List (Nat × AVal)
def undefA : AVal := .tup []
def Env.get : Env → Nat → Option AVal
  | [], _ => none
  | (k, v) :: r, t => if k = t then some v else Env.get r t
def Env.put (e : Env) (d : Option Nat) (v : AVal) : Env :=
  match d with
  | some d => (d, v) :: e
  | none => e
def AVal.flat : AVal → List AVal
  | .agg cs => cs
  | v => [v]
def flatL : List AVal → List AVal
  | [] => []
  | x :: xs => x.flat ++ flatL xs
def AVal.width (v : AVal) : Nat := v.flat.length
def AVal.solid : AVal → Bool
  | .tup _ => false
  | _ => true
def growAt (H : Heap) (o len : Nat) : Option AVal :=
  match H[o]? with
  | some (.grow _ xs none) => if xs.length = len then some (.lst xs false) else none
  | _ => none
mutual
def shutV (H : Heap) : AVal → Option AVal
  | .int k n => some (.int k n)
  | .bool b => some (.bool b)
  | .str s => some (.str s)
  | .nilp => some .nilp
  | .nili => some .nili
  | .nilf => some .nilf
  | .nilm => some .nilm
  | .ro cs => some (.ro cs)
  | .lst xs _ => some (.lst xs false)
  | .emp _ => some (.lst [] false)
  | .gl o len => growAt H o len
  | .agg cs => match shutL H cs with
    | some cs' => some (.agg cs')
    | none => none
  | .tup vs => match shutL H vs with
    | some vs' => some (.tup vs')
    | none => none
  | .iface t v => match shutV H v with
    | some v' => some (.iface t v')
    | none => none
  | .fn f caps => match shutL H caps with
    | some caps' => some (.fn f caps')
    | none => none
  | .sl _ _ _ _ _ => none
  | .ptr _ _ => none
  | .map _ => none
  | .lptr _ _ _ => none
  | .gtl _ _ _ _ => none
def shutL (H : Heap) : List AVal → Option (List AVal)
  | [] => some []
  | v :: vs => match shutV H v with
    | some a => match shutL H vs with
      | some b => some (a :: b)
      | none => none
    | none => none
end
def group (w : Option Nat) : (n : Nat) → List AVal → List AVal
  | 0, _ => []
  | n + 1, cs => match w with
    | none => (cs.take 1) ++ group w n (cs.drop 1)
    | some k => .agg (cs.take k) :: group w n (cs.drop k)
def wide (w : Option Nat) : Nat := w.getD 1
def y4s (H : Heap) (b off len : Nat) (w : Option Nat) : Option (List AVal) :=
  match H[b]? with
  | some (.cells vs) => if off + len * wide w ≤ vs.length then shutL H (group w len (vs.drop off)) else none
  | _ => none
mutual
def shutR (H : Heap) : AVal → Option AVal
  | .int k n => some (.int k n)
  | .bool b => some (.bool b)
  | .str s => some (.str s)
  | .nilp => some .nilp
  | .nili => some .nili
  | .nilf => some .nilf
  | .nilm => some .nilm
  | .ro cs => some (.ro cs)
  | .lst xs _ => some (.lst xs false)
  | .emp _ => some (.lst [] false)
  | .gl o len => growAt H o len
  | .agg cs => match shutRL H cs with
    | some cs' => some (.agg cs')
    | none => none
  | .tup vs => match shutRL H vs with
    | some vs' => some (.tup vs')
    | none => none
  | .iface t v => match shutR H v with
    | some v' => some (.iface t v')
    | none => none
  | .fn f caps => match shutRL H caps with
    | some caps' => some (.fn f caps')
    | none => none
  | .sl b off len cap w => match y4s H b off len w with
    | some xs => if len ≤ cap ∧ xs.all (fun y => decide (y.width = wide w)) = true then some (.lst xs false) else none
    | none => none
  | .ptr _ _ => none
  | .map _ => none
  | .lptr _ _ _ => none
  | .gtl _ _ _ _ => none
def shutRL (H : Heap) : List AVal → Option (List AVal)
  | [] => some []
  | v :: vs => match shutR H v with
    | some a => match shutRL H vs with
      | some b => some (a :: b)
      | none => none
    | none => none
end
mutual
def lowV (n : Nat) : AVal → Bool
  | .gl o _ => decide (o < n)
  | .lptr o _ _ => decide (o < n)
  | .gtl o _ _ _ => decide (o < n)
  | .sl b _ _ _ _ => decide (b < n)
  | .ptr b _ => decide (b < n)
  | .map b => decide (b < n)
  | .agg cs => lowL n cs
  | .tup vs => lowL n vs
  | .iface _ v => lowV n v
  | .fn _ caps => lowL n caps
  | .int _ _ => true
  | .bool _ => true
  | .str _ => true
  | .nilp => true
  | .nili => true
  | .nilf => true
  | .nilm => true
  | .lst _ _ => true
  | .ro _ => true
  | .emp _ => true
def lowL (n : Nat) : List AVal → Bool
  | [] => true
  | v :: vs => lowV n v && lowL n vs
end
def lowP (n : Nat) : List (AVal × AVal) → Bool
  | [] => true
  | (k, v) :: r => lowV n k && lowV n v && lowP n r
def lowB (n : Nat) : ABlock → Bool
  | .hole => true
  | .dead => true
  | .cells vs => lowL n vs
  | .grow _ _ _ => true
  | .mp es => lowP n es
def lowH (n : Nat) : Heap → Bool
  | [] => true
  | b :: r => lowB n b && lowH n r
def lowE (n : Nat) : Env → Bool
  | [] => true
  | (_, v) :: r => lowV n v && lowE n r
inductive AOpd where
  | t (n : Nat)
  | c (v : AVal)
  deriving Inhabited
inductive SK where
  | i
  | b
  | s
  deriving Inhabited, DecidableEq
inductive EqD where
  | bool
  | ints (ks : List SK)     -- arrays, structs of integers, bools and texts
  deriving Inhabited, DecidableEq
inductive NilK where
  | ptr
  | slice
  | map
  | fn
  | iface
  deriving Inhabited, DecidableEq
inductive LenK where
  | slice
  | str
  | map
  deriving Inhabited, DecidableEq
inductive AOp where
  | mv (x : AOpd)
  | pick (c a b : AOpd)
  | bin (op : BinOp) (x y : AOpd)
  | eqv (neg : Bool) (d : EqD) (x y : AOpd)
  | isnil (k : NilK) (neg : Bool) (x : AOpd)
  | un (op : UnOp) (x : AOpd)
  | cvi (k : IntKind) (x : AOpd)
  | cvs (x : AOpd)
  | mki (t : TypeId) (x : AOpd)
  | mkf (f : FuncId) (caps : List AOpd)
  | fld (off : Nat) (sz : Option Nat) (x : AOpd)
  | ixs (x i : AOpd)
  | ixa (len es : Nat) (sz : Option Nat) (x i : AOpd)
  | fa (off : Nat) (x : AOpd)
  | nc (x : AOpd)
  | iaa (len es : Nat) (x i : AOpd)
  | ext (i : Nat) (x : AOpd)
  | build (zs : List AVal) (parts : List (Nat × Nat × AOpd))
  | mm (isMax : Bool) (x y : AOpd)
  | slcs (x : AOpd) (lo hi : Option AOpd)
  | alloc (zs : List AVal)
  | box (x : AOpd)
  | mks (es bytes : Nat) (w : Option Nat) (zs : List AVal) (l c : AOpd)
  | mkm
  | ia (es : Nat) (x i : AOpd)
  | bsl (es : Nat) (z : AVal) (len : Nat) (parts : List (Nat × AOpd))
  | lds (x : AOpd)
  | lda (n : Nat) (x : AOpd)
  | sts (x v : AOpd)
  | sta (n : Nat) (x v : AOpd)
  | stk (n : Nat) (x v : AOpd)   -- as 'sta' and 'sts', and the list stays open
  | slc (es : Nat) (x : AOpd) (lo hi mx : Option AOpd)
  | slca (len es : Nat) (w : Option Nat) (x : AOpd) (lo hi mx : Option AOpd)
  | len (k : LenK) (x : AOpd)
  | cap (x : AOpd)
  | app (es bytes : Nat) (opn : Bool) (s x : AOpd)
  | appz (es bytes : Nat) (z : AVal) (s n : AOpd)
  | copy (es : Nat) (d s : AOpd)
  | clear (es : Nat) (zs : List AVal) (x : AOpd)
  | call (raw : Bool) (f : FuncId) (args : List AOpd)
  | callv (raw : Bool) (x : AOpd) (args : List AOpd)
  | look (ks ok : Bool) (z : AVal) (m k : AOpd)
  | upd (ks : Bool) (m k v : AOpd)
  | panic (x : AOpd)
  deriving Inhabited
structure AOper where
  dst : Option Nat
  op : AOp
  guard : Option (Nat × Bool)
  deriving Inhabited
inductive ACode where
  | skip
  | reg (l : List AOper)
  | draw (m : Nat) (l : List (AOper × Nat × List Nat))   -- each with the place kept for its block, and those before it that it waits for
  | seq (a b : ACode)
  | cond (c : AOpd) (a b : ACode)
  | block (id : Nat) (a : ACode)
  | loop (keep : List Nat) (a : ACode)
  | exit (id : Nat)
  | ret
  | prune (keep : List Nat)   -- nothing is done: the other places are not read any more
  | own (t : Nat) (off : Option Nat)   -- nothing is done: an empty slice of a variable is from here on one that may be appended to
  | shutl (t : Nat) (off : Option Nat)   -- nothing is done: a variable's list, still open, is not written any more
  | fork (t : Nat) (keep : List Nat) (a : ACode)   -- the code, where it does not matter whether an empty slice is nil
  | stmt (keep : List Nat) (frz : List (Nat × Option Nat)) (a : ACode)   -- a statement; behind it the other places are not read any more, some lists are not appended to any more, and the heap is cut back
  deriving Inhabited
inductive ARes where
  | t (n : Nat)
  | cs (n : Nat)
  | ca (n k : Nat)
  deriving Inhabited
structure AFunc where
  body : ACode
  results : List ARes
  deriving Inhabited
inductive Ex where
  | ok (v : AVal)
  | pan (v : AVal)
  deriving Inhabited
inductive AEx where
  | norm
  | exit (id : Nat)
  | ret
  | pan (v : AVal)
  deriving Inhabited
structure Ctx where
  call : FuncId → List AVal → Heap → Option (Ex × Heap)
  fuel : Nat
def AOpd.ev (e : Env) : AOpd → Option AVal
  | .t n => e.get n
  | .c v => some v
def evs (e : Env) : List AOpd → Option (List AVal)
  | [] => some []
  | x :: xs => match x.ev e with
    | some v => match evs e xs with
      | some vs => some (v :: vs)
      | none => none
    | none => none
def bitsA (k : IntKind) (r : BitVec k.bits) : Option AVal := some (.int k (k.wrap r.toNat))
def binInt (op : BinOp) (k : IntKind) (a b : Int) : Option AVal :=
  match op with
  | .add => some (.int k (k.wrap (a + b)))
  | .sub => some (.int k (k.wrap (a - b)))
  | .mul => some (.int k (k.wrap (a * b)))
  | .quo => if b = 0 then none else some (.int k (k.wrap (a.tdiv b)))
  | .rem => if b = 0 then none else some (.int k (a.tmod b))
  | .and => bitsA k (BitVec.ofInt k.bits a &&& BitVec.ofInt k.bits b)
  | .or => bitsA k (BitVec.ofInt k.bits a ||| BitVec.ofInt k.bits b)
  | .xor => bitsA k (BitVec.ofInt k.bits a ^^^ BitVec.ofInt k.bits b)
  | .andNot => bitsA k (BitVec.ofInt k.bits a &&& ~~~ BitVec.ofInt k.bits b)
  | .eql => some (.bool (decide (a = b)))
  | .neq => some (.bool (!decide (a = b)))
  | .lss => some (.bool (decide (a < b)))
  | .leq => some (.bool (decide (a ≤ b)))
  | .gtr => some (.bool (decide (b < a)))
  | .geq => some (.bool (decide (b ≤ a)))
  | .shl | .shr => none
def shiftA (op : BinOp) (k : IntKind) (a b : Int) : Option AVal :=
  if b < 0 then none else
  match op with
  | .shl => some (.int k (k.wrap (a * 2 ^ (min b.toNat k.bits))))
  | .shr => some (.int k (a.fdiv (2 ^ (min b.toNat k.bits))))
  | _ => none
def binStr (op : BinOp) (a b : List UInt8) : Option AVal :=
  match op with
  | .add => if a.length + b.length ≤ 4611686018427387904 then some (.str (a ++ b)) else none
  | .eql => some (.bool (a == b))
  | .neq => some (.bool (!(a == b)))
  | .lss => some (.bool (Op.bytesLess a b))
  | .leq => some (.bool (Op.bytesLess a b || a == b))
  | .gtr => some (.bool (!(Op.bytesLess a b || a == b)))
  | .geq => some (.bool (!Op.bytesLess a b))
  | _ => none
def binA (op : BinOp) (x y : AVal) : Option AVal :=
  match x, y with
  | .int k a, .int k' b => match op with
    | .shl => shiftA .shl k a b
    | .shr => shiftA .shr k a b
    | op => if k = k' then binInt op k a b else none
  | .str a, .str b => binStr op a b
  | _, _ => none
def isNil : NilK → AVal → Option Bool
  | .ptr, .nilp => some true
  | .ptr, .ptr _ _ => some false
  | .ptr, .ro _ => some false
  | .fn, .nilf => some true
  | .fn, .fn _ _ => some false
  | .iface, .nili => some true
  | .iface, .iface _ _ => some false
  | .map, .nilm => some true
  | .map, .map _ => some false
  | .slice, .gl _ len => if 0 < len then some false else none
  | .slice, .emp b => some b
  | .slice, .lst (_ :: _) _ => some false
  | .slice, .sl _ _ _ _ _ => some false
  | _, _ => none
def eqOne : SK → AVal → AVal → Option Bool
  | .i, .int k a, .int k' b => if k = k' then some (decide (a = b)) else none
  | .b, .bool a, .bool b => some (a == b)
  | .s, .str a, .str b => some (a == b)
  | _, _, _ => none
def eqCells : List SK → List AVal → List AVal → Option Bool
  | [], [], [] => some true
  | q :: qs, x :: xs, y :: ys => match eqOne q x y, eqCells qs xs ys with
    | some a, some b => some (a && b)
    | _, _ => none
  | _, _, _ => none
def eqA (d : EqD) (x y : AVal) : Option Bool :=
  match d with
  | .bool => match x, y with
    | .bool a, .bool b => some (a == b)
    | _, _ => none
  | .ints ks => match x, y with
    | .agg a, .agg b => eqCells ks a b
    | _, _ => none
def unA (op : UnOp) (x : AVal) : Option AVal :=
  match op, x with
  | .neg, .int k n => some (.int k (k.wrap (0 - n)))
  | .xor, .int k n => some (.int k (k.wrap (BitVec.ofInt k.bits (if k.signed then -1 else k.max) ^^^ BitVec.ofInt k.bits n).toNat))
  | .not, .bool b => some (.bool !b)
  | _, _ => none
def part (off : Nat) (sz : Option Nat) (cs : List AVal) : Option AVal :=
  match sz with
  | none => cs[off]?
  | some n => if off + n ≤ cs.length then some (.agg ((cs.drop off).take n)) else none
def putCells {α : Type} (off : Nat) (new cs : List α) : List α := cs.take off ++ new ++ cs.drop (off + new.length)
def buildA (e : Env) : List (Nat × Nat × AOpd) → List AVal → Option (List AVal)
  | [], cs => some cs
  | (off, sz, x) :: r, cs => match x.ev e with
    | some v => if v.solid = true ∧ v.width = sz ∧ off + sz ≤ cs.length then buildA e r (putCells off v.flat cs) else none
    | none => none
def elemsOf (H : Heap) : AVal → Option (List AVal)
  | .lst xs _ => some xs
  | .emp _ => some []
  | .gl o len => match H[o]? with
    | some (.grow _ xs _) => if xs.length = len then some xs else none
    | _ => none
  | .sl b off len _ w => y4s H b off len w
  | .str s => some (s.map fun b => .int .u8 b.toNat)
  | _ => none
def lenOf (H : Heap) (k : LenK) (v : AVal) : Option Nat :=
  match k, v with
  | .slice, .lst xs _ => some xs.length
  | .slice, .emp _ => some 0
  | .slice, .gl _ len => some len
  | .slice, .sl _ _ len _ _ => some len
  | .str, .str s => some s.length
  | .map, .nilm => some 0
  | .map, .map b => match H[b]? with
    | some (.mp es) => some es.length
    | _ => none
  | _, _ => none
def goI (n : Int) : AVal := .int .i64 n
def newAt (H : Heap) (id : Nat) (B : ABlock) : Option Heap :=
  if id = H.length then some (H ++ [B]) else
  match H[id]? with
  | some .hole => some (H.set id B)
  | _ => none
def optEv (e : Env) : Option AOpd → Option (Option AVal)
  | none => some none
  | some x => match x.ev e with
    | some v => some (some v)
    | none => none
def bnd (y : Nat) : AVal → Option Nat
  | .int _ i => if 0 ≤ i ∧ i ≤ y then some i.toNat else none
  | _ => none
def bounds (len cap : Nat) (lo hi mx : Option AVal) : Option (Nat × Nat × Nat) :=
  match (match mx with
    | none => some cap
    | some v => bnd cap v) with
  | none => none
  | some m => match (match hi with
      | none => if mx.isSome then none else some len
      | some v => bnd m v) with
    | none => none
    | some h => match (match lo with
        | none => some 0
        | some v => bnd h v) with
      | none => none
      | some l => some (l, h, m)
def keyEq (ks : Bool) (x y : AVal) : Option Bool :=
  match ks, x, y with
  | false, .int k a, .int k' b => if k = k' then some (decide (a = b)) else none
  | true, .str a, .str b => some (a == b)
  | _, _, _ => none
def keyOk (ks : Bool) (x : AVal) : Bool :=
  match ks, x with
  | false, .int _ _ => true
  | true, .str _ => true
  | _, _ => false
def findKey (ks : Bool) (k : AVal) : List (AVal × AVal) → Option (Option AVal)
  | [] => some none
  | (k', v) :: r => match keyEq ks k k' with
    | some true => some (some v)
    | some false => findKey ks k r
    | none => none
def setKey (ks : Bool) (k v : AVal) : List (AVal × AVal) → Option (List (AVal × AVal))
  | [] => some [(k, v)]
  | (k', v') :: r => match keyEq ks k k' with
    | some true => some ((k', v) :: r)
    | some false => match setKey ks k v r with
      | some r' => some ((k', v') :: r')
      | none => none
    | none => none
def pureRes (r : Option (Ex × Heap)) : Option Ex :=
  match r with
  | some (.ok v, H) => match shutR H v with
    | some v' => some (.ok v')
    | none => none
  | some (.pan v, H) => match shutR H v with
    | some v' => some (.pan v')
    | none => none
  | none => none
def cutH (n : Nat) (v : AVal) (H : Heap) : Heap := if H.length ≤ n then H else if lowV n v && lowH n (H.take n) then H.take n else H
def cutRes (n : Nat) : Option (Ex × Heap) → Option (Ex × Heap)
  | some (.ok v, H) => some (.ok v, cutH n v H)
  | some (.pan v, H) => some (.pan v, cutH n v H)
  | none => none
def callA (C : Ctx) (raw : Bool) (f : FuncId) (args : List AVal) (H : Heap) : Option (Ex × Heap) :=
  if raw then cutRes H.length (C.call f args H) else
  match shutL H args with
  | some as => match pureRes (C.call f as []) with
    | some x => some (x, H)
    | none => none
  | none => cutRes H.length (C.call f args H)
def loadS (H : Heap) : AVal → Option AVal
  | .ptr b off => match H[b]? with
    | some (.cells vs) => vs[off]?
    | _ => none
  | .ro (c :: _) => some c
  | .lptr o l a => match H[o]? with
    | some (.grow es xs (some _)) => if l = xs.length then match xs[a / es]? with
        | some y => y.flat[a % es]?
        | none => none
      else none
    | _ => none
  | _ => none
def loadA (H : Heap) (n : Nat) : AVal → Option AVal
  | .ptr b off => match H[b]? with
    | some (.cells vs) => if off + n ≤ vs.length then some (.agg ((vs.drop off).take n)) else none
    | _ => none
  | .ro cs => if n ≤ cs.length then some (.agg (cs.take n)) else none
  | .lptr o l a => match H[o]? with
    | some (.grow es xs (some _)) => if l = xs.length ∧ a % es + n ≤ es then match xs[a / es]? with
        | some y => some (.agg ((y.flat.drop (a % es)).take n))
        | none => none
      else none
    | _ => none
  | _ => none
def storeA (H : Heap) (n : Nat) (x v : AVal) : Option Heap :=
  if v.solid = true ∧ v.width = n then
    match x with
    | .ptr b off => match H[b]? with
      | some (.cells vs) => if off + n ≤ vs.length then some (H.set b (.cells (putCells off v.flat vs))) else none
      | _ => none
    | .lptr o l a => match H[o]? with
      | some (.grow es xs (some f)) => match shutV H v with
        | some v' => if f + 1 ≤ l ∧ l = xs.length ∧ a = (l - 1) * es ∧ n = es ∧ v'.width = es then some (H.set o (.grow es (xs.set (l - 1) v') none)) else none
        | none => none
      | _ => none
    | _ => none
  else none
def putEl (off : Nat) (v : AVal) : AVal → AVal
  | .agg cs => .agg (putCells off v.flat cs)
  | _ => v
def storeK (H : Heap) (n : Nat) (x v : AVal) : Option Heap :=
  if v.solid = true ∧ v.width = n then
    match x with
    | .lptr o l a => match H[o]? with
      | some (.grow es xs (some f)) => match shutV H v with
        | some v' => match xs[a / es]? with
          | some y => if f ≤ a / es ∧ l = xs.length ∧ a % es + n ≤ es ∧ 0 < n then some (H.set o (.grow es (xs.set (a / es) (putEl (a % es) v' y)) (some f))) else none
          | none => none
        | none => none
      | _ => none
    | _ => none
  else none
def appendA (H : Heap) (id : Nat) (es bytes : Nat) (opn : Bool) (s x : AVal) : Option (AVal × Heap) :=
  match elemsOf H x with
  | none => none
  | some ys =>
      if ys.all (fun y => decide (y.width = es)) = true then
        match s with
        | .lst xs e =>
          if ys.isEmpty then some (s, H)
          else if e = true ∧ xs.all (fun y => decide (y.width = es)) = true ∧ (xs.length + ys.length) * bytes ≤ 140737488355328 then
            match newAt H id (.grow es (xs ++ ys) (if opn then some xs.length else none)) with
            | some H' => some (.gl id (xs.length + ys.length), H')
            | none => none
          else none
        | .gl o len => match H[o]? with
          | some (.grow es0 xs op0) =>
            if len = xs.length ∧ (es0 = es ∨ es0 = 0) ∧ xs.all (fun y => decide (y.width = es)) = true then
              if ys.isEmpty then some (s, H)
              else if (xs.length + ys.length) * bytes ≤ 140737488355328 then
                some (.gl o (xs.length + ys.length), H.set o (.grow es (xs ++ ys) (if opn then some (op0.getD xs.length) else none)))
              else none
            else none
          | _ => none
        | _ => none
      else none
def okv (H : Heap) : Option AVal → Option (Ex × Heap)
  | some v => some (.ok v, H)
  | none => none
def evP (e : Env) : AOp → Option AVal
  | .mv x => x.ev e
  | .pick c a b => match c.ev e with
    | some (.bool true) => a.ev e
    | some (.bool false) => b.ev e
    | _ => none
  | .bin op x y => match x.ev e, y.ev e with
    | some a, some b => binA op a b
    | _, _ => none
  | .eqv neg d x y => match x.ev e, y.ev e with
    | some a, some b => match eqA d a b with
      | some r => some (.bool (if neg then !r else r))
      | none => none
    | _, _ => none
  | .isnil k neg x => match x.ev e with
    | some a => match isNil k a with
      | some r => some (.bool (if neg then !r else r))
      | none => none
    | none => none
  | .un op x => match x.ev e with
    | some a => unA op a
    | none => none
  | .cvi k x => match x.ev e with
    | some (.int _ n) => some (.int k (k.wrap n))
    | _ => none
  | .cvs x => match x.ev e with
    | some (.str s) => some (.str s)
    | _ => none
  | .mki t x => match x.ev e with
    | some v => some (.iface t v)
    | none => none
  | .mkf f caps => match evs e caps with
    | some vs => some (.fn f vs)
    | none => none
  | .fld off sz x => match x.ev e with
    | some (.agg cs) => part off sz cs
    | _ => none
  | .ixs x i => match x.ev e, i.ev e with
    | some (.str s), some (.int _ n) => if 0 ≤ n then (s[n.toNat]?).map fun b => .int .u8 b.toNat else none
    | _, _ => none
  | .ixa len es sz x i => match x.ev e, i.ev e with
    | some (.agg cs), some (.int _ n) => if 0 ≤ n ∧ n < len then part (n.toNat * es) sz cs else none
    | _, _ => none
  | .fa off x => match x.ev e with
    | some (.ptr b o) => some (.ptr b (o + off))
    | some (.ro cs) => if off < cs.length then some (.ro (cs.drop off)) else none
    | some (.lptr o l c) => some (.lptr o l (c + off))
    | _ => none
  | .nc x => match x.ev e with
    | some (.ptr b o) => some (.ptr b o)
    | some (.ro cs) => some (.ro cs)
    | some (.lptr o l c) => some (.lptr o l c)
    | _ => none
  | .iaa len es x i => match x.ev e, i.ev e with
    | some (.ptr b o), some (.int _ n) => if 0 ≤ n ∧ n < len then some (.ptr b (o + n.toNat * es)) else none
    | some (.ro cs), some (.int _ n) => if 0 ≤ n ∧ n < len ∧ n.toNat * es < cs.length then some (.ro (cs.drop (n.toNat * es))) else none
    | _, _ => none
  | .ext i x => match x.ev e with
    | some (.tup vs) => vs[i]?
    | _ => none
  | .build zs parts => match buildA e parts zs with
    | some cs => some (.agg cs)
    | none => none
  | .mm isMax x y => match x.ev e, y.ev e with
    | some (.int k a), some (.int k' b) => if k = k' then some (.int k (if isMax then (if b > a then b else a) else (if b < a then b else a))) else none
    | _, _ => none
  | .slcs x lo hi => match x.ev e, optEv e lo, optEv e hi with
    | some (.str s), some lo, some hi => match bounds s.length s.length lo hi none with
      | some (l, h, _) => some (.str ((s.take h).drop l))
      | none => none
    | _, _, _ => none
  | _ => none
def evN (e : Env) (id : Nat) : AOp → Option (AVal × ABlock)
  | .alloc zs => some (.ptr id 0, .cells zs)
  | .box x => match x.ev e with
    | some v => if v.solid = true then some (.ptr id 0, .cells v.flat) else none
    | none => none
  | .mks es bytes w zs l c => match l.ev e, c.ev e with
    | some (.int _ l), some (.int _ c) =>
      if 0 ≤ l ∧ l ≤ c ∧ c < 9223372036854775808 ∧ bytes * c ≤ 281474976710656 ∧ zs.length = es ∧ wide w = es then
        some (.sl id 0 l.toNat c.toNat w, .cells (flatL (List.replicate c.toNat (.agg zs))))
      else none
    | _, _ => none
  | .mkm => some (.map id, .mp [])
  | _ => none
def asLst (H : Heap) : AVal → Option (List AVal × Bool)
  | .lst xs e => some (xs, e)
  | .gl o len => match growAt H o len with
    | some (.lst xs _) => some (xs, false)
    | _ => none
  | _ => none
def cutLst (es : Nat) (xs : List AVal) (exact : Bool) (lo hi mx : Option AVal) : Option AVal :=
  match mx with
  | some (.int k m) => if m = 0 then match bounds xs.length xs.length lo hi (some (.int k 0)) with
      | some _ => some (.lst [] true)
      | none => none
    else none
  | some _ => none
  | none => match bounds xs.length xs.length lo hi none with
    | some (l, h, _) => if xs.all (fun y => decide (y.width = es)) = true then some (.lst ((xs.take h).drop l) (exact && decide (h = xs.length))) else none
    | none => none
def cutOpen (H : Heap) (es : Nat) (s : AVal) (lo hi mx : Option AVal) : Option (AVal × Heap) :=
  match s, lo, hi, mx with
  | .gl o len, none, some (.int _ h), none => match H[o]? with
    | some (.grow es0 xs (some f)) =>
      if len = xs.length ∧ f ≤ h ∧ h ≤ len ∧ es0 = es then some (.gl H.length h.toNat, (H.set o .dead) ++ [.grow es (xs.take h.toNat) (if f = h.toNat then none else some f)]) else none
    | _ => none
  | .gl o len, some (.int _ l), none, none => match H[o]? with
    | some (.grow es0 xs (some f)) =>
      if len = xs.length ∧ f ≤ l ∧ l < len ∧ es0 = es then some (.gtl o len l.toNat es, H) else none
    | _ => none
  | _, _, _, _ => none
def zeroAs (zs : List AVal) : AVal → AVal
  | .agg _ => .agg zs
  | _ => zs.headD .nilp
def aggV : AVal → Bool
  | .agg _ => true
  | _ => false
def bslGo (e : Env) (H : Heap) (es : Nat) : List (Nat × AOpd) → List AVal → Option (List AVal)
  | [], xs => some xs
  | (i, x) :: r, xs => match x.ev e with
    | some v => match shutV H v with
      | some v => if v.solid = true ∧ v.width = es ∧ i < xs.length then bslGo e H es r (xs.set i v) else none
      | none => none
    | none => none
def evH (C : Ctx) (e : Env) (id : Nat) (H : Heap) : AOp → Option (Ex × Heap)
  | .ia es x i => match x.ev e, i.ev e with
    | some (.gl o len), some (.int _ n) => match H[o]? with
      | some (.grow _ xs op) =>
        if 0 ≤ n ∧ n < len ∧ len = xs.length ∧ (xs[n.toNat]?).any (fun y => decide (y.width = es)) = true then
          match op with
          | none => (xs[n.toNat]?).bind fun y => some (.ok (.ro y.flat), H)
          | some f => if f ≤ n.toNat then some (.ok (.lptr o len (n.toNat * es)), H) else none
        else none
      | _ => none
    | some (.lst xs _), some (.int _ n) =>
      if 0 ≤ n then match xs[n.toNat]? with
        | some y => if y.width = es then some (.ok (.ro y.flat), H) else none
        | none => none
      else none
    | some (.sl b off len _ w), some (.int _ n) =>
      if 0 ≤ n ∧ n < len ∧ wide w = es then some (.ok (.ptr b (off + n.toNat * es)), H) else none
    | _, _ => none
  | .bsl es z len parts =>
    if z.width = es ∧ len * es ≤ 16777216 then
      match bslGo e H es parts (List.replicate len z) with
      | some xs => some (.ok (.lst xs true), H)
      | none => none
    else none
  | .lds x => match x.ev e with
    | some a => okv H (loadS H a)
    | none => none
  | .lda n x => match x.ev e with
    | some a => okv H (loadA H n a)
    | none => none
  | .sts x v => match x.ev e, v.ev e with
    | some a, some v => match storeA H 1 a v with
      | some H' => some (.ok undefA, H')
      | none => none
    | _, _ => none
  | .sta n x v => match x.ev e, v.ev e with
    | some a, some v => match storeA H n a v with
      | some H' => some (.ok undefA, H')
      | none => none
    | _, _ => none
  | .stk n x v => match x.ev e, v.ev e with
    | some a, some v => match storeK H n a v with
      | some H' => some (.ok undefA, H')
      | none => none
    | _, _ => none
  | .slc es x lo hi mx => match x.ev e, optEv e lo, optEv e hi, optEv e mx with
    | some (.sl b off len cap w), some lo, some hi, some mx => match bounds len cap lo hi mx with
      | some (l, h, m) => if wide w = es ∧ l < m ∧ len ≤ cap then some (.ok (.sl b (off + l * es) (h - l) (m - l) w), H) else none
      | none => none
    | some s, some lo, some hi, some mx => match cutOpen H es s lo hi mx with
      | some (v, H') => some (.ok v, H')
      | none => match asLst H s with
        | some (xs, exact) => match cutLst es xs exact lo hi mx with
          | some v => some (.ok v, H)
          | none => none
        | none => none
    | _, _, _, _ => none
  | .slca len es w x lo hi mx => match x.ev e, optEv e lo, optEv e hi, optEv e mx with
    | some (.ptr b off), some lo, some hi, some mx => match bounds len len lo hi mx with
      | some (l, h, m) => if wide w = es ∧ l < m then some (.ok (.sl b (off + l * es) (h - l) (m - l) w), H) else none
      | none => none
    | _, _, _, _ => none
  | .len k x => match x.ev e with
    | some v => okv H ((lenOf H k v).map fun (n : Nat) => goI n)
    | none => none
  | .cap x => match x.ev e with
    | some (.sl _ _ _ c _) => some (.ok (goI c), H)
    | some (.lst xs true) => some (.ok (goI xs.length), H)
    | _ => none
  | .app es bytes opn s x => match s.ev e, x.ev e with
    | some s, some x => match appendA H id es bytes opn s x with
      | some (v, H') => some (.ok v, H')
      | none => none
    | _, _ => none
  | .appz es bytes z s n => match s.ev e, n.ev e with
    | some (.lst xs e), some (.int _ n) =>
      if 0 ≤ n ∧ z.width = es ∧ xs.all (fun y => decide (y.width = es)) = true then
        if n = 0 then some (.ok (.lst xs e), H)
        else if e = true ∧ (xs.length + n.toNat) * bytes ≤ 140737488355328 ∧ n < 9223372036854775808 then
          match newAt H id (.grow es (xs ++ List.replicate n.toNat z) (some xs.length)) with
          | some H' => some (.ok (.gl id (xs.length + n.toNat)), H')
          | none => none
        else none
      else none
    | _, _ => none
  | .copy es d s => match d.ev e, s.ev e with
    | some (.sl b off len _ w), some s => match elemsOf H s with
      | some ys => match H[b]? with
        | some (.cells vs) =>
          let n := min ys.length len
          if wide w = es ∧ off + len * es ≤ vs.length ∧ ys.all (fun y => decide (y.width = es)) = true then
            some (.ok (goI n), H.set b (.cells (putCells off (flatL (ys.take n)) vs)))
          else none
        | _ => none
      | none => none
    | _, _ => none
  | .clear es zs x => match x.ev e with
    | some (.sl b off len _ w) => match H[b]? with
      | some (.cells vs) =>
        if wide w = es ∧ off + len * es ≤ vs.length ∧ zs.length = es then
          some (.ok undefA, H.set b (.cells (putCells off (flatL (List.replicate len (.agg zs))) vs)))
        else none
      | _ => none
    | some (.gtl o l lo es') => match H[o]? with
      | some (.grow es0 xs (some f)) =>
        if es' = es ∧ es0 = es ∧ l = xs.length ∧ f ≤ lo ∧ lo < l ∧ zs.length = es ∧ zs.all (fun z => lowV 0 z && !(aggV z)) = true ∧ (es = 1 ∨ (xs.drop lo).all aggV = true) then
          some (.ok undefA, H.set o (.grow es (xs.take lo ++ (xs.drop lo).map (zeroAs zs)) (some f)))
        else none
      | _ => none
    | _ => none
  | .call raw f args => match evs e args with
    | some vs => callA C raw f vs H
    | none => none
  | .callv raw x args => match x.ev e, evs e args with
    | some (.fn f caps), some vs => callA C raw f (vs ++ caps) H
    | _, _ => none
  | .look ks ok z m k => match m.ev e, k.ev e with
    | some (.map b), some k => match H[b]? with
      | some (.mp es) => if keyOk ks k then match findKey ks k es with
        | some (some v) => some (.ok (if ok then .tup [v, .bool true] else v), H)
        | some none => some (.ok (if ok then .tup [z, .bool false] else z), H)
        | none => none
        else none
      | _ => none
    | _, _ => none
  | .upd ks m k v => match m.ev e, k.ev e, v.ev e with
    | some (.map b), some k, some v => match H[b]? with
      | some (.mp es) => if keyOk ks k then match setKey ks k v es with
        | some es' => some (.ok undefA, H.set b (.mp es'))
        | none => none
        else none
      | _ => none
    | _, _, _ => none
  | .panic x => match x.ev e with
    | some (.iface t v) => some (.pan (.iface t v), H)
    | _ => none
  | _ => none
inductive Kind where
  | pure
  | new
  | heap
  deriving DecidableEq, Inhabited
def AOp.kind : AOp → Kind
  | .mv _ | .pick _ _ _ | .bin _ _ _ | .eqv _ _ _ _ | .isnil _ _ _ | .un _ _ | .cvi _ _ | .cvs _ | .mki _ _ | .mkf _ _ | .fld _ _ _ | .ixs _ _ | .ixa _ _ _ _ _ | .fa _ _ | .nc _ | .iaa _ _ _ _
  | .ext _ _ | .build _ _ | .mm _ _ _ | .slcs _ _ _ => .pure
  | .alloc _ | .box _ | .mks _ _ _ _ _ _ | .mkm => .new
  | _ => .heap
def evalOp (C : Ctx) (e : Env) (id : Nat) (H : Heap) (op : AOp) : Option (Ex × Heap) :=
  match op.kind with
  | .pure => okv H (evP e op)
  | .new => match evN e id op with
    | some (v, B) => match newAt H id B with
      | some H' => some (.ok v, H')
      | none => none
    | none => none
  | .heap => evH C e id H op
def wantedA (e : Env) : Option (Nat × Bool) → Option Bool
  | none => some true
  | some (t, want) => match e.get t with
    | some (.bool b) => some (b == want)
    | some (.tup []) => some false
    | _ => none
def evalOps (C : Ctx) : List AOper → Env → Heap → Option (AEx × Env × Heap)
  | [], e, H => some (.norm, e, H)
  | o :: r, e, H => match wantedA e o.guard with
    | some true => match evalOp C e H.length H o.op with
      | some (.ok v, H') => evalOps C r (e.put o.dst v) H'
      | some (.pan v, H') => some (.pan v, e, H')
      | none => none
    | some false => evalOps C r (e.put o.dst undefA) H
    | none => none
inductive Foot where
  | io (r w : List Nat)
  | opq (H H' : Heap)
  deriving Inhabited
mutual
def glsV : AVal → List Nat
  | .gl o _ => [o]
  | .agg cs => glsL cs
  | .tup vs => glsL vs
  | .iface _ v => glsV v
  | .fn _ caps => glsL caps
  | _ => []
def glsL : List AVal → List Nat
  | [] => []
  | v :: vs => glsV v ++ glsL vs
end
def partsGls (e : Env) : List (Nat × AOpd) → List Nat
  | [] => []
  | (_, x) :: r => match x.ev e with
    | some v => glsV v ++ partsGls e r
    | none => []
def footArgs (H : Heap) (vs : List AVal) : Option (List Nat × List Nat) :=
  match shutL H vs with
  | some _ => some (glsL vs, [])
  | none => none
def footH (e : Env) (H : Heap) : AOp → Option (List Nat × List Nat)
  | .ia _ x _ => match x.ev e with
    | some (.gl o _) => some ([o], [])
    | _ => some ([], [])
  | .bsl _ _ _ parts => some (partsGls e parts, [])
  | .lds x => match x.ev e with
    | some (.ptr b _) => some ([b], [])
    | some (.lptr o _ _) => some ([o], [])
    | _ => some ([], [])
  | .lda _ x => match x.ev e with
    | some (.ptr b _) => some ([b], [])
    | some (.lptr o _ _) => some ([o], [])
    | _ => some ([], [])
  | .sts x _ => match x.ev e with
    | some (.ptr b _) => some ([b], [b])
    | _ => none
  | .sta _ x v => match x.ev e with
    | some (.ptr b _) => some ([b], [b])
    | some (.lptr o _ _) => match v.ev e with
      | some v => some (o :: glsV v, [o])
      | none => none
    | _ => none
  | .slc _ x _ _ _ => match x.ev e with
    | some (.sl _ _ _ _ _) => some ([], [])
    | some (.lst _ _) => some ([], [])
    | _ => none
  | .slca _ _ _ _ _ _ _ => some ([], [])
  | .len _ x => match x.ev e with
    | some (.map b) => some ([b], [])
    | _ => some ([], [])
  | .cap _ => some ([], [])
  | .look _ _ _ m _ => match m.ev e with
    | some (.map b) => some ([b], [])
    | _ => none
  | .call raw _ args => match raw, evs e args with
    | false, some vs => footArgs H vs
    | _, _ => none
  | .callv raw x args => match raw, x.ev e, evs e args with
    | false, some (.fn _ caps), some vs => footArgs H (vs ++ caps)
    | _, _, _ => none
  | _ => none
def footA (e : Env) (id : Nat) (H H' : Heap) (op : AOp) : Foot :=
  match op.kind with
  | .pure => .io [] []
  | .new => .io [id] [id]
  | .heap => match footH e H op with
    | some (r, w) => .io r w
    | none => .opq H H'
def notIn (b : Nat) : List Nat → Bool
  | [] => true
  | x :: xs => !Nat.beq x b && notIn b xs
def noneIn (l : List Nat) : List Nat → Bool
  | [] => true
  | x :: xs => notIn x l && noneIn l xs
mutual
def sameV : AVal → AVal → Bool
  | .int k n, .int k' n' => decide (k = k') && decide (n = n')
  | .bool b, .bool b' => b == b'
  | .str s, .str s' => decide (s = s')
  | .nilp, .nilp => true
  | .nili, .nili => true
  | .nilf, .nilf => true
  | .nilm, .nilm => true
  | .iface t v, .iface t' v' => Nat.beq t t' && sameV v v'
  | .agg cs, .agg cs' => sameL cs cs'
  | .tup cs, .tup cs' => sameL cs cs'
  | .lst xs e, .lst xs' e' => sameL xs xs' && (e == e')
  | .gl o l, .gl o' l' => Nat.beq o o' && Nat.beq l l'
  | .lptr o i w, .lptr o' i' w' => Nat.beq o o' && Nat.beq i i' && Nat.beq w w'
  | .gtl o i w k, .gtl o' i' w' k' => Nat.beq o o' && Nat.beq i i' && Nat.beq w w' && Nat.beq k k'
  | .sl b o l c w, .sl b' o' l' c' w' => Nat.beq b b' && Nat.beq o o' && Nat.beq l l' && Nat.beq c c' && decide (w = w')
  | .ptr b o, .ptr b' o' => Nat.beq b b' && Nat.beq o o'
  | .ro cs, .ro cs' => sameL cs cs'
  | .fn f caps, .fn f' caps' => Nat.beq f f' && sameL caps caps'
  | .map b, .map b' => Nat.beq b b'
  | .emp b, .emp b' => b == b'
  | _, _ => false
def sameL : List AVal → List AVal → Bool
  | [], [] => true
  | v :: vs, v' :: vs' => sameV v v' && sameL vs vs'
  | _, _ => false
end
def sameP : List (AVal × AVal) → List (AVal × AVal) → Bool
  | [], [] => true
  | (k, v) :: r, (k', v') :: r' => sameV k k' && sameV v v' && sameP r r'
  | _, _ => false
def sameB : Option ABlock → Option ABlock → Bool
  | some (.cells vs), some (.cells vs') => sameL vs vs'
  | some (.grow es xs op), some (.grow es' xs' op') => Nat.beq es es' && sameL xs xs' && decide (op = op')
  | some (.mp es), some (.mp es') => sameP es es'
  | some .hole, some .hole => true
  | some .dead, some .dead => true
  | none, none => true
  | _, _ => false
def sameOn (H H' : Heap) : List Nat → Bool
  | [] => true
  | b :: bs => sameB H[b]? H'[b]? && sameOn H H' bs
def disj : Foot → Foot → Bool
  | .io r w, .io r' w' => noneIn r' w && noneIn r w'
  | .io r [], .opq H H' => sameOn H H' r
  | .opq H H', .io r [] => sameOn H H' r
  | _, _ => false
def okEarlier (deps : List Nat) (f : Foot) : Nat → List Foot → Bool
  | _, [] => true
  | o, g :: gs => (disj g f || !notIn o deps) && okEarlier deps f (o + 1) gs
def okFs (all : List Foot) : Nat → List (AOper × Nat × List Nat) → List Foot → Bool
  | _, [], [] => true
  | i, p :: ps, f :: fs => okEarlier p.2.2 f 0 (all.take i) && okFs all (i + 1) ps fs
  | _, _, _ => false
def stepV (C : Ctx) (base : Nat) (o : AOper) (j : Nat) (e : Env) (H : Heap) : Option (Foot × AVal × Heap) :=
  match wantedA e o.guard with
  | some true =>
    if decide (o.op.kind = .new) && Nat.ble H.length (base + j) then none else
    match evalOp C e (base + j) H o.op with
    | some (.ok v, H') => some (footA e (base + j) H H' o.op, v, H')
    | _ => none
  | some false => some (.io [] [], undefA, H)
  | none => none
def runD (C : Ctx) (base : Nat) : List (AOper × Nat × List Nat) → Env → Heap → Option (List Foot × Env × Heap)
  | [], e, H => some ([], e, H)
  | p :: r, e, H => match stepV C base p.1 p.2.1 e H with
    | some (f, v, H') => match runD C base r (e.put p.1.dst v) H' with
      | some (fs, r') => some (f :: fs, r')
      | none => none
    | none => none
def evalDraw (C : Ctx) (base : Nat) (l : List (AOper × Nat × List Nat)) (e : Env) (H : Heap) : Option (AEx × Env × Heap) :=
  match runD C base l e H with
  | some (fs, e', H') => if okFs fs 0 l fs then some (.norm, e', H') else none
  | none => none
def restr (e : Env) : List Nat → Env
  | [] => []
  | t :: ts => match e.get t with
    | some v => (t, v) :: restr e ts
    | none => restr e ts
def trunc (n : Nat) (e : Env) (H : Heap) : Heap :=
  if H.length ≤ n then H else if lowE n e && lowH n (H.take n) then H.take n else H
def widthL : List AVal → Nat
  | [] => 0
  | x :: _ => x.width
def ownA (t : Nat) (off : Option Nat) (e : Env) (H : Heap) : Env × Heap :=
  match off, e.get t with
  | none, some (.lst xs true) => ((t, .gl H.length xs.length) :: e, H ++ [.grow (widthL xs) xs none])
  | some k, some (.ptr b o) => match H[b]? with
    | some (.cells vs) => match vs[o + k]? with
      | some (.lst xs true) => (e, H.set b (.cells (vs.set (o + k) (.gl H.length xs.length))) ++ [.grow (widthL xs) xs none])
      | _ => (e, H)
    | _ => (e, H)
  | _, _ => (e, H)
def sealA (t : Nat) (off : Option Nat) (e : Env) (H : Heap) : Heap :=
  match (match off, e.get t with
    | none, v => v
    | some k, some (.ptr b o) => match H[b]? with
      | some (.cells vs) => vs[o + k]?
      | _ => none
    | _, _ => none) with
  | some (.gl o len) => match H[o]? with
    | some (.grow es xs (some _)) => if len = xs.length then H.set o (.grow es xs none) else H
    | _ => H
  | _ => H
def frzV (H : Heap) : AVal → Option AVal
  | .gl o len => shutV H (.gl o len)
  | .lst xs e => shutV H (.lst xs e)
  | _ => none
def frzA (t : Nat) (off : Option Nat) (e : Env) (H : Heap) : Env × Heap :=
  match off, e.get t with
  | none, some v => match frzV H v with
    | some v' => ((t, v') :: e, H)
    | none => (e, H)
  | some k, some (.ptr b o) => match H[b]? with
    | some (.cells vs) => match vs[o + k]? with
      | some v => match frzV H v with
        | some v' => (e, H.set b (.cells (vs.set (o + k) v')))
        | none => (e, H)
      | _ => (e, H)
    | _ => (e, H)
  | _, _ => (e, H)
def frzAll : List (Nat × Option Nat) → Env → Heap → Env × Heap
  | [], e, H => (e, H)
  | p :: r, e, H => frzAll r (frzA p.1 p.2 e H).1 (frzA p.1 p.2 e H).2
def stmtE (keep : List Nat) (frz : List (Nat × Option Nat)) (e : Env) (H : Heap) : Env := restr (frzAll frz e H).1 keep
def stmtH (n : Nat) (keep : List Nat) (frz : List (Nat × Option Nat)) (e : Env) (H : Heap) : Heap := trunc n (stmtE keep frz e H) (frzAll frz e H).2
def sameE : Env → Env → Bool
  | [], [] => true
  | (k, v) :: r, (k', v') :: r' => Nat.beq k k' && sameV v v' && sameE r r'
  | _, _ => false
def sameH : Heap → Heap → Bool
  | [], [] => true
  | b :: r, b' :: r' => sameB (some b) (some b') && sameH r r'
  | _, _ => false
def meet (keep : List Nat) : Option (AEx × Env × Heap) → Option (AEx × Env × Heap) → Option (AEx × Env × Heap)
  | some (.ret, e, H), some (.ret, e', H') => if sameE (restr e keep) (restr e' keep) && sameH H H' then some (.ret, restr e keep, H) else none
  | some (.norm, e, H), some (.norm, e', H') => if sameE (restr e keep) (restr e' keep) && sameH H H' then some (.norm, restr e keep, H) else none
  | _, _ => none
def iter : Nat → (Env → Heap → Option (AEx × Env × Heap)) → Env → Heap → Option (AEx × Env × Heap)
  | 0, _, _, _ => none
  | k + 1, f, e, H => match f e H with
    | some (.norm, e', H') => iter k f e' H'
    | r => r
def evalCode (C : Ctx) : ACode → Env → Heap → Option (AEx × Env × Heap)
  | .skip, e, H => some (.norm, e, H)
  | .reg l, e, H => evalOps C l e H
  | .draw m l, e, H => evalDraw C H.length l e (H ++ List.replicate m .hole)
  | .seq a b, e, H => match evalCode C a e H with
    | some (.norm, e', H') => evalCode C b e' H'
    | r => r
  | .cond c a b, e, H => match c.ev e with
    | some (.bool t) => if t = true then evalCode C a e H else evalCode C b e H
    | _ => none
  | .block id a, e, H => match evalCode C a e H with
    | some (.exit j, e', H') => if j = id then some (.norm, e', H') else some (.exit j, e', H')
    | r => r
  | .loop keep a, e, H => iter C.fuel (fun e' H' => evalCode C a (restr e' keep) (trunc H.length (restr e' keep) H')) e H
  | .exit id, e, H => some (.exit id, e, H)
  | .ret, e, H => some (.ret, e, H)
  | .prune keep, e, H => some (.norm, restr e keep, H)
  | .own t off, e, H => some (.norm, (ownA t off e H).1, (ownA t off e H).2)
  | .shutl t off, e, H => some (.norm, e, sealA t off e H)
  | .fork t keep a, e, H => match e.get t with
    | some (.lst [] _) => meet keep (evalCode C a ((t, .emp true) :: e) H) (evalCode C a ((t, .emp false) :: e) H)
    | _ => evalCode C a e H
  | .stmt keep frz a, e, H => match evalCode C a e H with
    | some (.norm, e', H') => some (.norm, stmtE keep frz e' H', stmtH H.length keep frz e' H')
    | r => r
def initEnv (i : Nat) : List AVal → Env
  | [] => []
  | v :: vs => (i, v) :: initEnv (i + 1) vs
def resOf (e : Env) (H : Heap) : ARes → Option AVal
  | .t n => e.get n
  | .cs n => match e.get n with
    | some p => loadS H p
    | none => none
  | .ca n k => match e.get n with
    | some p => loadA H k p
    | none => none
def resAll (e : Env) (H : Heap) : List ARes → Option (List AVal)
  | [] => some []
  | r :: rs => match resOf e H r with
    | some v => match resAll e H rs with
      | some vs => some (v :: vs)
      | none => none
    | none => none
def oneOr : List AVal → AVal
  | [v] => v
  | vs => .tup vs
def finish (af : AFunc) : Option (AEx × Env × Heap) → Option (Ex × Heap)
  | some (.norm, e, H) => match resAll e H af.results with
    | some vs => some (.ok (oneOr vs), H)
    | none => none
  | some (.ret, e, H) => match resAll e H af.results with
    | some vs => some (.ok (oneOr vs), H)
    | none => none
  | some (.pan v, _, H) => some (.pan v, H)
  | _ => none
def callF (tab : Nat → Option AFunc) : Nat → FuncId → List AVal → Heap → Option (Ex × Heap)
  | 0, _, _, _ => none
  | n + 1, f, as, H => match tab f with
    | none => none
    | some af => finish af (evalCode ⟨callF tab n, n⟩ af.body (initEnv 0 as) H)
def pcall (tab : Nat → Option AFunc) (n : Nat) (f : FuncId) (as : List AVal) : Option Ex := pureRes (callF tab n f as [])
end Go.Ev
namespace Go.Ev.Seat
set_option maxRecDepth 100000
open Go Go.Ev
def a6 : AFunc := ⟨.seq (.stmt [1, 2] [] (.reg [ ⟨some 2, .box (.t 0), none⟩, ⟨some 4, .mv (.c (.bool false)), none⟩])) (.seq (.stmt [1, 2, 5] [] (.reg [ ⟨some 13, .call false 8 [], none⟩, ⟨some 5, .mv (.t 13), none⟩])) (.seq (.stmt [1, 2, 5, 6] [] (.reg [ ⟨some 14, .lda 5 (.t 2), none⟩, ⟨some 15, .call false 24 [(.t 14), (.c (.int .i64 6))], none⟩, ⟨some 6, .mv (.t 15), none⟩])) (.seq (.stmt [1, 2, 5] [] (.seq (.stmt [1, 2, 5, 22] [] (.reg [ ⟨some 16, .mv (.t 6), none⟩, ⟨some 17, .un .not (.t 16), none⟩, ⟨some 18, .mv (.t 17), none⟩, ⟨some 19, .mv (.t 1), some (18, false)⟩, ⟨some 20, .len .slice (.t 19), some (18, false)⟩, ⟨some 21, .bin .gtr (.t 20) (.c (.int .i64 8)), some (18, false)⟩, ⟨some 22, .pick (.t 18) (.c (.bool true)) (.t 21), none⟩])) (.cond (.t 22) (.seq (.reg [ ⟨some 23, .mv (.t 5), none⟩, ⟨some 4, .mv (.t 23), none⟩]) (.ret)) (.skip)))) (.seq (.stmt [1, 2, 5] [] (.seq (.stmt [1, 2, 5, 7] [] (.reg [ ⟨some 7, .mv (.c (.int .i64 0)), none⟩])) (.block 0 (.loop [7, 1, 2, 5] (.seq (.stmt [1, 2, 5, 7] [] (.seq (.stmt [1, 2, 5, 7, 27] [] (.reg [ ⟨some 24, .mv (.t 7), none⟩, ⟨some 25, .mv (.t 1), none⟩, ⟨some 26, .len .slice (.t 25), none⟩, ⟨some 27, .bin .lss (.t 24) (.t 26), none⟩])) (.cond (.t 27) (.skip) (.exit 0)))) (.seq (.stmt [1, 2, 5, 7] [] (.block 1 (.seq (.stmt [1, 2, 5, 7, 91] [] (.reg [ ⟨some 30, .mv (.t 1), none⟩, ⟨some 31, .mv (.t 7), none⟩, ⟨some 32, .ia 2 (.t 30) (.t 31), none⟩, ⟨some 33, .fa 0 (.t 32), none⟩, ⟨some 34, .lds (.t 33), none⟩, ⟨some 35, .bin .neq (.t 34) (.c (.int .i64 1)), none⟩, ⟨some 36, .mv (.t 35), none⟩, ⟨some 37, .mv (.t 1), some (36, true)⟩, ⟨some 38, .mv (.t 7), some (36, true)⟩, ⟨some 39, .ia 2 (.t 37) (.t 38), some (36, true)⟩, ⟨some 40, .fa 0 (.t 39), some (36, true)⟩, ⟨some 41, .lds (.t 40), some (36, true)⟩, ⟨some 42, .bin .neq (.t 41) (.c (.int .i64 2)), some (36, true)⟩, ⟨some 43, .pick (.t 36) (.t 42) (.c (.bool false)), none⟩, ⟨some 44, .mv (.t 43), none⟩, ⟨some 45, .mv (.t 1), some (44, true)⟩, ⟨some 46, .mv (.t 7), some (44, true)⟩, ⟨some 47, .ia 2 (.t 45) (.t 46), some (44, true)⟩, ⟨some 48, .fa 0 (.t 47), some (44, true)⟩, ⟨some 49, .lds (.t 48), some (44, true)⟩, ⟨some 50, .bin .neq (.t 49) (.c (.int .i64 4)), some (44, true)⟩, ⟨some 51, .pick (.t 44) (.t 50) (.c (.bool false)), none⟩, ⟨some 52, .mv (.t 51), none⟩, ⟨some 53, .mv (.t 1), some (52, true)⟩, ⟨some 54, .mv (.t 7), some (52, true)⟩, ⟨some 55, .ia 2 (.t 53) (.t 54), some (52, true)⟩, ⟨some 56, .fa 0 (.t 55), some (52, true)⟩, ⟨some 57, .lds (.t 56), some (52, true)⟩, ⟨some 58, .bin .neq (.t 57) (.c (.int .i64 8)), some (52, true)⟩, ⟨some 59, .pick (.t 52) (.t 58) (.c (.bool false)), none⟩, ⟨some 60, .mv (.t 59), none⟩, ⟨some 61, .mv (.t 1), some (60, true)⟩, ⟨some 62, .mv (.t 7), some (60, true)⟩, ⟨some 63, .ia 2 (.t 61) (.t 62), some (60, true)⟩, ⟨some 64, .fa 0 (.t 63), some (60, true)⟩, ⟨some 65, .lds (.t 64), some (60, true)⟩, ⟨some 66, .bin .neq (.t 65) (.c (.int .i64 16)), some (60, true)⟩, ⟨some 67, .pick (.t 60) (.t 66) (.c (.bool false)), none⟩, ⟨some 68, .mv (.t 67), none⟩, ⟨some 69, .mv (.t 1), some (68, true)⟩, ⟨some 70, .mv (.t 7), some (68, true)⟩, ⟨some 71, .ia 2 (.t 69) (.t 70), some (68, true)⟩, ⟨some 72, .fa 0 (.t 71), some (68, true)⟩, ⟨some 73, .lds (.t 72), some (68, true)⟩, ⟨some 74, .bin .neq (.t 73) (.c (.int .i64 32)), some (68, true)⟩, ⟨some 75, .pick (.t 68) (.t 74) (.c (.bool false)), none⟩, ⟨some 76, .mv (.t 75), none⟩, ⟨some 77, .mv (.t 1), some (76, true)⟩, ⟨some 78, .mv (.t 7), some (76, true)⟩, ⟨some 79, .ia 2 (.t 77) (.t 78), some (76, true)⟩, ⟨some 80, .fa 0 (.t 79), some (76, true)⟩, ⟨some 81, .lds (.t 80), some (76, true)⟩, ⟨some 82, .bin .neq (.t 81) (.c (.int .i64 64)), some (76, true)⟩, ⟨some 83, .pick (.t 76) (.t 82) (.c (.bool false)), none⟩, ⟨some 84, .mv (.t 83), none⟩, ⟨some 85, .mv (.t 1), some (84, true)⟩, ⟨some 86, .mv (.t 7), some (84, true)⟩, ⟨some 87, .ia 2 (.t 85) (.t 86), some (84, true)⟩, ⟨some 88, .fa 0 (.t 87), some (84, true)⟩, ⟨some 89, .lds (.t 88), some (84, true)⟩, ⟨some 90, .bin .neq (.t 89) (.c (.int .i64 128)), some (84, true)⟩, ⟨some 91, .pick (.t 84) (.t 90) (.c (.bool false)), none⟩])) (.cond (.t 91) (.seq (.reg [ ⟨some 92, .mv (.t 5), none⟩, ⟨some 4, .mv (.t 92), none⟩]) (.ret)) (.skip))))) (.reg [ ⟨some 28, .mv (.t 7), none⟩, ⟨some 29, .bin .add (.t 28) (.c (.int .i64 1)), none⟩, ⟨some 7, .mv (.t 29), none⟩]))))))) (.seq (.stmt [1, 2, 5, 8] [] (.reg [ ⟨some 93, .lda 5 (.t 2), none⟩, ⟨some 94, .mv (.t 1), none⟩, ⟨some 95, .len .slice (.t 94), none⟩, ⟨some 96, .call false 28 [(.t 93), (.t 95)], none⟩, ⟨some 8, .mv (.t 96), none⟩])) (.seq (.stmt [1, 2, 5] [] (.seq (.stmt [1, 2, 5, 98] [] (.reg [ ⟨some 97, .mv (.t 8), none⟩, ⟨some 98, .un .not (.t 97), none⟩])) (.cond (.t 98) (.seq (.reg [ ⟨some 99, .mv (.t 5), none⟩, ⟨some 4, .mv (.t 99), none⟩]) (.ret)) (.skip)))) (.seq (.stmt [1, 2, 5, 9] [] (.reg [ ⟨some 100, .lda 5 (.t 2), none⟩, ⟨some 101, .call false 26 [(.t 100)], none⟩, ⟨some 9, .alloc [.bool false, .lst [] true, .bool false, .lst [] true], none⟩, ⟨none, .sta 4 (.t 9) (.t 101), none⟩])) (.seq (.stmt [1, 2, 5, 9, 10] [] (.reg [ ⟨some 102, .fa 2 (.t 9), none⟩, ⟨some 103, .lda 2 (.t 102), none⟩, ⟨some 10, .alloc [.bool false, .lst [] true], none⟩, ⟨none, .sta 2 (.t 10) (.t 103), none⟩])) (.seq (.stmt [1, 5, 10] [] (.seq (.stmt [1, 5, 9, 10, 106] [] (.reg [ ⟨some 104, .lda 5 (.t 2), none⟩, ⟨some 105, .mv (.t 1), none⟩, ⟨some 106, .call false 29 [(.t 104), (.t 105)], none⟩])) (.cond (.t 106) (.reg [ ⟨some 107, .fa 0 (.t 9), none⟩, ⟨some 108, .lda 2 (.t 107), none⟩, ⟨none, .sta 2 (.t 10) (.t 108), none⟩]) (.skip)))) (.seq (.stmt [5, 10] [] (.seq (.stmt [1, 5, 10, 11] [] (.reg [ ⟨some 11, .mv (.c (.int .i64 0)), none⟩])) (.block 2 (.loop [11, 1, 5, 10] (.seq (.stmt [1, 5, 10, 11] [] (.seq (.stmt [1, 5, 10, 11, 113] [] (.reg [ ⟨some 109, .mv (.t 11), none⟩, ⟨some 110, .fa 1 (.t 10), none⟩, ⟨some 111, .lds (.t 110), none⟩, ⟨some 112, .len .slice (.t 111), none⟩, ⟨some 113, .bin .lss (.t 109) (.t 112), none⟩])) (.cond (.t 113) (.skip) (.exit 2)))) (.seq (.stmt [1, 5, 10, 11] [] (.block 3 (.seq (.stmt [1, 5, 10, 11, 12] [] (.reg [ ⟨some 116, .fa 1 (.t 10), none⟩, ⟨some 117, .lds (.t 116), none⟩, ⟨some 118, .mv (.t 11), none⟩, ⟨some 119, .ia 2 (.t 117) (.t 118), none⟩, ⟨some 120, .fa 0 (.t 119), none⟩, ⟨some 121, .lds (.t 120), none⟩, ⟨some 12, .mv (.t 121), none⟩])) (.seq (.stmt [1, 5, 10, 11, 144] [] (.draw 0 [ (⟨some 122, .mv (.t 12), none⟩, 0, []), (⟨some 123, .bin .lss (.t 122) (.c (.int .i64 0)), none⟩, 0, [0]), (⟨some 124, .mv (.t 123), none⟩, 0, [0, 1]), (⟨some 125, .mv (.t 12), some (124, false)⟩, 0, [0, 1, 2]), (⟨some 126, .mv (.t 1), some (124, false)⟩, 0, [0, 1, 2]), (⟨some 127, .len .slice (.t 126), some (124, false)⟩, 0, [0, 1, 2, 4]), (⟨some 128, .bin .geq (.t 125) (.t 127), some (124, false)⟩, 0, [0, 1, 2, 3, 4, 5]), (⟨some 129, .pick (.t 124) (.c (.bool true)) (.t 128), none⟩, 0, [0, 1, 2, 3, 4, 5, 6]), (⟨some 130, .mv (.t 129), none⟩, 0, [0, 1, 2, 3, 4, 5, 6, 7]), (⟨some 131, .mv (.t 1), some (130, false)⟩, 0, [0, 1, 2, 3, 4, 5, 6, 7, 8]), (⟨some 132, .mv (.t 12), some (130, false)⟩, 0, [0, 1, 2, 3, 4, 5, 6, 7, 8]), (⟨some 133, .ia 2 (.t 131) (.t 132), some (130, false)⟩, 0, [0, 1, 2, 3, 4, 5, 6, 7, 8, 9, 10]), (⟨some 134, .fa 0 (.t 133), some (130, false)⟩, 0, [0, 1, 2, 3, 4, 5, 6, 7, 8, 9, 10, 11]), (⟨some 135, .lds (.t 134), some (130, false)⟩, 0, [0, 1, 2, 3, 4, 5, 6, 7, 8, 9, 10, 11, 12]), (⟨some 136, .fa 1 (.t 10), some (130, false)⟩, 0, [0, 1, 2, 3, 4, 5, 6, 7, 8]), (⟨some 137, .lds (.t 136), some (130, false)⟩, 0, [0, 1, 2, 3, 4, 5, 6, 7, 8, 14]), (⟨some 138, .mv (.t 11), some (130, false)⟩, 0, [0, 1, 2, 3, 4, 5, 6, 7, 8]), (⟨some 139, .ia 2 (.t 137) (.t 138), some (130, false)⟩, 0, [0, 1, 2, 3, 4, 5, 6, 7, 8, 14, 15, 16]), (⟨some 140, .fa 1 (.t 139), some (130, false)⟩, 0, [0, 1, 2, 3, 4, 5, 6, 7, 8, 14, 15, 16, 17]), (⟨some 141, .lds (.t 140), some (130, false)⟩, 0, [0, 1, 2, 3, 4, 5, 6, 7, 8, 14, 15, 16, 17, 18]), (⟨some 142, .bin .and (.t 135) (.t 141), some (130, false)⟩, 0, [0, 1, 2, 3, 4, 5, 6, 7, 8, 9, 10, 11, 12, 13, 14, 15, 16, 17, 18, 19]), (⟨some 143, .bin .eql (.t 142) (.c (.int .i64 0)), some (130, false)⟩, 0, [0, 1, 2, 3, 4, 5, 6, 7, 8, 9, 10, 11, 12, 13, 14, 15, 16, 17, 18, 19, 20]), (⟨some 144, .pick (.t 130) (.c (.bool true)) (.t 143), none⟩, 0, [0, 1, 2, 3, 4, 5, 6, 7, 8, 9, 10, 11, 12, 13, 14, 15, 16, 17, 18, 19, 20, 21])])) (.cond (.t 144) (.seq (.reg [ ⟨some 4, .mv (.c (.bool false)), none⟩]) (.ret)) (.skip)))))) (.reg [ ⟨some 114, .mv (.t 11), none⟩, ⟨some 115, .bin .add (.t 114) (.c (.int .i64 1)), none⟩, ⟨some 11, .mv (.t 115), none⟩]))))))) (.seq (.reg [ ⟨some 145, .mv (.t 5), none⟩, ⟨some 146, .mv (.t 145), none⟩, ⟨some 147, .fa 0 (.t 10), some (146, true)⟩, ⟨some 148, .lds (.t 147), some (146, true)⟩, ⟨some 149, .un .not (.t 148), some (146, true)⟩, ⟨some 150, .pick (.t 146) (.t 149) (.c (.bool false)), none⟩, ⟨some 4, .mv (.t 150), none⟩]) (.ret)))))))))))), [.t 4]⟩
def a8 : AFunc := ⟨.seq (.stmt [] [] (.reg [ ⟨some 0, .mv (.c (.bool false)), none⟩])) (.seq (.stmt [1] [] (.reg [ ⟨some 3, .call false 34 [(.c (.int .i64 0)), (.c (.int .i64 1))], none⟩, ⟨some 4, .call false 34 [(.c (.int .i64 1)), (.c (.int .i64 4))], none⟩, ⟨some 5, .call false 35 [(.c (.bool false))], none⟩, ⟨some 6, .call false 33 [(.t 3), (.t 4), (.t 5)], none⟩, ⟨some 1, .alloc [.bool false, .lst [] true, .bool false, .lst [] true], none⟩, ⟨none, .sta 4 (.t 1) (.t 6), none⟩])) (.seq (.stmt [1, 2] [(2, none)] (.draw 0 [ (⟨some 7, .call false 36 [], none⟩, 0, []), (⟨some 8, .call false 36 [], none⟩, 0, [0]), (⟨some 9, .bsl 6 (.agg [.bool false, .int .i64 0, .int .i64 0, .lst [] true, .int .i64 0, .lst [] true]) 2 [(0, (.t 7)), (1, (.t 8))], none⟩, 0, [0, 1]), (⟨some 10, .fa 0 (.t 1), none⟩, 0, []), (⟨some 11, .lda 2 (.t 10), none⟩, 0, [3]), (⟨some 12, .call false 17 [(.t 9), (.t 11)], none⟩, 0, [0, 1, 2, 3, 4]), (⟨some 2, .mv (.t 12), none⟩, 0, [0, 1, 2, 3, 4, 5])])) (.seq (.reg [ ⟨some 13, .fa 0 (.t 1), none⟩, ⟨some 14, .fa 1 (.t 13), none⟩, ⟨some 15, .lds (.t 14), none⟩, ⟨some 16, .len .slice (.t 15), none⟩, ⟨some 17, .bin .eql (.t 16) (.c (.int .i64 2)), none⟩, ⟨some 18, .mv (.t 17), none⟩, ⟨some 19, .fa 0 (.t 1), some (18, true)⟩, ⟨some 20, .fa 1 (.t 19), some (18, true)⟩, ⟨some 21, .lds (.t 20), some (18, true)⟩, ⟨some 22, .ia 2 (.t 21) (.c (.int .i64 1)), some (18, true)⟩, ⟨some 23, .lda 2 (.t 22), some (18, true)⟩, ⟨some 24, .build [.int .i64 0, .int .i64 0] [(0, 1, (.c (.int .i64 1))), (1, 1, (.c (.int .i64 4)))], some (18, true)⟩, ⟨some 25, .eqv false (.ints [.i, .i]) (.t 23) (.t 24), some (18, true)⟩, ⟨some 26, .pick (.t 18) (.t 25) (.c (.bool false)), none⟩, ⟨some 27, .mv (.t 26), none⟩, ⟨some 28, .fa 2 (.t 1), some (27, true)⟩, ⟨some 29, .fa 1 (.t 28), some (27, true)⟩, ⟨some 30, .lds (.t 29), some (27, true)⟩, ⟨some 31, .len .slice (.t 30), some (27, true)⟩, ⟨some 32, .bin .eql (.t 31) (.c (.int .i64 0)), some (27, true)⟩, ⟨some 33, .pick (.t 27) (.t 32) (.c (.bool false)), none⟩, ⟨some 34, .mv (.t 33), none⟩, ⟨some 35, .mv (.t 2), some (34, true)⟩, ⟨some 36, .len .slice (.t 35), some (34, true)⟩, ⟨some 37, .bin .eql (.t 36) (.c (.int .i64 2)), some (34, true)⟩, ⟨some 38, .pick (.t 34) (.t 37) (.c (.bool false)), none⟩, ⟨some 39, .mv (.t 38), none⟩, ⟨some 40, .mv (.t 2), some (39, true)⟩, ⟨some 41, .ia 6 (.t 40) (.c (.int .i64 0)), some (39, true)⟩, ⟨some 42, .lda 6 (.t 41), some (39, true)⟩, ⟨some 43, .call false 22 [(.t 42)], some (39, true)⟩, ⟨some 44, .bin .eql (.t 43) (.c (.int .i64 1)), some (39, true)⟩, ⟨some 45, .pick (.t 39) (.t 44) (.c (.bool false)), none⟩, ⟨some 46, .mv (.t 45), none⟩, ⟨some 47, .mv (.t 2), some (46, true)⟩, ⟨some 48, .ia 6 (.t 47) (.c (.int .i64 1)), some (46, true)⟩, ⟨some 49, .lda 6 (.t 48), some (46, true)⟩, ⟨some 50, .call false 20 [(.t 49), (.c (.int .i64 255))], some (46, true)⟩, ⟨some 51, .fld 1 none (.t 50), some (46, true)⟩, ⟨some 52, .bin .eql (.t 51) (.c (.int .i64 4)), some (46, true)⟩, ⟨some 53, .pick (.t 46) (.t 52) (.c (.bool false)), none⟩, ⟨some 0, .mv (.t 53), none⟩]) (.ret)))), [.t 0]⟩
def a11 : AFunc := ⟨.seq (.stmt [2, 3, 4] [] (.reg [ ⟨some 2, .box (.t 0), none⟩, ⟨some 3, .box (.t 1), none⟩, ⟨some 4, .alloc [.bool false, .lst [] true], none⟩])) (.seq (.stmt [2, 3, 4] [] (.seq (.stmt [2, 3, 4, 10] [] (.reg [ ⟨some 5, .fa 0 (.t 2), none⟩, ⟨some 6, .lds (.t 5), none⟩, ⟨some 7, .mv (.t 6), none⟩, ⟨some 8, .fa 0 (.t 3), some (7, false)⟩, ⟨some 9, .lds (.t 8), some (7, false)⟩, ⟨some 10, .pick (.t 7) (.c (.bool true)) (.t 9), none⟩])) (.cond (.t 10) (.seq (.reg [ ⟨some 11, .build [.bool false, .lst [] true] [(0, 1, (.c (.bool true)))], none⟩, ⟨none, .sta 2 (.t 4) (.t 11), none⟩]) (.ret)) (.skip)))) (.seq (.reg [ ⟨some 12, .fa 1 (.t 2), none⟩, ⟨some 13, .lds (.t 12), none⟩, ⟨some 14, .fa 1 (.t 3), none⟩, ⟨some 15, .lds (.t 14), none⟩, ⟨some 16, .bsl 1 (.lst [] true) 2 [(0, (.t 13)), (1, (.t 15))], none⟩, ⟨some 17, .call false 39 [(.t 16)], none⟩, ⟨some 18, .call true 38 [(.t 17)], none⟩, ⟨some 19, .call true 37 [(.t 18)], none⟩, ⟨none, .sta 2 (.t 4) (.t 19), none⟩]) (.ret))), [.ca 4 2]⟩
def a13 : AFunc := ⟨.seq (.stmt [2, 3, 4] [] (.reg [ ⟨some 2, .box (.t 0), none⟩, ⟨some 3, .box (.t 1), none⟩, ⟨some 4, .alloc [.bool false, .lst [] true], none⟩])) (.seq (.stmt [2, 3, 4] [] (.block 0 (.seq (.stmt [2, 3, 4, 10] [] (.reg [ ⟨some 11, .fa 0 (.t 2), none⟩, ⟨some 12, .lds (.t 11), none⟩, ⟨some 10, .mv (.t 12), none⟩])) (.cond (.t 10) (.seq (.reg [ ⟨some 13, .lda 2 (.t 3), none⟩, ⟨some 14, .build [.bool false, .lst [] true] [], none⟩, ⟨some 15, .call false 11 [(.t 13), (.t 14)], none⟩, ⟨none, .sta 2 (.t 4) (.t 15), none⟩]) (.ret)) (.seq (.stmt [2, 3, 4, 16] [] (.reg [ ⟨some 17, .fa 0 (.t 3), none⟩, ⟨some 18, .lds (.t 17), none⟩, ⟨some 16, .mv (.t 18), none⟩])) (.cond (.t 16) (.seq (.reg [ ⟨some 19, .lda 2 (.t 2), none⟩, ⟨some 20, .build [.bool false, .lst [] true] [], none⟩, ⟨some 21, .call false 11 [(.t 19), (.t 20)], none⟩, ⟨none, .sta 2 (.t 4) (.t 21), none⟩]) (.ret)) (.skip))))))) (.seq (.stmt [2, 3, 4, 5] [] (.reg [ ⟨some 5, .mv (.c (.lst [] true)), none⟩])) (.seq (.stmt [2, 4, 5, 6] [] (.reg [ ⟨some 22, .fa 1 (.t 3), none⟩, ⟨some 23, .lds (.t 22), none⟩, ⟨some 24, .call true 38 [(.t 23)], none⟩, ⟨some 6, .mv (.t 24), none⟩])) (.seq (.stmt [4, 5] [] (.seq (.stmt [4, 5, 6, 27, 28, 29] [] (.reg [ ⟨some 25, .fa 1 (.t 2), none⟩, ⟨some 26, .lds (.t 25), none⟩, ⟨some 27, .call true 38 [(.t 26)], none⟩, ⟨some 28, .len .slice (.t 27), none⟩, ⟨some 29, .mv (.c (.int .i64 0)), none⟩])) (.block 1 (.seq (.own 5 none) (.loop [5, 29, 4, 6, 27, 28] (.seq (.stmt [4, 5, 6, 27, 28, 29, 30] [] (.reg [ ⟨some 30, .bin .lss (.t 29) (.t 28), none⟩])) (.seq (.stmt [4, 5, 6, 27, 28, 29] [] (.cond (.t 30) (.skip) (.exit 1))) (.seq (.stmt [4, 5, 6, 27, 28, 29] [] (.block 2 (.seq (.stmt [4, 5, 6, 8, 27, 28, 29] [] (.reg [ ⟨some 31, .ia 2 (.t 27) (.t 29), none⟩, ⟨some 32, .lda 2 (.t 31), none⟩, ⟨some 8, .alloc [.int .i64 0, .int .i64 0], none⟩, ⟨none, .sta 2 (.t 8) (.t 32), none⟩])) (.seq (.stmt [4, 5, 6, 8, 9, 27, 28, 29] [] (.reg [ ⟨some 33, .mv (.t 6), none⟩, ⟨some 34, .mkf 43 [(.t 8)], none⟩, ⟨some 35, .call true 42 [(.t 33), (.t 34)], none⟩, ⟨some 9, .mv (.t 35), none⟩])) (.seq (.stmt [4, 5, 6, 8, 9, 27, 28, 29, 37] [] (.reg [ ⟨some 36, .mv (.t 9), none⟩, ⟨some 37, .bin .geq (.t 36) (.c (.int .i64 0)), none⟩])) (.cond (.t 37) (.draw 1 [ (⟨some 38, .mv (.t 5), none⟩, 0, []), (⟨some 39, .fa 0 (.t 8), none⟩, 0, []), (⟨some 40, .lds (.t 39), none⟩, 0, [1]), (⟨some 41, .fa 1 (.t 8), none⟩, 0, []), (⟨some 42, .lds (.t 41), none⟩, 0, [3]), (⟨some 43, .mv (.t 6), none⟩, 0, []), (⟨some 44, .mv (.t 9), none⟩, 0, []), (⟨some 45, .ia 2 (.t 43) (.t 44), none⟩, 0, [5, 6]), (⟨some 46, .fa 1 (.t 45), none⟩, 0, [5, 6, 7]), (⟨some 47, .lds (.t 46), none⟩, 0, [5, 6, 7, 8]), (⟨some 48, .bin .or (.t 42) (.t 47), none⟩, 0, [3, 4, 5, 6, 7, 8, 9]), (⟨some 49, .build [.int .i64 0, .int .i64 0] [(0, 1, (.t 40)), (1, 1, (.t 48))], none⟩, 0, [1, 2, 3, 4, 5, 6, 7, 8, 9, 10]), (⟨some 50, .bsl 2 (.agg [.int .i64 0, .int .i64 0]) 1 [(0, (.t 49))], none⟩, 0, [1, 2, 3, 4, 5, 6, 7, 8, 9, 10, 11]), (⟨some 51, .app 2 16 true (.t 38) (.t 50), none⟩, 0, [0, 1, 2, 3, 4, 5, 6, 7, 8, 9, 10, 11, 12]), (⟨some 5, .mv (.t 51), none⟩, 0, [0, 1, 2, 3, 4, 5, 6, 7, 8, 9, 10, 11, 12, 13])]) (.skip))))))) (.reg [ ⟨some 52, .bin .add (.t 29) (.c (.int .i64 1)), none⟩, ⟨some 29, .mv (.t 52), none⟩]))))))))) (.seq (.stmt [4] [] (.reg [ ⟨some 53, .mv (.t 5), none⟩, ⟨some 54, .call true 37 [(.t 53)], none⟩, ⟨none, .sta 2 (.t 4) (.t 54), none⟩])) (.seq (.shutl 5 none) (.ret))))))), [.ca 4 2]⟩
def a17 : AFunc := ⟨.seq (.stmt [0, 3] [] (.reg [ ⟨some 3, .box (.t 1), none⟩, ⟨some 4, .mv (.c (.lst [] true)), none⟩])) (.seq (.stmt [0, 3] [] (.seq (.stmt [0, 3, 9] [] (.reg [ ⟨some 8, .fa 0 (.t 3), none⟩, ⟨some 9, .lds (.t 8), none⟩])) (.cond (.t 9) (.seq (.reg [ ⟨some 10, .mv (.t 0), none⟩, ⟨some 11, .len .slice (.t 10), none⟩, ⟨some 12, .mks 6 80 (some 6) [.bool false, .int .i64 0, .int .i64 0, .lst [] true, .int .i64 0, .lst [] true] (.t 11) (.t 11), none⟩, ⟨some 4, .mv (.t 12), none⟩]) (.ret)) (.skip)))) (.seq (.stmt [3, 5] [] (.seq (.reg [ ⟨some 13, .mv (.t 0), none⟩, ⟨some 14, .call true 47 [(.t 13)], none⟩, ⟨some 5, .mv (.t 14), none⟩]) (.own 5 none))) (.seq (.stmt [5] [] (.seq (.stmt [5, 16, 17, 18] [] (.reg [ ⟨some 15, .fa 1 (.t 3), none⟩, ⟨some 16, .lds (.t 15), none⟩, ⟨some 17, .len .slice (.t 16), none⟩, ⟨some 18, .mv (.c (.int .i64 0)), none⟩])) (.block 0 (.loop [18, 5, 16, 17] (.seq (.stmt [5, 16, 17, 18, 19] [] (.reg [ ⟨some 19, .bin .lss (.t 18) (.t 17), none⟩])) (.seq (.stmt [5, 16, 17, 18] [] (.cond (.t 19) (.skip) (.exit 0))) (.seq (.stmt [5, 16, 17, 18] [] (.block 1 (.seq (.stmt [5, 7, 16, 17, 18] [] (.reg [ ⟨some 20, .ia 2 (.t 16) (.t 18), none⟩, ⟨some 21, .lda 2 (.t 20), none⟩, ⟨some 7, .alloc [.int .i64 0, .int .i64 0], none⟩, ⟨none, .sta 2 (.t 7) (.t 21), none⟩])) (.seq (.stmt [5, 7, 16, 17, 18, 31] [] (.reg [ ⟨some 22, .fa 0 (.t 7), none⟩, ⟨some 23, .lds (.t 22), none⟩, ⟨some 24, .bin .geq (.t 23) (.c (.int .i64 0)), none⟩, ⟨some 25, .mv (.t 24), none⟩, ⟨some 26, .fa 0 (.t 7), some (25, true)⟩, ⟨some 27, .lds (.t 26), some (25, true)⟩, ⟨some 28, .mv (.t 5), some (25, true)⟩, ⟨some 29, .len .slice (.t 28), some (25, true)⟩, ⟨some 30, .bin .lss (.t 27) (.t 29), some (25, true)⟩, ⟨some 31, .pick (.t 25) (.t 30) (.c (.bool false)), none⟩])) (.cond (.t 31) (.draw 0 [ (⟨some 32, .mv (.t 5), none⟩, 0, []), (⟨some 33, .fa 0 (.t 7), none⟩, 0, []), (⟨some 34, .lds (.t 33), none⟩, 0, [1]), (⟨some 35, .mv (.t 5), none⟩, 0, []), (⟨some 36, .fa 0 (.t 7), none⟩, 0, []), (⟨some 37, .lds (.t 36), none⟩, 0, [4]), (⟨some 38, .ia 6 (.t 35) (.t 37), none⟩, 0, [3, 4, 5]), (⟨some 39, .lda 6 (.t 38), none⟩, 0, [3, 4, 5, 6]), (⟨some 40, .fa 1 (.t 7), none⟩, 0, []), (⟨some 41, .lds (.t 40), none⟩, 0, [8]), (⟨some 42, .call false 20 [(.t 39), (.t 41)], none⟩, 0, [3, 4, 5, 6, 7, 8, 9]), (⟨some 43, .ia 6 (.t 32) (.t 34), none⟩, 0, [0, 1, 2, 3, 4, 5, 6, 7, 8, 9, 10]), (⟨none, .stk 6 (.t 43) (.t 42), none⟩, 0, [0, 1, 2, 3, 4, 5, 6, 7, 8, 9, 10, 11])]) (.skip)))))) (.reg [ ⟨some 44, .bin .add (.t 18) (.c (.int .i64 1)), none⟩, ⟨some 18, .mv (.t 44), none⟩])))))))) (.seq (.shutl 5 none) (.seq (.reg [ ⟨some 45, .mv (.t 5), none⟩, ⟨some 4, .mv (.t 45), none⟩]) (.ret)))))), [.t 4]⟩
def a20 : AFunc := ⟨.seq (.stmt [1, 2, 4] [] (.reg [ ⟨some 2, .box (.t 0), none⟩, ⟨some 4, .alloc [.bool false, .int .i64 0, .int .i64 0, .lst [] true, .int .i64 0, .lst [] true], none⟩])) (.seq (.stmt [1, 2, 4] [] (.seq (.stmt [1, 2, 4, 6] [] (.reg [ ⟨some 5, .fa 0 (.t 2), none⟩, ⟨some 6, .lds (.t 5), none⟩])) (.cond (.t 6) (.seq (.stmt [1, 2, 4] [] (.seq (.stmt [1, 2, 4, 9] [] (.reg [ ⟨some 7, .mv (.t 1), none⟩, ⟨some 8, .bin .and (.t 7) (.c (.int .i64 255)), none⟩, ⟨some 9, .bin .eql (.t 8) (.c (.int .i64 255)), none⟩])) (.cond (.t 9) (.seq (.reg [ ⟨some 10, .lda 6 (.t 2), none⟩, ⟨none, .sta 6 (.t 4) (.t 10), none⟩]) (.ret)) (.skip)))) (.seq (.stmt [1, 2, 4] [] (.reg [ ⟨some 11, .call false 48 [(.c (.int .i64 63))], none⟩, ⟨some 12, .call false 36 [], none⟩, ⟨some 13, .call false 36 [], none⟩, ⟨some 14, .call false 49 [(.t 12), (.t 13)], none⟩, ⟨some 15, .call false 31 [(.t 11), (.t 14)], none⟩, ⟨none, .sta 6 (.t 2) (.t 15), none⟩])) (.reg [ ⟨some 16, .fa 4 (.t 2), none⟩, ⟨none, .sts (.t 16) (.c (.int .i64 2)), none⟩]))) (.skip)))) (.seq (.stmt [1, 2, 4] [] (.reg [ ⟨some 17, .fa 1 (.t 2), none⟩, ⟨some 18, .lds (.t 17), none⟩, ⟨some 19, .mv (.t 1), none⟩, ⟨some 20, .bin .and (.t 18) (.t 19), none⟩, ⟨some 21, .fa 1 (.t 2), none⟩, ⟨none, .sts (.t 21) (.t 20), none⟩])) (.seq (.stmt [1, 2, 4] [(2, some 3)] (.seq (.stmt [1, 2, 4, 24] [] (.reg [ ⟨some 22, .mv (.t 1), none⟩, ⟨some 23, .bin .and (.t 22) (.c (.int .i64 64)), none⟩, ⟨some 24, .bin .eql (.t 23) (.c (.int .i64 0)), none⟩])) (.cond (.t 24) (.reg [ ⟨some 25, .fa 2 (.t 2), none⟩, ⟨none, .sts (.t 25) (.c (.int .i64 0)), none⟩, ⟨some 26, .fa 3 (.t 2), none⟩, ⟨none, .sts (.t 26) (.c (.lst [] true)), none⟩]) (.skip)))) (.seq (.stmt [2, 4] [(2, some 5)] (.seq (.stmt [2, 4, 29] [] (.reg [ ⟨some 27, .mv (.t 1), none⟩, ⟨some 28, .bin .and (.t 27) (.c (.int .i64 128)), none⟩, ⟨some 29, .bin .eql (.t 28) (.c (.int .i64 0)), none⟩])) (.cond (.t 29) (.reg [ ⟨some 30, .fa 4 (.t 2), none⟩, ⟨none, .sts (.t 30) (.c (.int .i64 0)), none⟩, ⟨some 31, .fa 5 (.t 2), none⟩, ⟨none, .sts (.t 31) (.c (.lst [] true)), none⟩]) (.skip)))) (.seq (.reg [ ⟨some 32, .lda 6 (.t 2), none⟩, ⟨none, .sta 6 (.t 4) (.t 32), none⟩]) (.ret)))))), [.ca 4 6]⟩
def a22 : AFunc := ⟨.seq (.stmt [1] [] (.reg [ ⟨some 1, .box (.t 0), none⟩, ⟨some 2, .mv (.c (.int .i64 0)), none⟩])) (.seq (.stmt [1, 3] [] (.reg [ ⟨some 4, .fa 1 (.t 1), none⟩, ⟨some 5, .lds (.t 4), none⟩, ⟨some 3, .mv (.t 5), none⟩])) (.seq (.stmt [1, 3] [] (.seq (.stmt [1, 3, 8] [] (.reg [ ⟨some 6, .fa 2 (.t 1), none⟩, ⟨some 7, .lds (.t 6), none⟩, ⟨some 8, .bin .neq (.t 7) (.c (.int .i64 0)), none⟩])) (.cond (.t 8) (.reg [ ⟨some 9, .mv (.t 3), none⟩, ⟨some 10, .bin .or (.t 9) (.c (.int .i64 64)), none⟩, ⟨some 3, .mv (.t 10), none⟩]) (.skip)))) (.seq (.stmt [1, 3] [] (.seq (.stmt [1, 3, 13] [] (.reg [ ⟨some 11, .fa 4 (.t 1), none⟩, ⟨some 12, .lds (.t 11), none⟩, ⟨some 13, .bin .neq (.t 12) (.c (.int .i64 0)), none⟩])) (.cond (.t 13) (.reg [ ⟨some 14, .mv (.t 3), none⟩, ⟨some 15, .bin .or (.t 14) (.c (.int .i64 128)), none⟩, ⟨some 3, .mv (.t 15), none⟩]) (.skip)))) (.seq (.stmt [3] [] (.seq (.stmt [3, 17] [] (.reg [ ⟨some 16, .fa 0 (.t 1), none⟩, ⟨some 17, .lds (.t 16), none⟩])) (.cond (.t 17) (.reg [ ⟨some 3, .mv (.c (.int .i64 255)), none⟩]) (.skip)))) (.seq (.reg [ ⟨some 18, .mv (.t 3), none⟩, ⟨some 2, .mv (.t 18), none⟩]) (.ret)))))), [.t 2]⟩
def a24 : AFunc := ⟨.seq (.stmt [1, 2] [] (.reg [ ⟨some 2, .box (.t 0), none⟩, ⟨some 4, .mv (.c (.bool false)), none⟩])) (.seq (.stmt [1, 2] [] (.seq (.stmt [1, 2, 13] [] (.reg [ ⟨some 6, .mv (.t 1), none⟩, ⟨some 7, .bin .eql (.t 6) (.c (.int .i64 0)), none⟩, ⟨some 8, .mv (.t 7), none⟩, ⟨some 9, .fa 4 (.t 2), some (8, false)⟩, ⟨some 10, .lds (.t 9), some (8, false)⟩, ⟨some 11, .len .slice (.t 10), some (8, false)⟩, ⟨some 12, .bin .gtr (.t 11) (.c (.int .i64 5)), some (8, false)⟩, ⟨some 13, .pick (.t 8) (.c (.bool true)) (.t 12), none⟩])) (.cond (.t 13) (.seq (.reg [ ⟨some 4, .mv (.c (.bool false)), none⟩]) (.ret)) (.skip)))) (.seq (.stmt [] [] (.seq (.stmt [1, 2, 5] [] (.reg [ ⟨some 5, .mv (.c (.int .i64 0)), none⟩])) (.block 0 (.loop [5, 1, 2] (.seq (.stmt [1, 2, 5] [] (.seq (.stmt [1, 2, 5, 18] [] (.reg [ ⟨some 14, .mv (.t 5), none⟩, ⟨some 15, .fa 4 (.t 2), none⟩, ⟨some 16, .lds (.t 15), none⟩, ⟨some 17, .len .slice (.t 16), none⟩, ⟨some 18, .bin .lss (.t 14) (.t 17), none⟩])) (.cond (.t 18) (.skip) (.exit 0)))) (.seq (.stmt [1, 2, 5] [] (.block 1 (.seq (.stmt [1, 2, 5, 29] [] (.reg [ ⟨some 21, .fa 4 (.t 2), none⟩, ⟨some 22, .lds (.t 21), none⟩, ⟨some 23, .mv (.t 5), none⟩, ⟨some 24, .ia 5 (.t 22) (.t 23), none⟩, ⟨some 25, .lda 5 (.t 24), none⟩, ⟨some 26, .mv (.t 1), none⟩, ⟨some 27, .bin .sub (.t 26) (.c (.int .i64 1)), none⟩, ⟨some 28, .call false 24 [(.t 25), (.t 27)], none⟩, ⟨some 29, .un .not (.t 28), none⟩])) (.cond (.t 29) (.seq (.reg [ ⟨some 4, .mv (.c (.bool false)), none⟩]) (.ret)) (.skip))))) (.reg [ ⟨some 19, .mv (.t 5), none⟩, ⟨some 20, .bin .add (.t 19) (.c (.int .i64 1)), none⟩, ⟨some 5, .mv (.t 20), none⟩]))))))) (.seq (.reg [ ⟨some 4, .mv (.c (.bool true)), none⟩]) (.ret)))), [.t 4]⟩
def a26 : AFunc := ⟨.seq (.stmt [1, 2] [] (.reg [ ⟨some 1, .box (.t 0), none⟩, ⟨some 2, .alloc [.bool false, .lst [] true, .bool false, .lst [] true], none⟩])) (.seq (.stmt [2] [] (.seq (.stmt [1, 2, 4] [] (.reg [ ⟨some 3, .fa 0 (.t 1), none⟩, ⟨some 4, .lds (.t 3), none⟩])) (.block 0 (.seq (.stmt [1, 2, 4, 5] [] (.reg [ ⟨some 6, .bin .eql (.t 4) (.c (.int .i64 0)), none⟩, ⟨some 5, .mv (.t 6), none⟩])) (.cond (.t 5) (.seq (.reg [ ⟨some 7, .fa 1 (.t 1), none⟩, ⟨some 8, .lds (.t 7), none⟩, ⟨some 9, .fa 2 (.t 1), none⟩, ⟨some 10, .lds (.t 9), none⟩, ⟨some 11, .call false 34 [(.t 8), (.t 10)], none⟩, ⟨none, .sta 4 (.t 2) (.t 11), none⟩]) (.ret)) (.seq (.stmt [1, 2, 4, 12] [] (.reg [ ⟨some 13, .bin .eql (.t 4) (.c (.int .i64 1)), none⟩, ⟨some 12, .mv (.t 13), none⟩])) (.cond (.t 12) (.seq (.reg [ ⟨some 14, .fa 1 (.t 1), none⟩, ⟨some 15, .lds (.t 14), none⟩, ⟨some 16, .call false 51 [(.t 15)], none⟩, ⟨none, .sta 4 (.t 2) (.t 16), none⟩]) (.ret)) (.seq (.stmt [1, 2, 4, 17] [] (.reg [ ⟨some 18, .bin .eql (.t 4) (.c (.int .i64 2)), none⟩, ⟨some 17, .mv (.t 18), none⟩])) (.cond (.t 17) (.seq (.reg [ ⟨some 19, .fa 3 (.t 1), none⟩, ⟨some 20, .lds (.t 19), none⟩, ⟨some 21, .call false 35 [(.t 20)], none⟩, ⟨none, .sta 4 (.t 2) (.t 21), none⟩]) (.ret)) (.seq (.stmt [1, 2, 4, 22] [] (.reg [ ⟨some 23, .bin .eql (.t 4) (.c (.int .i64 3)), none⟩, ⟨some 22, .mv (.t 23), none⟩])) (.cond (.t 22) (.seq (.stmt [1, 2, 27] [] (.reg [ ⟨some 24, .fa 4 (.t 1), none⟩, ⟨some 25, .lds (.t 24), none⟩, ⟨some 26, .len .slice (.t 25), none⟩, ⟨some 27, .bin .gtr (.t 26) (.c (.int .i64 0)), none⟩])) (.cond (.t 27) (.seq (.reg [ ⟨some 28, .fa 4 (.t 1), none⟩, ⟨some 29, .lds (.t 28), none⟩, ⟨some 30, .ia 5 (.t 29) (.c (.int .i64 0)), none⟩, ⟨some 31, .lda 5 (.t 30), none⟩, ⟨some 32, .call false 26 [(.t 31)], none⟩, ⟨some 33, .call false 52 [(.t 32)], none⟩, ⟨none, .sta 4 (.t 2) (.t 33), none⟩]) (.ret)) (.skip))) (.seq (.stmt [1, 2, 34] [] (.reg [ ⟨some 35, .bin .eql (.t 4) (.c (.int .i64 4)), none⟩, ⟨some 34, .mv (.t 35), none⟩])) (.cond (.t 34) (.seq (.stmt [1, 2, 39] [] (.reg [ ⟨some 36, .fa 4 (.t 1), none⟩, ⟨some 37, .lds (.t 36), none⟩, ⟨some 38, .len .slice (.t 37), none⟩, ⟨some 39, .bin .gtr (.t 38) (.c (.int .i64 2)), none⟩])) (.cond (.t 39) (.seq (.draw 0 [ (⟨some 40, .fa 4 (.t 1), none⟩, 0, []), (⟨some 41, .lds (.t 40), none⟩, 0, [0]), (⟨some 42, .ia 5 (.t 41) (.c (.int .i64 0)), none⟩, 0, [0, 1]), (⟨some 43, .lda 5 (.t 42), none⟩, 0, [0, 1, 2]), (⟨some 44, .call false 26 [(.t 43)], none⟩, 0, [0, 1, 2, 3]), (⟨some 45, .fa 4 (.t 1), none⟩, 0, []), (⟨some 46, .lds (.t 45), none⟩, 0, [5]), (⟨some 47, .ia 5 (.t 46) (.c (.int .i64 1)), none⟩, 0, [5, 6]), (⟨some 48, .lda 5 (.t 47), none⟩, 0, [5, 6, 7]), (⟨some 49, .call false 26 [(.t 48)], none⟩, 0, [0, 1, 2, 3, 4, 5, 6, 7, 8]), (⟨some 50, .fa 4 (.t 1), none⟩, 0, []), (⟨some 51, .lds (.t 50), none⟩, 0, [10]), (⟨some 52, .ia 5 (.t 51) (.c (.int .i64 2)), none⟩, 0, [10, 11]), (⟨some 53, .lda 5 (.t 52), none⟩, 0, [10, 11, 12]), (⟨some 54, .call false 26 [(.t 53)], none⟩, 0, [0, 1, 2, 3, 4, 5, 6, 7, 8, 9, 10, 11, 12, 13]), (⟨some 55, .call false 33 [(.t 44), (.t 49), (.t 54)], none⟩, 0, [0, 1, 2, 3, 4, 5, 6, 7, 8, 9, 10, 11, 12, 13, 14]), (⟨none, .sta 4 (.t 2) (.t 55), none⟩, 0, [0, 1, 2, 3, 4, 5, 6, 7, 8, 9, 10, 11, 12, 13, 14, 15])]) (.ret)) (.skip))) (.skip)))))))))))))) (.seq (.reg [ ⟨some 56, .call false 53 [], none⟩, ⟨none, .sta 4 (.t 2) (.t 56), none⟩]) (.ret))), [.ca 2 4]⟩
def a28 : AFunc := ⟨.seq (.stmt [1, 2] [] (.reg [ ⟨some 2, .box (.t 0), none⟩, ⟨some 4, .mv (.c (.bool false)), none⟩])) (.seq (.stmt [1, 2] [] (.seq (.stmt [1, 2, 24] [] (.reg [ ⟨some 6, .fa 0 (.t 2), none⟩, ⟨some 7, .lds (.t 6), none⟩, ⟨some 8, .bin .eql (.t 7) (.c (.int .i64 0)), none⟩, ⟨some 9, .mv (.t 8), none⟩, ⟨some 10, .fa 0 (.t 2), some (9, false)⟩, ⟨some 11, .lds (.t 10), some (9, false)⟩, ⟨some 12, .bin .eql (.t 11) (.c (.int .i64 1)), some (9, false)⟩, ⟨some 13, .pick (.t 9) (.c (.bool true)) (.t 12), none⟩, ⟨some 14, .mv (.t 13), none⟩, ⟨some 15, .fa 1 (.t 2), some (14, true)⟩, ⟨some 16, .lds (.t 15), some (14, true)⟩, ⟨some 17, .bin .lss (.t 16) (.c (.int .i64 0)), some (14, true)⟩, ⟨some 18, .mv (.t 17), some (14, true)⟩, ⟨some 19, .fa 1 (.t 2), some (18, false)⟩, ⟨some 20, .lds (.t 19), some (18, false)⟩, ⟨some 21, .mv (.t 1), some (18, false)⟩, ⟨some 22, .bin .geq (.t 20) (.t 21), some (18, false)⟩, ⟨some 23, .pick (.t 18) (.c (.bool true)) (.t 22), some (14, true)⟩, ⟨some 24, .pick (.t 14) (.t 23) (.c (.bool false)), none⟩])) (.cond (.t 24) (.seq (.reg [ ⟨some 4, .mv (.c (.bool false)), none⟩]) (.ret)) (.skip)))) (.seq (.stmt [] [] (.seq (.stmt [1, 2, 5] [] (.reg [ ⟨some 5, .mv (.c (.int .i64 0)), none⟩])) (.block 0 (.loop [5, 1, 2] (.seq (.stmt [1, 2, 5] [] (.seq (.stmt [1, 2, 5, 29] [] (.reg [ ⟨some 25, .mv (.t 5), none⟩, ⟨some 26, .fa 4 (.t 2), none⟩, ⟨some 27, .lds (.t 26), none⟩, ⟨some 28, .len .slice (.t 27), none⟩, ⟨some 29, .bin .lss (.t 25) (.t 28), none⟩])) (.cond (.t 29) (.skip) (.exit 0)))) (.seq (.stmt [1, 2, 5] [] (.block 1 (.seq (.stmt [1, 2, 5, 39] [] (.reg [ ⟨some 32, .fa 4 (.t 2), none⟩, ⟨some 33, .lds (.t 32), none⟩, ⟨some 34, .mv (.t 5), none⟩, ⟨some 35, .ia 5 (.t 33) (.t 34), none⟩, ⟨some 36, .lda 5 (.t 35), none⟩, ⟨some 37, .mv (.t 1), none⟩, ⟨some 38, .call false 28 [(.t 36), (.t 37)], none⟩, ⟨some 39, .un .not (.t 38), none⟩])) (.cond (.t 39) (.seq (.reg [ ⟨some 4, .mv (.c (.bool false)), none⟩]) (.ret)) (.skip))))) (.reg [ ⟨some 30, .mv (.t 5), none⟩, ⟨some 31, .bin .add (.t 30) (.c (.int .i64 1)), none⟩, ⟨some 5, .mv (.t 31), none⟩]))))))) (.seq (.reg [ ⟨some 4, .mv (.c (.bool true)), none⟩]) (.ret)))), [.t 4]⟩
def a29 : AFunc := ⟨.seq (.stmt [1, 2] [] (.reg [ ⟨some 2, .box (.t 0), none⟩, ⟨some 4, .mv (.c (.bool false)), none⟩])) (.seq (.stmt [] [] (.seq (.stmt [1, 2, 6] [] (.reg [ ⟨some 5, .fa 0 (.t 2), none⟩, ⟨some 6, .lds (.t 5), none⟩])) (.block 0 (.seq (.stmt [1, 2, 6, 7] [] (.reg [ ⟨some 8, .bin .eql (.t 6) (.c (.int .i64 0)), none⟩, ⟨some 7, .mv (.t 8), none⟩])) (.cond (.t 7) (.seq (.draw 0 [ (⟨some 9, .fa 1 (.t 2), none⟩, 0, []), (⟨some 10, .lds (.t 9), none⟩, 0, [0]), (⟨some 11, .bin .geq (.t 10) (.c (.int .i64 0)), none⟩, 0, [0, 1]), (⟨some 12, .mv (.t 11), none⟩, 0, [0, 1, 2]), (⟨some 13, .fa 1 (.t 2), some (12, true)⟩, 0, [0, 1, 2, 3]), (⟨some 14, .lds (.t 13), some (12, true)⟩, 0, [0, 1, 2, 3, 4]), (⟨some 15, .mv (.t 1), some (12, true)⟩, 0, [0, 1, 2, 3]), (⟨some 16, .len .slice (.t 15), some (12, true)⟩, 0, [0, 1, 2, 3, 6]), (⟨some 17, .bin .lss (.t 14) (.t 16), some (12, true)⟩, 0, [0, 1, 2, 3, 4, 5, 6, 7]), (⟨some 18, .pick (.t 12) (.t 17) (.c (.bool false)), none⟩, 0, [0, 1, 2, 3, 4, 5, 6, 7, 8]), (⟨some 19, .mv (.t 18), none⟩, 0, [0, 1, 2, 3, 4, 5, 6, 7, 8, 9]), (⟨some 20, .mv (.t 1), some (19, true)⟩, 0, [0, 1, 2, 3, 4, 5, 6, 7, 8, 9, 10]), (⟨some 21, .fa 1 (.t 2), some (19, true)⟩, 0, [0, 1, 2, 3, 4, 5, 6, 7, 8, 9, 10]), (⟨some 22, .lds (.t 21), some (19, true)⟩, 0, [0, 1, 2, 3, 4, 5, 6, 7, 8, 9, 10, 12]), (⟨some 23, .ia 2 (.t 20) (.t 22), some (19, true)⟩, 0, [0, 1, 2, 3, 4, 5, 6, 7, 8, 9, 10, 11, 12, 13]), (⟨some 24, .fa 0 (.t 23), some (19, true)⟩, 0, [0, 1, 2, 3, 4, 5, 6, 7, 8, 9, 10, 11, 12, 13, 14]), (⟨some 25, .lds (.t 24), some (19, true)⟩, 0, [0, 1, 2, 3, 4, 5, 6, 7, 8, 9, 10, 11, 12, 13, 14, 15]), (⟨some 26, .fa 2 (.t 2), some (19, true)⟩, 0, [0, 1, 2, 3, 4, 5, 6, 7, 8, 9, 10]), (⟨some 27, .lds (.t 26), some (19, true)⟩, 0, [0, 1, 2, 3, 4, 5, 6, 7, 8, 9, 10, 17]), (⟨some 28, .bin .and (.t 25) (.t 27), some (19, true)⟩, 0, [0, 1, 2, 3, 4, 5, 6, 7, 8, 9, 10, 11, 12, 13, 14, 15, 16, 17, 18]), (⟨some 29, .bin .neq (.t 28) (.c (.int .i64 0)), some (19, true)⟩, 0, [0, 1, 2, 3, 4, 5, 6, 7, 8, 9, 10, 11, 12, 13, 14, 15, 16, 17, 18, 19]), (⟨some 30, .pick (.t 19) (.t 29) (.c (.bool false)), none⟩, 0, [0, 1, 2, 3, 4, 5, 6, 7, 8, 9, 10, 11, 12, 13, 14, 15, 16, 17, 18, 19, 20]), (⟨some 4, .mv (.t 30), none⟩, 0, [0, 1, 2, 3, 4, 5, 6, 7, 8, 9, 10, 11, 12, 13, 14, 15, 16, 17, 18, 19, 20, 21])]) (.ret)) (.seq (.stmt [1, 2, 6, 31] [] (.reg [ ⟨some 32, .bin .eql (.t 6) (.c (.int .i64 1)), none⟩, ⟨some 31, .mv (.t 32), none⟩])) (.cond (.t 31) (.seq (.reg [ ⟨some 33, .fa 1 (.t 2), none⟩, ⟨some 34, .lds (.t 33), none⟩, ⟨some 35, .bin .lss (.t 34) (.c (.int .i64 0)), none⟩, ⟨some 36, .mv (.t 35), none⟩, ⟨some 37, .fa 1 (.t 2), some (36, false)⟩, ⟨some 38, .lds (.t 37), some (36, false)⟩, ⟨some 39, .mv (.t 1), some (36, false)⟩, ⟨some 40, .len .slice (.t 39), some (36, false)⟩, ⟨some 41, .bin .geq (.t 38) (.t 40), some (36, false)⟩, ⟨some 42, .pick (.t 36) (.c (.bool true)) (.t 41), none⟩, ⟨some 43, .mv (.t 42), none⟩, ⟨some 44, .mv (.t 1), some (43, false)⟩, ⟨some 45, .fa 1 (.t 2), some (43, false)⟩, ⟨some 46, .lds (.t 45), some (43, false)⟩, ⟨some 47, .ia 2 (.t 44) (.t 46), some (43, false)⟩, ⟨some 48, .fa 0 (.t 47), some (43, false)⟩, ⟨some 49, .lds (.t 48), some (43, false)⟩, ⟨some 50, .bin .neq (.t 49) (.c (.int .i64 2)), some (43, false)⟩, ⟨some 51, .pick (.t 43) (.c (.bool true)) (.t 50), none⟩, ⟨some 52, .mv (.t 51), none⟩, ⟨some 53, .mv (.t 1), some (52, false)⟩, ⟨some 54, .fa 1 (.t 2), some (52, false)⟩, ⟨some 55, .lds (.t 54), some (52, false)⟩, ⟨some 56, .ia 2 (.t 53) (.t 55), some (52, false)⟩, ⟨some 57, .fa 1 (.t 56), some (52, false)⟩, ⟨some 58, .lds (.t 57), some (52, false)⟩, ⟨some 59, .pick (.t 52) (.c (.bool true)) (.t 58), none⟩, ⟨some 4, .mv (.t 59), none⟩]) (.ret)) (.seq (.stmt [1, 2, 6, 60] [] (.reg [ ⟨some 61, .bin .eql (.t 6) (.c (.int .i64 2)), none⟩, ⟨some 60, .mv (.t 61), none⟩])) (.cond (.t 60) (.seq (.reg [ ⟨some 62, .fa 3 (.t 2), none⟩, ⟨some 63, .lds (.t 62), none⟩, ⟨some 4, .mv (.t 63), none⟩]) (.ret)) (.seq (.stmt [1, 2, 6, 64] [] (.reg [ ⟨some 65, .bin .eql (.t 6) (.c (.int .i64 3)), none⟩, ⟨some 64, .mv (.t 65), none⟩])) (.cond (.t 64) (.seq (.reg [ ⟨some 66, .fa 4 (.t 2), none⟩, ⟨some 67, .lds (.t 66), none⟩, ⟨some 68, .len .slice (.t 67), none⟩, ⟨some 69, .bin .eql (.t 68) (.c (.int .i64 0)), none⟩, ⟨some 70, .mv (.t 69), none⟩, ⟨some 71, .fa 4 (.t 2), some (70, false)⟩, ⟨some 72, .lds (.t 71), some (70, false)⟩, ⟨some 73, .ia 5 (.t 72) (.c (.int .i64 0)), some (70, false)⟩, ⟨some 74, .lda 5 (.t 73), some (70, false)⟩, ⟨some 75, .mv (.t 1), some (70, false)⟩, ⟨some 76, .call false 29 [(.t 74), (.t 75)], some (70, false)⟩, ⟨some 77, .un .not (.t 76), some (70, false)⟩, ⟨some 78, .pick (.t 70) (.c (.bool true)) (.t 77), none⟩, ⟨some 4, .mv (.t 78), none⟩]) (.ret)) (.seq (.stmt [1, 2, 79] [] (.reg [ ⟨some 80, .bin .eql (.t 6) (.c (.int .i64 4)), none⟩, ⟨some 79, .mv (.t 80), none⟩])) (.cond (.t 79) (.seq (.stmt [1, 2] [] (.seq (.stmt [1, 2, 92] [] (.reg [ ⟨some 81, .fa 4 (.t 2), none⟩, ⟨some 82, .lds (.t 81), none⟩, ⟨some 83, .len .slice (.t 82), none⟩, ⟨some 84, .bin .gtr (.t 83) (.c (.int .i64 2)), none⟩, ⟨some 85, .mv (.t 84), none⟩, ⟨some 86, .fa 4 (.t 2), some (85, true)⟩, ⟨some 87, .lds (.t 86), some (85, true)⟩, ⟨some 88, .ia 5 (.t 87) (.c (.int .i64 0)), some (85, true)⟩, ⟨some 89, .lda 5 (.t 88), some (85, true)⟩, ⟨some 90, .mv (.t 1), some (85, true)⟩, ⟨some 91, .call false 29 [(.t 89), (.t 90)], some (85, true)⟩, ⟨some 92, .pick (.t 85) (.t 91) (.c (.bool false)), none⟩])) (.cond (.t 92) (.seq (.reg [ ⟨some 93, .fa 4 (.t 2), none⟩, ⟨some 94, .lds (.t 93), none⟩, ⟨some 95, .ia 5 (.t 94) (.c (.int .i64 1)), none⟩, ⟨some 96, .lda 5 (.t 95), none⟩, ⟨some 97, .mv (.t 1), none⟩, ⟨some 98, .call false 29 [(.t 96), (.t 97)], none⟩, ⟨some 4, .mv (.t 98), none⟩]) (.ret)) (.skip)))) (.seq (.reg [ ⟨some 99, .fa 4 (.t 2), none⟩, ⟨some 100, .lds (.t 99), none⟩, ⟨some 101, .len .slice (.t 100), none⟩, ⟨some 102, .bin .lss (.t 101) (.c (.int .i64 3)), none⟩, ⟨some 103, .mv (.t 102), none⟩, ⟨some 104, .fa 4 (.t 2), some (103, false)⟩, ⟨some 105, .lds (.t 104), some (103, false)⟩, ⟨some 106, .ia 5 (.t 105) (.c (.int .i64 2)), some (103, false)⟩, ⟨some 107, .lda 5 (.t 106), some (103, false)⟩, ⟨some 108, .mv (.t 1), some (103, false)⟩, ⟨some 109, .call false 29 [(.t 107), (.t 108)], some (103, false)⟩, ⟨some 110, .pick (.t 103) (.c (.bool true)) (.t 109), none⟩, ⟨some 4, .mv (.t 110), none⟩]) (.ret))) (.skip)))))))))))))) (.seq (.reg [ ⟨some 4, .mv (.c (.bool true)), none⟩]) (.ret))), [.t 4]⟩
def a31 : AFunc := ⟨.seq (.reg [ ⟨some 2, .box (.t 0), none⟩, ⟨some 3, .box (.t 1), none⟩, ⟨some 4, .alloc [.bool false, .int .i64 0, .int .i64 0, .lst [] true, .int .i64 0, .lst [] true], none⟩]) (.seq (.prune [2, 3, 4]) (.seq (.seq (.reg [ ⟨some 6, .fa 0 (.t 2), none⟩, ⟨some 7, .lds (.t 6), none⟩, ⟨some 8, .mv (.t 7), none⟩, ⟨some 9, .fa 0 (.t 3), some (8, false)⟩, ⟨some 10, .lds (.t 9), some (8, false)⟩, ⟨some 11, .pick (.t 8) (.c (.bool true)) (.t 10), none⟩]) (.seq (.prune [2, 3, 4, 11]) (.cond (.t 11) (.seq (.reg [ ⟨some 12, .call false 36 [], none⟩, ⟨none, .sta 6 (.t 4) (.t 12), none⟩]) (.ret)) (.skip)))) (.seq (.prune [2, 3, 4]) (.seq (.reg [ ⟨some 13, .fa 1 (.t 2), none⟩, ⟨some 14, .lds (.t 13), none⟩, ⟨some 15, .fa 1 (.t 3), none⟩, ⟨some 16, .lds (.t 15), none⟩, ⟨some 17, .bin .or (.t 14) (.t 16), none⟩, ⟨some 18, .fa 2 (.t 2), none⟩, ⟨some 19, .lds (.t 18), none⟩, ⟨some 20, .fa 3 (.t 2), none⟩, ⟨some 21, .lds (.t 20), none⟩, ⟨some 22, .fa 4 (.t 2), none⟩, ⟨some 23, .lds (.t 22), none⟩, ⟨some 24, .fa 5 (.t 2), none⟩, ⟨some 25, .lds (.t 24), none⟩, ⟨some 26, .build [.bool false, .int .i64 0, .int .i64 0, .lst [] true, .int .i64 0, .lst [] true] [(1, 1, (.t 17)), (2, 1, (.t 19)), (3, 1, (.t 21)), (4, 1, (.t 23)), (5, 1, (.t 25))], none⟩, ⟨some 5, .alloc [.bool false, .int .i64 0, .int .i64 0, .lst [] true, .int .i64 0, .lst [] true], none⟩, ⟨none, .sta 6 (.t 5) (.t 26), none⟩]) (.seq (.prune [2, 3, 4, 5]) (.seq (.block 0 (.seq (.reg [ ⟨some 28, .fa 2 (.t 2), none⟩, ⟨some 29, .lds (.t 28), none⟩, ⟨some 30, .bin .eql (.t 29) (.c (.int .i64 0)), none⟩, ⟨some 27, .mv (.t 30), none⟩]) (.seq (.prune [2, 3, 4, 5, 27]) (.cond (.t 27) (.draw 0 [ (⟨some 31, .fa 2 (.t 3), none⟩, 0, []), (⟨some 32, .lds (.t 31), none⟩, 0, [0]), (⟨some 33, .fa 3 (.t 3), none⟩, 0, []), (⟨some 34, .lds (.t 33), none⟩, 0, [2]), (⟨some 35, .fa 2 (.t 5), none⟩, 0, [0, 1]), (⟨none, .sts (.t 35) (.t 32), none⟩, 0, [0, 1, 4]), (⟨some 36, .fa 3 (.t 5), none⟩, 0, [0, 1, 2, 3, 4, 5]), (⟨none, .sts (.t 36) (.t 34), none⟩, 0, [0, 1, 2, 3, 4, 5, 6])]) (.seq (.reg [ ⟨some 38, .fa 2 (.t 3), none⟩, ⟨some 39, .lds (.t 38), none⟩, ⟨some 40, .bin .neq (.t 39) (.c (.int .i64 0)), none⟩, ⟨some 37, .mv (.t 40), none⟩]) (.seq (.prune [2, 3, 4, 5, 37]) (.cond (.t 37) (.seq (.reg [ ⟨some 41, .fa 3 (.t 5), none⟩, ⟨none, .sts (.t 41) (.c (.lst [] true)), none⟩]) (.seq (.prune [2, 3, 4, 5]) (.seq (.reg [ ⟨some 42, .lda 6 (.t 2), none⟩, ⟨some 43, .lda 6 (.t 3), none⟩, ⟨some 44, .mkf 62 [(.t 5)], none⟩, ⟨some 45, .call false 61 [(.t 42), (.t 43), (.t 44)], none⟩]) (.seq (.prune [2, 3, 4, 5]) (.seq (.reg [ ⟨some 46, .fa 2 (.t 5), none⟩, ⟨none, .sts (.t 46) (.c (.int .i64 2)), none⟩]) (.seq (.prune [2, 3, 4, 5]) (.seq (.reg [ ⟨some 47, .fa 3 (.t 5), none⟩, ⟨some 48, .lds (.t 47), none⟩, ⟨some 49, .len .slice (.t 48), none⟩, ⟨some 50, .bin .gtr (.t 49) (.c (.int .i64 1)), none⟩]) (.seq (.prune [2, 3, 4, 5, 50]) (.cond (.t 50) (.reg [ ⟨some 51, .fa 2 (.t 5), none⟩, ⟨none, .sts (.t 51) (.c (.int .i64 1)), none⟩]) (.skip)))))))))) (.skip)))))))) (.seq (.prune [2, 3, 4, 5]) (.seq (.block 1 (.seq (.reg [ ⟨some 53, .fa 4 (.t 2), none⟩, ⟨some 54, .lds (.t 53), none⟩, ⟨some 55, .bin .eql (.t 54) (.c (.int .i64 0)), none⟩, ⟨some 52, .mv (.t 55), none⟩]) (.seq (.prune [2, 3, 4, 5, 52]) (.cond (.t 52) (.draw 0 [ (⟨some 56, .fa 4 (.t 3), none⟩, 0, []), (⟨some 57, .lds (.t 56), none⟩, 0, [0]), (⟨some 58, .fa 5 (.t 3), none⟩, 0, []), (⟨some 59, .lds (.t 58), none⟩, 0, [2]), (⟨some 60, .fa 4 (.t 5), none⟩, 0, [0, 1]), (⟨none, .sts (.t 60) (.t 57), none⟩, 0, [0, 1, 4]), (⟨some 61, .fa 5 (.t 5), none⟩, 0, [0, 1, 2, 3, 4, 5]), (⟨none, .sts (.t 61) (.t 59), none⟩, 0, [0, 1, 2, 3, 4, 5, 6])]) (.seq (.reg [ ⟨some 63, .fa 4 (.t 3), none⟩, ⟨some 64, .lds (.t 63), none⟩, ⟨some 65, .bin .neq (.t 64) (.c (.int .i64 0)), none⟩, ⟨some 66, .mv (.t 65), none⟩, ⟨some 67, .fa 4 (.t 2), some (66, true)⟩, ⟨some 68, .lds (.t 67), some (66, true)⟩, ⟨some 69, .fa 4 (.t 3), some (66, true)⟩, ⟨some 70, .lds (.t 69), some (66, true)⟩, ⟨some 71, .bin .eql (.t 68) (.t 70), some (66, true)⟩, ⟨some 72, .mv (.t 71), some (66, true)⟩, ⟨some 73, .fa 5 (.t 2), some (72, true)⟩, ⟨some 74, .lds (.t 73), some (72, true)⟩, ⟨some 75, .fa 5 (.t 3), some (72, true)⟩, ⟨some 76, .lds (.t 75), some (72, true)⟩, ⟨some 77, .call false 63 [(.t 74), (.t 76), (.c (.fn 64 []))], some (72, true)⟩, ⟨some 78, .pick (.t 72) (.t 77) (.c (.bool false)), some (66, true)⟩, ⟨some 79, .un .not (.t 78), some (66, true)⟩, ⟨some 80, .pick (.t 66) (.t 79) (.c (.bool false)), none⟩, ⟨some 62, .mv (.t 80), none⟩]) (.seq (.prune [4, 5, 62]) (.cond (.t 62) (.reg [ ⟨some 81, .fa 4 (.t 5), none⟩, ⟨none, .sts (.t 81) (.c (.int .i64 2)), none⟩, ⟨some 82, .fa 5 (.t 5), none⟩, ⟨none, .sts (.t 82) (.c (.lst [] true)), none⟩]) (.skip)))))))) (.seq (.prune [4, 5]) (.seq (.reg [ ⟨some 83, .lda 6 (.t 5), none⟩, ⟨none, .sta 6 (.t 4) (.t 83), none⟩]) (.ret))))))))))), [.ca 4 6]⟩
def a33 : AFunc := ⟨.seq (.stmt [3, 4, 5, 6] [] (.reg [ ⟨some 3, .box (.t 0), none⟩, ⟨some 4, .box (.t 1), none⟩, ⟨some 5, .box (.t 2), none⟩, ⟨some 6, .alloc [.bool false, .lst [] true, .bool false, .lst [] true], none⟩])) (.seq (.stmt [4, 5, 6, 7] [] (.reg [ ⟨some 8, .mkf 66 [(.t 3)], none⟩, ⟨some 7, .mv (.t 8), none⟩])) (.seq (.draw 0 [ (⟨some 9, .mv (.t 7), none⟩, 0, []), (⟨some 10, .fa 0 (.t 4), none⟩, 0, []), (⟨some 11, .lda 2 (.t 10), none⟩, 0, [1]), (⟨some 12, .fa 0 (.t 5), none⟩, 0, []), (⟨some 13, .lda 2 (.t 12), none⟩, 0, [3]), (⟨some 14, .callv false (.t 9) [(.t 11), (.t 13)], none⟩, 0, [0, 1, 2, 3, 4]), (⟨some 15, .mv (.t 7), none⟩, 0, []), (⟨some 16, .fa 2 (.t 4), none⟩, 0, []), (⟨some 17, .lda 2 (.t 16), none⟩, 0, [7]), (⟨some 18, .fa 2 (.t 5), none⟩, 0, []), (⟨some 19, .lda 2 (.t 18), none⟩, 0, [9]), (⟨some 20, .callv false (.t 15) [(.t 17), (.t 19)], none⟩, 0, [0, 1, 2, 3, 4, 5, 6, 7, 8, 9, 10]), (⟨some 21, .build [.bool false, .lst [] true, .bool false, .lst [] true] [(0, 2, (.t 14)), (2, 2, (.t 20))], none⟩, 0, [0, 1, 2, 3, 4, 5, 6, 7, 8, 9, 10, 11]), (⟨none, .sta 4 (.t 6) (.t 21), none⟩, 0, [0, 1, 2, 3, 4, 5, 6, 7, 8, 9, 10, 11, 12])]) (.ret))), [.ca 6 4]⟩
def a34 : AFunc := ⟨.seq (.stmt [0, 1, 4] [] (.reg [ ⟨some 4, .alloc [.bool false, .lst [] true, .bool false, .lst [] true], none⟩])) (.seq (.reg [ ⟨some 5, .mv (.t 0), none⟩, ⟨some 6, .mv (.t 1), none⟩, ⟨some 7, .call false 67 [(.t 5), (.t 6)], none⟩, ⟨some 8, .mv (.t 0), none⟩, ⟨some 9, .mv (.t 1), none⟩, ⟨some 10, .un .xor (.t 9), none⟩, ⟨some 11, .call false 67 [(.t 8), (.t 10)], none⟩, ⟨some 12, .build [.bool false, .lst [] true, .bool false, .lst [] true] [(0, 2, (.t 7)), (2, 2, (.t 11))], none⟩, ⟨none, .sta 4 (.t 4) (.t 12), none⟩]) (.ret)), [.ca 4 4]⟩
def a35 : AFunc := ⟨.seq (.stmt [0, 2] [] (.reg [ ⟨some 2, .alloc [.bool false, .lst [] true, .bool false, .lst [] true], none⟩])) (.seq (.reg [ ⟨some 3, .mv (.t 0), none⟩, ⟨some 4, .un .not (.t 3), none⟩, ⟨some 5, .build [.bool false, .lst [] true] [(0, 1, (.t 4))], none⟩, ⟨some 6, .mv (.t 0), none⟩, ⟨some 7, .build [.bool false, .lst [] true] [(0, 1, (.t 6))], none⟩, ⟨some 8, .build [.bool false, .lst [] true, .bool false, .lst [] true] [(0, 2, (.t 5)), (2, 2, (.t 7))], none⟩, ⟨none, .sta 4 (.t 2) (.t 8), none⟩]) (.ret)), [.ca 2 4]⟩
def a36 : AFunc := ⟨.seq (.reg [ ⟨some 0, .alloc [.bool false, .int .i64 0, .int .i64 0, .lst [] true, .int .i64 0, .lst [] true], none⟩]) (.seq (.prune [0]) (.seq (.reg [ ⟨some 1, .build [.bool false, .int .i64 0, .int .i64 0, .lst [] true, .int .i64 0, .lst [] true] [(0, 1, (.c (.bool true)))], none⟩, ⟨none, .sta 6 (.t 0) (.t 1), none⟩]) (.ret))), [.ca 0 6]⟩
def a37 : AFunc := ⟨.seq (.stmt [0, 2] [] (.reg [ ⟨some 2, .alloc [.bool false, .lst [] true], none⟩])) (.seq (.stmt [2] [] (.reg [ ⟨some 3, .mv (.t 0), none⟩, ⟨some 4, .call true 68 [(.t 3), (.c (.fn 69 []))], none⟩, ⟨some 5, .build [.bool false, .lst [] true] [(1, 1, (.t 4))], none⟩, ⟨none, .sta 2 (.t 2) (.t 5), none⟩])) (.seq (.shutl 2 (some 1)) (.ret))), [.ca 2 2]⟩
def a38 : AFunc := ⟨.seq (.stmt [0] [] (.reg [ ⟨some 2, .mv (.c (.lst [] true)), none⟩])) (.seq (.stmt [0] [] (.seq (.reg [ ⟨some 7, .mv (.t 0), none⟩, ⟨some 8, .call true 70 [(.t 7)], none⟩, ⟨some 0, .mv (.t 8), none⟩]) (.own 0 none))) (.seq (.stmt [0] [] (.reg [ ⟨some 9, .mv (.t 0), none⟩, ⟨some 10, .call true 71 [(.t 9), (.c (.fn 72 []))], none⟩])) (.seq (.shutl 0 none) (.seq (.stmt [0, 3] [] (.reg [ ⟨some 3, .mv (.c (.lst [] true)), none⟩])) (.seq (.stmt [3] [] (.seq (.stmt [3, 11, 12, 13] [] (.reg [ ⟨some 11, .mv (.t 0), none⟩, ⟨some 12, .len .slice (.t 11), none⟩, ⟨some 13, .mv (.c (.int .i64 0)), none⟩])) (.block 0 (.seq (.own 3 none) (.loop [3, 13, 11, 12] (.seq (.stmt [3, 11, 12, 13, 14] [] (.reg [ ⟨some 14, .bin .lss (.t 13) (.t 12), none⟩])) (.seq (.stmt [3, 11, 12, 13] [] (.cond (.t 14) (.skip) (.exit 0))) (.seq (.stmt [3, 11, 12, 13] [] (.block 1 (.seq (.stmt [3, 5, 11, 12, 13] [] (.reg [ ⟨some 15, .ia 2 (.t 11) (.t 13), none⟩, ⟨some 16, .lda 2 (.t 15), none⟩, ⟨some 5, .alloc [.int .i64 0, .int .i64 0], none⟩, ⟨none, .sta 2 (.t 5) (.t 16), none⟩])) (.seq (.stmt [3, 5, 11, 12, 13] [] (.reg [ ⟨some 17, .fa 1 (.t 5), none⟩, ⟨some 18, .lds (.t 17), none⟩, ⟨some 19, .bin .and (.t 18) (.c (.int .i64 255)), none⟩, ⟨some 20, .fa 1 (.t 5), none⟩, ⟨none, .sts (.t 20) (.t 19), none⟩])) (.seq (.stmt [3, 5, 11, 12, 13] [] (.seq (.stmt [3, 5, 6, 11, 12, 13] [] (.reg [ ⟨some 21, .mv (.t 3), none⟩, ⟨some 22, .len .slice (.t 21), none⟩, ⟨some 6, .mv (.t 22), none⟩])) (.seq (.stmt [3, 5, 6, 11, 12, 13, 35] [] (.draw 0 [ (⟨some 23, .mv (.t 6), none⟩, 0, []), (⟨some 24, .bin .gtr (.t 23) (.c (.int .i64 0)), none⟩, 0, [0]), (⟨some 25, .mv (.t 24), none⟩, 0, [0, 1]), (⟨some 26, .mv (.t 3), some (25, true)⟩, 0, [0, 1, 2]), (⟨some 27, .mv (.t 6), some (25, true)⟩, 0, [0, 1, 2]), (⟨some 28, .bin .sub (.t 27) (.c (.int .i64 1)), some (25, true)⟩, 0, [0, 1, 2, 4]), (⟨some 29, .ia 2 (.t 26) (.t 28), some (25, true)⟩, 0, [0, 1, 2, 3, 4, 5]), (⟨some 30, .fa 0 (.t 29), some (25, true)⟩, 0, [0, 1, 2, 3, 4, 5, 6]), (⟨some 31, .lds (.t 30), some (25, true)⟩, 0, [0, 1, 2, 3, 4, 5, 6, 7]), (⟨some 32, .fa 0 (.t 5), some (25, true)⟩, 0, [0, 1, 2]), (⟨some 33, .lds (.t 32), some (25, true)⟩, 0, [0, 1, 2, 9]), (⟨some 34, .bin .eql (.t 31) (.t 33), some (25, true)⟩, 0, [0, 1, 2, 3, 4, 5, 6, 7, 8, 9, 10]), (⟨some 35, .pick (.t 25) (.t 34) (.c (.bool false)), none⟩, 0, [0, 1, 2, 3, 4, 5, 6, 7, 8, 9, 10, 11])])) (.cond (.t 35) (.seq (.draw 0 [ (⟨some 36, .mv (.t 3), none⟩, 0, []), (⟨some 37, .mv (.t 6), none⟩, 0, []), (⟨some 38, .bin .sub (.t 37) (.c (.int .i64 1)), none⟩, 0, [1]), (⟨some 39, .ia 2 (.t 36) (.t 38), none⟩, 0, [0, 1, 2]), (⟨some 40, .fa 1 (.t 39), none⟩, 0, [0, 1, 2, 3]), (⟨some 41, .lds (.t 40), none⟩, 0, [0, 1, 2, 3, 4]), (⟨some 42, .fa 1 (.t 5), none⟩, 0, []), (⟨some 43, .lds (.t 42), none⟩, 0, [6]), (⟨some 44, .bin .and (.t 41) (.t 43), none⟩, 0, [0, 1, 2, 3, 4, 5, 6, 7]), (⟨some 45, .ia 2 (.t 36) (.t 38), none⟩, 0, [0, 1, 2, 3, 4, 5, 6, 7, 8]), (⟨some 46, .fa 1 (.t 45), none⟩, 0, [0, 1, 2, 3, 4, 5, 6, 7, 8, 9]), (⟨none, .stk 1 (.t 46) (.t 44), none⟩, 0, [0, 1, 2, 3, 4, 5, 6, 7, 8, 9, 10])]) (.exit 1)) (.skip))))) (.reg [ ⟨some 47, .mv (.t 3), none⟩, ⟨some 48, .lda 2 (.t 5), none⟩, ⟨some 49, .bsl 2 (.agg [.int .i64 0, .int .i64 0]) 1 [(0, (.t 48))], none⟩, ⟨some 50, .app 2 16 true (.t 47) (.t 49), none⟩, ⟨some 3, .mv (.t 50), none⟩])))))) (.reg [ ⟨some 51, .bin .add (.t 13) (.c (.int .i64 1)), none⟩, ⟨some 13, .mv (.t 51), none⟩]))))))))) (.seq (.reg [ ⟨some 52, .mv (.t 3), none⟩, ⟨some 2, .mv (.t 52), none⟩]) (.ret))))))), [.t 2]⟩
def a39 : AFunc := ⟨.seq (.reg [ ⟨some 2, .mv (.c (.lst [] true)), none⟩]) (.seq (.prune [0]) (.seq (.reg [ ⟨some 3, .mv (.c (.int .i64 0)), none⟩]) (.seq (.prune [0, 3]) (.seq (.seq (.reg [ ⟨some 9, .mv (.t 0), none⟩, ⟨some 10, .len .slice (.t 9), none⟩, ⟨some 11, .mv (.c (.int .i64 0)), none⟩]) (.seq (.prune [0, 3, 9, 10, 11]) (.block 0 (.loop [3, 11, 0, 9, 10] (.seq (.reg [ ⟨some 12, .bin .lss (.t 11) (.t 10), none⟩]) (.seq (.prune [0, 3, 9, 10, 11, 12]) (.seq (.cond (.t 12) (.skip) (.exit 0)) (.seq (.prune [0, 3, 9, 10, 11]) (.seq (.block 1 (.seq (.reg [ ⟨some 13, .ia 1 (.t 9) (.t 11), none⟩, ⟨some 14, .lds (.t 13), none⟩, ⟨some 5, .mv (.t 14), none⟩]) (.seq (.prune [0, 3, 5, 9, 10, 11]) (.seq (.reg [ ⟨some 15, .mv (.t 3), none⟩, ⟨some 16, .mv (.t 5), none⟩, ⟨some 17, .len .slice (.t 16), none⟩, ⟨some 18, .bin .add (.t 15) (.t 17), none⟩, ⟨some 3, .mv (.t 18), none⟩]) (.seq (.prune [0, 3, 9, 10, 11]) (.seq (.reg [ ⟨some 19, .mv (.t 3), none⟩, ⟨some 20, .bin .lss (.t 19) (.c (.int .i64 0)), none⟩]) (.seq (.prune [0, 3, 9, 10, 11, 20]) (.cond (.t 20) (.reg [ ⟨some 21, .mki 9 (.c (.str [108, 101, 110, 32, 111, 117, 116, 32, 111, 102, 32, 114, 97, 110, 103, 101])), none⟩, ⟨none, .panic (.t 21), none⟩]) (.skip))))))))) (.seq (.prune [0, 3, 9, 10, 11]) (.reg [ ⟨some 22, .bin .add (.t 11) (.c (.int .i64 1)), none⟩, ⟨some 11, .mv (.t 22), none⟩]))))))))))) (.seq (.prune [0, 3]) (.seq (.reg [ ⟨some 23, .mv (.t 3), none⟩, ⟨some 24, .call true 74 [(.c (.lst [] true)), (.t 23)], none⟩, ⟨some 6, .mv (.t 24), none⟩]) (.seq (.prune [0, 6]) (.seq (.seq (.reg [ ⟨some 25, .mv (.t 0), none⟩, ⟨some 26, .len .slice (.t 25), none⟩, ⟨some 27, .mv (.c (.int .i64 0)), none⟩]) (.seq (.prune [6, 25, 26, 27]) (.block 2 (.seq (.own 6 none) (.loop [6, 27, 25, 26] (.seq (.reg [ ⟨some 28, .bin .lss (.t 27) (.t 26), none⟩]) (.seq (.prune [6, 25, 26, 27, 28]) (.seq (.cond (.t 28) (.skip) (.exit 2)) (.seq (.prune [6, 25, 26, 27]) (.seq (.block 3 (.seq (.reg [ ⟨some 29, .ia 1 (.t 25) (.t 27), none⟩, ⟨some 30, .lds (.t 29), none⟩, ⟨some 8, .mv (.t 30), none⟩]) (.seq (.prune [6, 8, 25, 26, 27]) (.reg [ ⟨some 31, .mv (.t 6), none⟩, ⟨some 32, .mv (.t 8), none⟩, ⟨some 33, .app 2 16 false (.t 31) (.t 32), none⟩, ⟨some 6, .mv (.t 33), none⟩])))) (.seq (.prune [6, 25, 26, 27]) (.reg [ ⟨some 34, .bin .add (.t 27) (.c (.int .i64 1)), none⟩, ⟨some 27, .mv (.t 34), none⟩])))))))))))) (.seq (.prune [6]) (.seq (.reg [ ⟨some 35, .mv (.t 6), none⟩, ⟨some 2, .mv (.t 35), none⟩]) (.ret))))))))))), [.t 2]⟩
def a42 : AFunc := ⟨.seq (.stmt [0, 1] [] (.reg [ ⟨some 4, .mv (.c (.int .i64 0)), none⟩])) (.seq (.stmt [] [] (.seq (.stmt [0, 1, 7, 8] [] (.reg [ ⟨some 6, .mv (.t 0), none⟩, ⟨some 7, .len .slice (.t 6), none⟩, ⟨some 8, .mv (.c (.int .i64 0)), none⟩])) (.block 0 (.loop [8, 0, 1, 7] (.seq (.stmt [0, 1, 7, 8, 9] [] (.reg [ ⟨some 9, .bin .lss (.t 8) (.t 7), none⟩])) (.seq (.stmt [0, 1, 7, 8] [] (.cond (.t 9) (.skip) (.exit 0))) (.seq (.stmt [0, 1, 7, 8] [] (.block 1 (.seq (.stmt [0, 1, 5, 7, 8] [] (.reg [ ⟨some 10, .mv (.t 8), none⟩, ⟨some 5, .mv (.t 10), none⟩])) (.seq (.stmt [0, 1, 5, 7, 8, 16] [] (.reg [ ⟨some 11, .mv (.t 1), none⟩, ⟨some 12, .mv (.t 0), none⟩, ⟨some 13, .mv (.t 5), none⟩, ⟨some 14, .ia 2 (.t 12) (.t 13), none⟩, ⟨some 15, .lda 2 (.t 14), none⟩, ⟨some 16, .callv false (.t 11) [(.t 15)], none⟩])) (.cond (.t 16) (.seq (.reg [ ⟨some 17, .mv (.t 5), none⟩, ⟨some 4, .mv (.t 17), none⟩]) (.ret)) (.skip)))))) (.reg [ ⟨some 18, .bin .add (.t 8) (.c (.int .i64 1)), none⟩, ⟨some 8, .mv (.t 18), none⟩])))))))) (.seq (.reg [ ⟨some 4, .mv (.c (.int .i64 (-1))), none⟩]) (.ret))), [.t 4]⟩
def a43 : AFunc := ⟨.seq (.stmt [1, 2] [] (.reg [ ⟨some 2, .box (.t 0), none⟩, ⟨some 3, .mv (.c (.bool false)), none⟩])) (.seq (.reg [ ⟨some 4, .fa 0 (.t 2), none⟩, ⟨some 5, .lds (.t 4), none⟩, ⟨some 6, .fa 0 (.t 1), none⟩, ⟨some 7, .lds (.t 6), none⟩, ⟨some 8, .bin .eql (.t 5) (.t 7), none⟩, ⟨some 3, .mv (.t 8), none⟩]) (.ret)), [.t 3]⟩
def a47 : AFunc := ⟨.fork 0 [2] (.seq (.stmt [0] [] (.reg [ ⟨some 2, .mv (.c (.lst [] true)), none⟩])) (.seq (.stmt [0] [] (.seq (.stmt [0, 4] [] (.reg [ ⟨some 3, .mv (.t 0), none⟩, ⟨some 4, .isnil .slice false (.t 3), none⟩])) (.cond (.t 4) (.seq (.reg [ ⟨some 2, .mv (.c (.lst [] true)), none⟩]) (.ret)) (.skip)))) (.seq (.reg [ ⟨some 5, .bsl 6 (.agg [.bool false, .int .i64 0, .int .i64 0, .lst [] true, .int .i64 0, .lst [] true]) 0 [], none⟩, ⟨some 6, .mv (.t 0), none⟩, ⟨some 7, .app 6 80 true (.t 5) (.t 6), none⟩, ⟨some 2, .mv (.t 7), none⟩]) (.ret)))), [.t 2]⟩
def a48 : AFunc := ⟨.seq (.reg [ ⟨some 2, .alloc [.bool false, .int .i64 0, .int .i64 0, .lst [] true, .int .i64 0, .lst [] true], none⟩]) (.seq (.prune [0, 2]) (.seq (.reg [ ⟨some 3, .mv (.t 0), none⟩, ⟨some 4, .bin .and (.t 3) (.c (.int .i64 63)), none⟩, ⟨some 5, .build [.bool false, .int .i64 0, .int .i64 0, .lst [] true, .int .i64 0, .lst [] true] [(1, 1, (.t 4))], none⟩, ⟨none, .sta 6 (.t 2) (.t 5), none⟩]) (.ret))), [.ca 2 6]⟩
def a49 : AFunc := ⟨.seq (.reg [ ⟨some 2, .box (.t 0), none⟩, ⟨some 3, .box (.t 1), none⟩, ⟨some 4, .alloc [.bool false, .int .i64 0, .int .i64 0, .lst [] true, .int .i64 0, .lst [] true], none⟩]) (.seq (.prune [2, 3, 4]) (.seq (.reg [ ⟨some 5, .lda 6 (.t 2), none⟩, ⟨some 6, .lda 6 (.t 3), none⟩, ⟨some 7, .bsl 6 (.agg [.bool false, .int .i64 0, .int .i64 0, .lst [] true, .int .i64 0, .lst [] true]) 2 [(0, (.t 5)), (1, (.t 6))], none⟩, ⟨some 8, .build [.bool false, .int .i64 0, .int .i64 0, .lst [] true, .int .i64 0, .lst [] true] [(2, 1, (.c (.int .i64 1))), (3, 1, (.t 7))], none⟩, ⟨none, .sta 6 (.t 4) (.t 8), none⟩]) (.ret))), [.ca 4 6]⟩
def a51 : AFunc := ⟨.seq (.stmt [0, 2] [] (.reg [ ⟨some 2, .alloc [.bool false, .lst [] true, .bool false, .lst [] true], none⟩])) (.seq (.reg [ ⟨some 3, .mv (.t 0), none⟩, ⟨some 4, .call false 67 [(.t 3), (.c (.int .i64 2))], none⟩, ⟨some 5, .build [.bool false, .lst [] true, .bool false, .lst [] true] [(2, 2, (.t 4))], none⟩, ⟨none, .sta 4 (.t 2) (.t 5), none⟩]) (.ret)), [.ca 2 4]⟩
def a52 : AFunc := ⟨.seq (.stmt [1, 2] [] (.reg [ ⟨some 1, .box (.t 0), none⟩, ⟨some 2, .alloc [.bool false, .lst [] true, .bool false, .lst [] true], none⟩])) (.seq (.reg [ ⟨some 3, .fa 2 (.t 1), none⟩, ⟨some 4, .lda 2 (.t 3), none⟩, ⟨some 5, .fa 0 (.t 1), none⟩, ⟨some 6, .lda 2 (.t 5), none⟩, ⟨some 7, .build [.bool false, .lst [] true, .bool false, .lst [] true] [(0, 2, (.t 4)), (2, 2, (.t 6))], none⟩, ⟨none, .sta 4 (.t 2) (.t 7), none⟩]) (.ret)), [.ca 2 4]⟩
def a53 : AFunc := ⟨.seq (.stmt [0] [] (.reg [ ⟨some 0, .alloc [.bool false, .lst [] true, .bool false, .lst [] true], none⟩])) (.seq (.reg [ ⟨some 1, .build [.bool false, .lst [] true, .bool false, .lst [] true] [], none⟩, ⟨none, .sta 4 (.t 0) (.t 1), none⟩]) (.ret)), [.ca 0 4]⟩
def a61 : AFunc := ⟨.seq (.reg [ ⟨some 3, .box (.t 0), none⟩, ⟨some 4, .box (.t 1), none⟩]) (.seq (.prune [2, 3, 4]) (.seq (.reg [ ⟨some 11, .lda 6 (.t 3), none⟩, ⟨some 12, .call false 78 [(.t 11)], none⟩, ⟨some 10, .mv (.t 12), none⟩, ⟨some 13, .ext 0 (.t 10), none⟩, ⟨some 14, .ext 1 (.t 10), none⟩, ⟨some 6, .alloc [.bool false, .int .i64 0, .int .i64 0, .lst [] true, .int .i64 0, .lst [] true], none⟩, ⟨none, .sta 6 (.t 6) (.t 13), none⟩, ⟨some 7, .mv (.t 14), none⟩]) (.seq (.prune [2, 3, 4, 6]) (.seq (.reg [ ⟨some 16, .lda 6 (.t 4), none⟩, ⟨some 17, .call false 78 [(.t 16)], none⟩, ⟨some 15, .mv (.t 17), none⟩, ⟨some 18, .ext 0 (.t 15), none⟩, ⟨some 19, .ext 1 (.t 15), none⟩, ⟨some 8, .alloc [.bool false, .int .i64 0, .int .i64 0, .lst [] true, .int .i64 0, .lst [] true], none⟩, ⟨none, .sta 6 (.t 8) (.t 18), none⟩, ⟨some 9, .mv (.t 19), none⟩]) (.seq (.prune [2, 3, 4, 6, 8]) (.seq (.reg [ ⟨some 20, .mv (.t 2), none⟩, ⟨some 21, .lda 6 (.t 6), none⟩, ⟨some 22, .lda 6 (.t 8), none⟩, ⟨some 23, .callv false (.t 20) [(.t 21), (.t 22)], none⟩]) (.seq (.prune [2, 3, 4, 6, 8]) (.seq (.seq (.reg [ ⟨some 24, .fa 2 (.t 3), none⟩, ⟨some 25, .lds (.t 24), none⟩, ⟨some 26, .bin .eql (.t 25) (.c (.int .i64 2)), none⟩, ⟨some 27, .mv (.t 26), none⟩, ⟨some 28, .fa 2 (.t 4), some (27, true)⟩, ⟨some 29, .lds (.t 28), some (27, true)⟩, ⟨some 30, .bin .eql (.t 29) (.c (.int .i64 2)), some (27, true)⟩, ⟨some 31, .pick (.t 27) (.t 30) (.c (.bool false)), none⟩]) (.seq (.prune [2, 3, 4, 6, 8, 31]) (.cond (.t 31) (.ret) (.skip)))) (.seq (.prune [2, 3, 4, 6, 8]) (.seq (.reg [ ⟨some 33, .lda 6 (.t 3), none⟩, ⟨some 34, .call false 79 [(.t 33)], none⟩, ⟨some 32, .mv (.t 34), none⟩, ⟨some 35, .ext 0 (.t 32), none⟩, ⟨some 36, .ext 1 (.t 32), none⟩, ⟨none, .sta 6 (.t 6) (.t 35), none⟩]) (.seq (.prune [2, 4, 6, 8]) (.seq (.reg [ ⟨some 38, .lda 6 (.t 4), none⟩, ⟨some 39, .call false 79 [(.t 38)], none⟩, ⟨some 37, .mv (.t 39), none⟩, ⟨some 40, .ext 0 (.t 37), none⟩, ⟨some 41, .ext 1 (.t 37), none⟩, ⟨none, .sta 6 (.t 8) (.t 40), none⟩]) (.seq (.prune [2, 6, 8]) (.reg [ ⟨some 42, .mv (.t 2), none⟩, ⟨some 43, .lda 6 (.t 6), none⟩, ⟨some 44, .lda 6 (.t 8), none⟩, ⟨some 45, .callv false (.t 42) [(.t 43), (.t 44)], none⟩])))))))))))))), []⟩
def a62 : AFunc := ⟨.seq (.reg [ ⟨some 3, .box (.t 0), none⟩, ⟨some 4, .box (.t 1), none⟩]) (.seq (.prune [2, 3, 4]) (.draw 1 [ (⟨some 5, .fa 3 (.t 2), none⟩, 0, []), (⟨some 6, .lds (.t 5), none⟩, 0, [0]), (⟨some 7, .lda 6 (.t 3), none⟩, 0, []), (⟨some 8, .lda 6 (.t 4), none⟩, 0, []), (⟨some 9, .call false 31 [(.t 7), (.t 8)], none⟩, 0, [2, 3]), (⟨some 10, .len .slice (.t 6), none⟩, 0, [0, 1]), (⟨some 11, .bsl 6 (.agg [.bool false, .int .i64 0, .int .i64 0, .lst [] true, .int .i64 0, .lst [] true]) 1 [(0, (.c (.agg [.bool false, .int .i64 0, .int .i64 0, .lst [] true, .int .i64 0, .lst [] true])))], none⟩, 0, []), (⟨some 12, .app 6 80 true (.t 6) (.t 11), none⟩, 0, [0, 1, 2, 3, 4, 5, 6]), (⟨some 13, .ia 6 (.t 12) (.t 10), none⟩, 0, [0, 1, 2, 3, 4, 5, 6, 7]), (⟨none, .sta 6 (.t 13) (.t 9), none⟩, 0, [0, 1, 2, 3, 4, 5, 6, 7, 8]), (⟨some 14, .fa 3 (.t 2), none⟩, 0, [0, 1, 2, 3, 4, 5, 6, 7]), (⟨none, .sts (.t 14) (.t 12), none⟩, 0, [0, 1, 2, 3, 4, 5, 6, 7, 10])])), []⟩
def a63 : AFunc := ⟨.seq (.reg [ ⟨some 6, .mv (.c (.bool false)), none⟩]) (.seq (.prune [0, 1, 2]) (.seq (.seq (.reg [ ⟨some 10, .mv (.t 0), none⟩, ⟨some 11, .len .slice (.t 10), none⟩, ⟨some 12, .mv (.t 1), none⟩, ⟨some 13, .len .slice (.t 12), none⟩, ⟨some 14, .bin .neq (.t 11) (.t 13), none⟩]) (.seq (.prune [0, 1, 2, 14]) (.cond (.t 14) (.seq (.reg [ ⟨some 6, .mv (.c (.bool false)), none⟩]) (.ret)) (.skip)))) (.seq (.prune [0, 1, 2]) (.seq (.seq (.reg [ ⟨some 15, .mv (.t 0), none⟩, ⟨some 16, .len .slice (.t 15), none⟩, ⟨some 17, .mv (.c (.int .i64 0)), none⟩]) (.seq (.prune [1, 2, 15, 16, 17]) (.block 0 (.loop [17, 1, 2, 15, 16] (.seq (.reg [ ⟨some 18, .bin .lss (.t 17) (.t 16), none⟩]) (.seq (.prune [1, 2, 15, 16, 17, 18]) (.seq (.cond (.t 18) (.skip) (.exit 0)) (.seq (.prune [1, 2, 15, 16, 17]) (.seq (.block 1 (.seq (.reg [ ⟨some 19, .mv (.t 17), none⟩, ⟨some 20, .ia 6 (.t 15) (.t 17), none⟩, ⟨some 21, .lda 6 (.t 20), none⟩, ⟨some 8, .alloc [.bool false, .int .i64 0, .int .i64 0, .lst [] true, .int .i64 0, .lst [] true], none⟩, ⟨some 7, .mv (.t 19), none⟩, ⟨none, .sta 6 (.t 8) (.t 21), none⟩]) (.seq (.prune [1, 2, 7, 8, 15, 16, 17]) (.seq (.reg [ ⟨some 22, .mv (.t 1), none⟩, ⟨some 23, .mv (.t 7), none⟩, ⟨some 24, .ia 6 (.t 22) (.t 23), none⟩, ⟨some 25, .lda 6 (.t 24), none⟩, ⟨some 9, .alloc [.bool false, .int .i64 0, .int .i64 0, .lst [] true, .int .i64 0, .lst [] true], none⟩, ⟨none, .sta 6 (.t 9) (.t 25), none⟩]) (.seq (.prune [1, 2, 8, 9, 15, 16, 17]) (.seq (.reg [ ⟨some 26, .mv (.t 2), none⟩, ⟨some 27, .lda 6 (.t 8), none⟩, ⟨some 28, .lda 6 (.t 9), none⟩, ⟨some 29, .callv false (.t 26) [(.t 27), (.t 28)], none⟩, ⟨some 30, .un .not (.t 29), none⟩]) (.seq (.prune [1, 2, 15, 16, 17, 30]) (.cond (.t 30) (.seq (.reg [ ⟨some 6, .mv (.c (.bool false)), none⟩]) (.ret)) (.skip))))))))) (.seq (.prune [1, 2, 15, 16, 17]) (.reg [ ⟨some 31, .bin .add (.t 17) (.c (.int .i64 1)), none⟩, ⟨some 17, .mv (.t 31), none⟩]))))))))))) (.seq (.prune []) (.seq (.reg [ ⟨some 6, .mv (.c (.bool true)), none⟩]) (.ret))))))), [.t 6]⟩
def a64 : AFunc := ⟨.seq (.reg [ ⟨some 2, .box (.t 0), none⟩, ⟨some 3, .box (.t 1), none⟩, ⟨some 4, .mv (.c (.bool false)), none⟩]) (.seq (.prune [2, 3]) (.seq (.reg [ ⟨some 5, .fa 0 (.t 2), none⟩, ⟨some 6, .lds (.t 5), none⟩, ⟨some 7, .fa 0 (.t 3), none⟩, ⟨some 8, .lds (.t 7), none⟩, ⟨some 9, .eqv false .bool (.t 6) (.t 8), none⟩, ⟨some 10, .mv (.t 9), none⟩, ⟨some 11, .fa 1 (.t 2), some (10, true)⟩, ⟨some 12, .lds (.t 11), some (10, true)⟩, ⟨some 13, .fa 1 (.t 3), some (10, true)⟩, ⟨some 14, .lds (.t 13), some (10, true)⟩, ⟨some 15, .bin .eql (.t 12) (.t 14), some (10, true)⟩, ⟨some 16, .pick (.t 10) (.t 15) (.c (.bool false)), none⟩, ⟨some 17, .mv (.t 16), none⟩, ⟨some 18, .fa 2 (.t 2), some (17, true)⟩, ⟨some 19, .lds (.t 18), some (17, true)⟩, ⟨some 20, .fa 2 (.t 3), some (17, true)⟩, ⟨some 21, .lds (.t 20), some (17, true)⟩, ⟨some 22, .bin .eql (.t 19) (.t 21), some (17, true)⟩, ⟨some 23, .pick (.t 17) (.t 22) (.c (.bool false)), none⟩, ⟨some 24, .mv (.t 23), none⟩, ⟨some 25, .fa 4 (.t 2), some (24, true)⟩, ⟨some 26, .lds (.t 25), some (24, true)⟩, ⟨some 27, .fa 4 (.t 3), some (24, true)⟩, ⟨some 28, .lds (.t 27), some (24, true)⟩, ⟨some 29, .bin .eql (.t 26) (.t 28), some (24, true)⟩, ⟨some 30, .pick (.t 24) (.t 29) (.c (.bool false)), none⟩, ⟨some 31, .mv (.t 30), none⟩, ⟨some 32, .fa 3 (.t 2), some (31, true)⟩, ⟨some 33, .lds (.t 32), some (31, true)⟩, ⟨some 34, .fa 3 (.t 3), some (31, true)⟩, ⟨some 35, .lds (.t 34), some (31, true)⟩, ⟨some 36, .call false 63 [(.t 33), (.t 35), (.c (.fn 64 []))], some (31, true)⟩, ⟨some 37, .pick (.t 31) (.t 36) (.c (.bool false)), none⟩, ⟨some 38, .mv (.t 37), none⟩, ⟨some 39, .fa 5 (.t 2), some (38, true)⟩, ⟨some 40, .lds (.t 39), some (38, true)⟩, ⟨some 41, .fa 5 (.t 3), some (38, true)⟩, ⟨some 42, .lds (.t 41), some (38, true)⟩, ⟨some 43, .call false 63 [(.t 40), (.t 42), (.c (.fn 64 []))], some (38, true)⟩, ⟨some 44, .pick (.t 38) (.t 43) (.c (.bool false)), none⟩, ⟨some 4, .mv (.t 44), none⟩]) (.ret))), [.t 4]⟩
def a66 : AFunc := ⟨.seq (.stmt [2, 3, 4, 5] [] (.reg [ ⟨some 3, .box (.t 0), none⟩, ⟨some 4, .box (.t 1), none⟩, ⟨some 5, .alloc [.bool false, .lst [] true], none⟩])) (.seq (.draw 0 [ (⟨some 6, .fa 0 (.t 2), none⟩, 0, []), (⟨some 7, .lda 2 (.t 6), none⟩, 0, [0]), (⟨some 8, .lda 2 (.t 3), none⟩, 0, []), (⟨some 9, .call false 11 [(.t 7), (.t 8)], none⟩, 0, [0, 1, 2]), (⟨some 10, .fa 2 (.t 2), none⟩, 0, []), (⟨some 11, .lda 2 (.t 10), none⟩, 0, [4]), (⟨some 12, .lda 2 (.t 4), none⟩, 0, []), (⟨some 13, .call false 11 [(.t 11), (.t 12)], none⟩, 0, [0, 1, 2, 3, 4, 5, 6]), (⟨some 14, .call false 13 [(.t 9), (.t 13)], none⟩, 0, [0, 1, 2, 3, 4, 5, 6, 7]), (⟨none, .sta 2 (.t 5) (.t 14), none⟩, 0, [0, 1, 2, 3, 4, 5, 6, 7, 8])]) (.ret)), [.ca 5 2]⟩
def a67 : AFunc := ⟨.seq (.stmt [0, 1, 4] [] (.reg [ ⟨some 4, .alloc [.bool false, .lst [] true], none⟩])) (.seq (.stmt [0, 4, 5] [] (.reg [ ⟨some 6, .mv (.t 0), none⟩, ⟨some 7, .mv (.t 1), none⟩, ⟨some 8, .bin .and (.t 7) (.c (.int .i64 255)), none⟩, ⟨some 9, .build [.int .i64 0, .int .i64 0] [(0, 1, (.t 6)), (1, 1, (.t 8))], none⟩, ⟨some 5, .alloc [.int .i64 0, .int .i64 0], none⟩, ⟨none, .sta 2 (.t 5) (.t 9), none⟩])) (.seq (.stmt [4, 5] [] (.seq (.stmt [4, 5, 13] [] (.reg [ ⟨some 10, .lda 2 (.t 5), none⟩, ⟨some 11, .mv (.t 0), none⟩, ⟨some 12, .build [.int .i64 0, .int .i64 0] [(0, 1, (.t 11)), (1, 1, (.c (.int .i64 255)))], none⟩, ⟨some 13, .eqv false (.ints [.i, .i]) (.t 10) (.t 12), none⟩])) (.cond (.t 13) (.seq (.reg [ ⟨some 14, .build [.bool false, .lst [] true] [], none⟩, ⟨none, .sta 2 (.t 4) (.t 14), none⟩]) (.ret)) (.skip)))) (.seq (.reg [ ⟨some 15, .lda 2 (.t 5), none⟩, ⟨some 16, .bsl 2 (.agg [.int .i64 0, .int .i64 0]) 1 [(0, (.t 15))], none⟩, ⟨some 17, .build [.bool false, .lst [] true] [(1, 1, (.t 16))], none⟩, ⟨none, .sta 2 (.t 4) (.t 17), none⟩]) (.ret)))), [.ca 4 2]⟩
def a68 : AFunc := ⟨.seq (.stmt [0, 1] [] (.reg [ ⟨some 4, .mv (.c (.lst [] true)), none⟩])) (.seq (.stmt [0, 1, 5] [] (.reg [ ⟨some 8, .mv (.t 0), none⟩, ⟨some 9, .mv (.t 1), none⟩, ⟨some 10, .call true 42 [(.t 8), (.t 9)], none⟩, ⟨some 5, .mv (.t 10), none⟩])) (.seq (.stmt [0, 1, 5] [] (.seq (.stmt [0, 1, 5, 12] [] (.reg [ ⟨some 11, .mv (.t 5), none⟩, ⟨some 12, .bin .eql (.t 11) (.c (.int .i64 (-1))), none⟩])) (.cond (.t 12) (.seq (.reg [ ⟨some 13, .mv (.t 0), none⟩, ⟨some 4, .mv (.t 13), none⟩]) (.ret)) (.skip)))) (.seq (.stmt [0, 5] [] (.seq (.stmt [0, 1, 5, 6] [] (.reg [ ⟨some 14, .mv (.t 5), none⟩, ⟨some 15, .bin .add (.t 14) (.c (.int .i64 1)), none⟩, ⟨some 6, .mv (.t 15), none⟩])) (.block 0 (.loop [5, 6, 0, 1] (.seq (.stmt [0, 1, 5, 6] [] (.seq (.stmt [0, 1, 5, 6, 19] [] (.reg [ ⟨some 16, .mv (.t 6), none⟩, ⟨some 17, .mv (.t 0), none⟩, ⟨some 18, .len .slice (.t 17), none⟩, ⟨some 19, .bin .lss (.t 16) (.t 18), none⟩])) (.cond (.t 19) (.skip) (.exit 0)))) (.seq (.stmt [0, 1, 5, 6] [] (.block 1 (.seq (.stmt [0, 1, 5, 6, 7] [] (.reg [ ⟨some 22, .mv (.t 0), none⟩, ⟨some 23, .mv (.t 6), none⟩, ⟨some 24, .ia 2 (.t 22) (.t 23), none⟩, ⟨some 25, .lda 2 (.t 24), none⟩, ⟨some 7, .alloc [.int .i64 0, .int .i64 0], none⟩, ⟨none, .sta 2 (.t 7) (.t 25), none⟩])) (.seq (.stmt [0, 1, 5, 6, 7, 29] [] (.reg [ ⟨some 26, .mv (.t 1), none⟩, ⟨some 27, .lda 2 (.t 7), none⟩, ⟨some 28, .callv false (.t 26) [(.t 27)], none⟩, ⟨some 29, .un .not (.t 28), none⟩])) (.cond (.t 29) (.seq (.stmt [0, 1, 5, 6] [] (.reg [ ⟨some 30, .mv (.t 0), none⟩, ⟨some 31, .mv (.t 5), none⟩, ⟨some 32, .lda 2 (.t 7), none⟩, ⟨some 33, .ia 2 (.t 30) (.t 31), none⟩, ⟨none, .stk 2 (.t 33) (.t 32), none⟩])) (.reg [ ⟨some 34, .mv (.t 5), none⟩, ⟨some 35, .bin .add (.t 34) (.c (.int .i64 1)), none⟩, ⟨some 5, .mv (.t 35), none⟩])) (.skip)))))) (.reg [ ⟨some 20, .mv (.t 6), none⟩, ⟨some 21, .bin .add (.t 20) (.c (.int .i64 1)), none⟩, ⟨some 6, .mv (.t 21), none⟩]))))))) (.seq (.stmt [0, 5] [] (.reg [ ⟨some 36, .mv (.t 0), none⟩, ⟨some 37, .mv (.t 5), none⟩, ⟨some 38, .slc 2 (.t 36) (some (.t 37)) none none, none⟩, ⟨none, .clear 2 [.int .i64 0, .int .i64 0] (.t 38), none⟩])) (.seq (.reg [ ⟨some 39, .mv (.t 0), none⟩, ⟨some 40, .mv (.t 5), none⟩, ⟨some 41, .slc 2 (.t 39) none (some (.t 40)) none, none⟩, ⟨some 4, .mv (.t 41), none⟩]) (.ret)))))), [.t 4]⟩
def a69 : AFunc := ⟨.seq (.stmt [1] [] (.reg [ ⟨some 1, .box (.t 0), none⟩, ⟨some 2, .mv (.c (.bool false)), none⟩])) (.seq (.reg [ ⟨some 3, .fa 1 (.t 1), none⟩, ⟨some 4, .lds (.t 3), none⟩, ⟨some 5, .bin .eql (.t 4) (.c (.int .i64 255)), none⟩, ⟨some 2, .mv (.t 5), none⟩]) (.ret)), [.t 2]⟩
def a70 : AFunc := ⟨.fork 0 [2] (.seq (.stmt [0] [] (.reg [ ⟨some 2, .mv (.c (.lst [] true)), none⟩])) (.seq (.stmt [0] [] (.seq (.stmt [0, 4] [] (.reg [ ⟨some 3, .mv (.t 0), none⟩, ⟨some 4, .isnil .slice false (.t 3), none⟩])) (.cond (.t 4) (.seq (.reg [ ⟨some 2, .mv (.c (.lst [] true)), none⟩]) (.ret)) (.skip)))) (.seq (.reg [ ⟨some 5, .bsl 2 (.agg [.int .i64 0, .int .i64 0]) 0 [], none⟩, ⟨some 6, .mv (.t 0), none⟩, ⟨some 7, .app 2 16 true (.t 5) (.t 6), none⟩, ⟨some 2, .mv (.t 7), none⟩]) (.ret)))), [.t 2]⟩
def a71 : AFunc := ⟨.reg [ ⟨some 4, .mv (.t 0), none⟩, ⟨some 5, .mv (.t 0), none⟩, ⟨some 6, .len .slice (.t 5), none⟩, ⟨some 7, .mv (.t 1), none⟩, ⟨some 8, .call true 80 [(.t 4), (.t 6), (.t 7)], none⟩], []⟩
def a72 : AFunc := ⟨.seq (.stmt [2, 3] [] (.reg [ ⟨some 2, .box (.t 0), none⟩, ⟨some 3, .box (.t 1), none⟩, ⟨some 4, .mv (.c (.int .i64 0)), none⟩])) (.seq (.reg [ ⟨some 5, .fa 0 (.t 2), none⟩, ⟨some 6, .lds (.t 5), none⟩, ⟨some 7, .fa 0 (.t 3), none⟩, ⟨some 8, .lds (.t 7), none⟩, ⟨some 9, .call false 73 [(.t 6), (.t 8)], none⟩, ⟨some 4, .mv (.t 9), none⟩]) (.ret)), [.t 4]⟩
def a73 : AFunc := ⟨.seq (.stmt [0, 1] [] (.reg [ ⟨some 4, .mv (.c (.int .i64 0)), none⟩])) (.seq (.stmt [0, 1, 5] [] (.reg [ ⟨some 7, .mv (.t 0), none⟩, ⟨some 8, .call false 81 [(.t 7)], none⟩, ⟨some 5, .mv (.t 8), none⟩])) (.seq (.stmt [0, 1, 5, 6] [] (.reg [ ⟨some 9, .mv (.t 1), none⟩, ⟨some 10, .call false 81 [(.t 9)], none⟩, ⟨some 6, .mv (.t 10), none⟩])) (.seq (.stmt [0, 1, 6] [] (.seq (.stmt [0, 1, 6, 11] [] (.reg [ ⟨some 11, .mv (.t 5), none⟩])) (.cond (.t 11) (.seq (.stmt [] [] (.seq (.stmt [12] [] (.reg [ ⟨some 12, .mv (.t 6), none⟩])) (.cond (.t 12) (.seq (.reg [ ⟨some 4, .mv (.c (.int .i64 0)), none⟩]) (.ret)) (.skip)))) (.seq (.reg [ ⟨some 4, .mv (.c (.int .i64 (-1))), none⟩]) (.ret))) (.skip)))) (.seq (.stmt [0, 1] [] (.seq (.stmt [0, 1, 13] [] (.reg [ ⟨some 13, .mv (.t 6), none⟩])) (.cond (.t 13) (.seq (.reg [ ⟨some 4, .mv (.c (.int .i64 1)), none⟩]) (.ret)) (.skip)))) (.seq (.stmt [0, 1] [] (.seq (.stmt [0, 1, 16] [] (.reg [ ⟨some 14, .mv (.t 0), none⟩, ⟨some 15, .mv (.t 1), none⟩, ⟨some 16, .bin .lss (.t 14) (.t 15), none⟩])) (.cond (.t 16) (.seq (.reg [ ⟨some 4, .mv (.c (.int .i64 (-1))), none⟩]) (.ret)) (.skip)))) (.seq (.stmt [] [] (.seq (.stmt [19] [] (.reg [ ⟨some 17, .mv (.t 0), none⟩, ⟨some 18, .mv (.t 1), none⟩, ⟨some 19, .bin .gtr (.t 17) (.t 18), none⟩])) (.cond (.t 19) (.seq (.reg [ ⟨some 4, .mv (.c (.int .i64 1)), none⟩]) (.ret)) (.skip)))) (.seq (.reg [ ⟨some 4, .mv (.c (.int .i64 0)), none⟩]) (.ret)))))))), [.t 4]⟩
def a74 : AFunc := ⟨.seq (.reg [ ⟨some 4, .mv (.c (.lst [] true)), none⟩]) (.seq (.prune [0, 1]) (.seq (.seq (.reg [ ⟨some 5, .mv (.t 1), none⟩, ⟨some 6, .bin .lss (.t 5) (.c (.int .i64 0)), none⟩]) (.seq (.prune [0, 1, 6]) (.cond (.t 6) (.reg [ ⟨some 7, .mki 9 (.c (.str [99, 97, 110, 110, 111, 116, 32, 98, 101, 32, 110, 101, 103, 97, 116, 105, 118, 101])), none⟩, ⟨none, .panic (.t 7), none⟩]) (.skip)))) (.seq (.prune [0, 1]) (.seq (.seq (.reg [ ⟨some 8, .mv (.t 1), none⟩, ⟨some 9, .mv (.t 0), none⟩, ⟨some 10, .cap (.t 9), none⟩, ⟨some 11, .mv (.t 0), none⟩, ⟨some 12, .len .slice (.t 11), none⟩, ⟨some 13, .bin .sub (.t 10) (.t 12), none⟩, ⟨some 14, .bin .sub (.t 8) (.t 13), none⟩, ⟨some 1, .mv (.t 14), none⟩]) (.seq (.prune [0, 1]) (.seq (.reg [ ⟨some 15, .mv (.t 1), none⟩, ⟨some 16, .bin .gtr (.t 15) (.c (.int .i64 0)), none⟩]) (.seq (.prune [0, 1, 16]) (.cond (.t 16) (.reg [ ⟨some 17, .mv (.t 0), none⟩, ⟨some 18, .mv (.t 0), none⟩, ⟨some 19, .cap (.t 18), none⟩, ⟨some 20, .slc 2 (.t 17) none (some (.t 19)) none, none⟩, ⟨some 21, .mv (.t 1), none⟩, ⟨some 22, .appz 2 16 (.agg [.int .i64 0, .int .i64 0]) (.t 20) (.t 21), none⟩, ⟨some 23, .mv (.t 0), none⟩, ⟨some 24, .len .slice (.t 23), none⟩, ⟨some 25, .slc 2 (.t 22) none (some (.t 24)) none, none⟩, ⟨some 0, .mv (.t 25), none⟩]) (.skip)))))) (.seq (.prune [0]) (.seq (.reg [ ⟨some 26, .mv (.t 0), none⟩, ⟨some 4, .mv (.t 26), none⟩]) (.ret))))))), [.t 4]⟩
def a78 : AFunc := ⟨.seq (.reg [ ⟨some 1, .box (.t 0), none⟩, ⟨some 2, .alloc [.bool false, .int .i64 0, .int .i64 0, .lst [] true, .int .i64 0, .lst [] true], none⟩, ⟨some 3, .mv (.c (.bool false)), none⟩]) (.seq (.prune [1, 2]) (.seq (.block 0 (.seq (.reg [ ⟨some 5, .fa 0 (.t 1), none⟩, ⟨some 6, .lds (.t 5), none⟩, ⟨some 4, .mv (.t 6), none⟩]) (.seq (.prune [1, 2, 4]) (.cond (.t 4) (.seq (.reg [ ⟨some 7, .lda 6 (.t 1), none⟩, ⟨none, .sta 6 (.t 2) (.t 7), none⟩, ⟨some 3, .mv (.c (.bool true)), none⟩]) (.ret)) (.seq (.reg [ ⟨some 9, .fa 2 (.t 1), none⟩, ⟨some 10, .lds (.t 9), none⟩, ⟨some 11, .bin .eql (.t 10) (.c (.int .i64 0)), none⟩, ⟨some 8, .mv (.t 11), none⟩]) (.seq (.prune [1, 2, 8]) (.cond (.t 8) (.seq (.reg [ ⟨some 12, .build [.bool false, .int .i64 0, .int .i64 0, .lst [] true, .int .i64 0, .lst [] true] [], none⟩, ⟨none, .sta 6 (.t 2) (.t 12), none⟩, ⟨some 3, .mv (.c (.bool false)), none⟩]) (.ret)) (.skip)))))))) (.seq (.prune [1, 2]) (.seq (.reg [ ⟨some 13, .fa 3 (.t 1), none⟩, ⟨some 14, .lds (.t 13), none⟩, ⟨some 15, .ia 6 (.t 14) (.c (.int .i64 0)), none⟩, ⟨some 16, .lda 6 (.t 15), none⟩, ⟨none, .sta 6 (.t 2) (.t 16), none⟩, ⟨some 3, .mv (.c (.bool true)), none⟩]) (.ret))))), [.ca 2 6, .t 3]⟩
def a79 : AFunc := ⟨.seq (.reg [ ⟨some 1, .box (.t 0), none⟩, ⟨some 2, .alloc [.bool false, .int .i64 0, .int .i64 0, .lst [] true, .int .i64 0, .lst [] true], none⟩, ⟨some 3, .mv (.c (.bool false)), none⟩]) (.seq (.prune [1, 2]) (.seq (.block 0 (.seq (.reg [ ⟨some 5, .fa 0 (.t 1), none⟩, ⟨some 6, .lds (.t 5), none⟩, ⟨some 4, .mv (.t 6), none⟩]) (.seq (.prune [1, 2, 4]) (.cond (.t 4) (.seq (.reg [ ⟨some 7, .lda 6 (.t 1), none⟩, ⟨none, .sta 6 (.t 2) (.t 7), none⟩, ⟨some 3, .mv (.c (.bool true)), none⟩]) (.ret)) (.seq (.reg [ ⟨some 9, .fa 2 (.t 1), none⟩, ⟨some 10, .lds (.t 9), none⟩, ⟨some 11, .bin .eql (.t 10) (.c (.int .i64 0)), none⟩, ⟨some 8, .mv (.t 11), none⟩]) (.seq (.prune [1, 2, 8]) (.cond (.t 8) (.seq (.reg [ ⟨some 12, .build [.bool false, .int .i64 0, .int .i64 0, .lst [] true, .int .i64 0, .lst [] true] [], none⟩, ⟨none, .sta 6 (.t 2) (.t 12), none⟩, ⟨some 3, .mv (.c (.bool false)), none⟩]) (.ret)) (.seq (.reg [ ⟨some 14, .fa 2 (.t 1), none⟩, ⟨some 15, .lds (.t 14), none⟩, ⟨some 16, .bin .eql (.t 15) (.c (.int .i64 2)), none⟩, ⟨some 13, .mv (.t 16), none⟩]) (.seq (.prune [1, 2, 13]) (.cond (.t 13) (.seq (.reg [ ⟨some 17, .fa 3 (.t 1), none⟩, ⟨some 18, .lds (.t 17), none⟩, ⟨some 19, .ia 6 (.t 18) (.c (.int .i64 0)), none⟩, ⟨some 20, .lda 6 (.t 19), none⟩, ⟨some 21, .call false 84 [(.t 20)], none⟩, ⟨none, .sta 6 (.t 2) (.t 21), none⟩, ⟨some 3, .mv (.c (.bool true)), none⟩]) (.ret)) (.skip))))))))))) (.seq (.prune [1, 2]) (.seq (.reg [ ⟨some 22, .fa 3 (.t 1), none⟩, ⟨some 23, .lds (.t 22), none⟩, ⟨some 24, .ia 6 (.t 23) (.c (.int .i64 1)), none⟩, ⟨some 25, .lda 6 (.t 24), none⟩, ⟨none, .sta 6 (.t 2) (.t 25), none⟩, ⟨some 3, .mv (.c (.bool true)), none⟩]) (.ret))))), [.ca 2 6, .t 3]⟩
def a80 : AFunc := ⟨.seq (.stmt [0, 1, 2, 6] [] (.reg [ ⟨some 6, .mv (.c (.int .i64 20)), none⟩])) (.seq (.stmt [0, 1, 2, 6, 7, 8] [] (.reg [ ⟨some 10, .mv (.t 6), none⟩, ⟨some 7, .mv (.c (.int .i64 0)), none⟩, ⟨some 8, .mv (.t 10), none⟩])) (.seq (.stmt [0, 1, 2, 6, 7] [] (.block 0 (.loop [7, 8, 0, 1, 2, 6] (.seq (.stmt [0, 1, 2, 6, 7, 8] [] (.seq (.stmt [0, 1, 2, 6, 7, 8, 13] [] (.reg [ ⟨some 11, .mv (.t 8), none⟩, ⟨some 12, .mv (.t 1), none⟩, ⟨some 13, .bin .leq (.t 11) (.t 12), none⟩])) (.cond (.t 13) (.skip) (.exit 0)))) (.block 1 (.seq (.stmt [0, 1, 2, 6, 8] [] (.reg [ ⟨some 14, .mv (.t 0), none⟩, ⟨some 15, .mv (.t 7), none⟩, ⟨some 16, .mv (.t 8), none⟩, ⟨some 17, .mv (.t 2), none⟩, ⟨some 18, .call true 85 [(.t 14), (.t 15), (.t 16), (.t 17)], none⟩])) (.seq (.stmt [0, 1, 2, 6, 7, 8] [] (.reg [ ⟨some 19, .mv (.t 8), none⟩, ⟨some 7, .mv (.t 19), none⟩])) (.reg [ ⟨some 20, .mv (.t 8), none⟩, ⟨some 21, .mv (.t 6), none⟩, ⟨some 22, .bin .add (.t 20) (.t 21), none⟩, ⟨some 8, .mv (.t 22), none⟩])))))))) (.seq (.stmt [0, 1, 2, 6] [] (.reg [ ⟨some 23, .mv (.t 0), none⟩, ⟨some 24, .mv (.t 7), none⟩, ⟨some 25, .mv (.t 1), none⟩, ⟨some 26, .mv (.t 2), none⟩, ⟨some 27, .call true 85 [(.t 23), (.t 24), (.t 25), (.t 26)], none⟩])) (.block 2 (.loop [6, 0, 1, 2] (.seq (.stmt [0, 1, 2, 6] [] (.seq (.stmt [0, 1, 2, 6, 30] [] (.reg [ ⟨some 28, .mv (.t 6), none⟩, ⟨some 29, .mv (.t 1), none⟩, ⟨some 30, .bin .lss (.t 28) (.t 29), none⟩])) (.cond (.t 30) (.skip) (.exit 2)))) (.block 3 (.seq (.stmt [0, 1, 2, 6, 7, 8] [] (.reg [ ⟨some 31, .mv (.t 6), none⟩, ⟨some 32, .bin .mul (.c (.int .i64 2)) (.t 31), none⟩, ⟨some 7, .mv (.c (.int .i64 0)), none⟩, ⟨some 8, .mv (.t 32), none⟩])) (.seq (.stmt [0, 1, 2, 6, 7] [] (.block 4 (.loop [7, 8, 0, 1, 2, 6] (.seq (.stmt [0, 1, 2, 6, 7, 8] [] (.seq (.stmt [0, 1, 2, 6, 7, 8, 35] [] (.reg [ ⟨some 33, .mv (.t 8), none⟩, ⟨some 34, .mv (.t 1), none⟩, ⟨some 35, .bin .leq (.t 33) (.t 34), none⟩])) (.cond (.t 35) (.skip) (.exit 4)))) (.block 5 (.seq (.stmt [0, 1, 2, 6, 8] [] (.reg [ ⟨some 36, .mv (.t 0), none⟩, ⟨some 37, .mv (.t 7), none⟩, ⟨some 38, .mv (.t 7), none⟩, ⟨some 39, .mv (.t 6), none⟩, ⟨some 40, .bin .add (.t 38) (.t 39), none⟩, ⟨some 41, .mv (.t 8), none⟩, ⟨some 42, .mv (.t 2), none⟩, ⟨some 43, .call true 86 [(.t 36), (.t 37), (.t 40), (.t 41), (.t 42)], none⟩])) (.seq (.stmt [0, 1, 2, 6, 7, 8] [] (.reg [ ⟨some 44, .mv (.t 8), none⟩, ⟨some 7, .mv (.t 44), none⟩])) (.reg [ ⟨some 45, .mv (.t 8), none⟩, ⟨some 46, .mv (.t 6), none⟩, ⟨some 47, .bin .mul (.c (.int .i64 2)) (.t 46), none⟩, ⟨some 48, .bin .add (.t 45) (.t 47), none⟩, ⟨some 8, .mv (.t 48), none⟩])))))))) (.seq (.stmt [0, 1, 2, 6] [] (.seq (.stmt [0, 1, 2, 6, 7, 9] [] (.reg [ ⟨some 49, .mv (.t 7), none⟩, ⟨some 50, .mv (.t 6), none⟩, ⟨some 51, .bin .add (.t 49) (.t 50), none⟩, ⟨some 9, .mv (.t 51), none⟩])) (.seq (.stmt [0, 1, 2, 6, 7, 9, 54] [] (.reg [ ⟨some 52, .mv (.t 9), none⟩, ⟨some 53, .mv (.t 1), none⟩, ⟨some 54, .bin .lss (.t 52) (.t 53), none⟩])) (.cond (.t 54) (.reg [ ⟨some 55, .mv (.t 0), none⟩, ⟨some 56, .mv (.t 7), none⟩, ⟨some 57, .mv (.t 9), none⟩, ⟨some 58, .mv (.t 1), none⟩, ⟨some 59, .mv (.t 2), none⟩, ⟨some 60, .call true 86 [(.t 55), (.t 56), (.t 57), (.t 58), (.t 59)], none⟩]) (.skip))))) (.reg [ ⟨some 61, .mv (.t 6), none⟩, ⟨some 62, .bin .mul (.t 61) (.c (.int .i64 2)), none⟩, ⟨some 6, .mv (.t 62), none⟩]))))))))))), []⟩
def a81 : AFunc := ⟨.seq (.stmt [0] [] (.reg [ ⟨some 2, .mv (.c (.bool false)), none⟩])) (.seq (.reg [ ⟨some 3, .mv (.t 0), none⟩, ⟨some 4, .mv (.t 0), none⟩, ⟨some 5, .bin .neq (.t 3) (.t 4), none⟩, ⟨some 2, .mv (.t 5), none⟩]) (.ret)), [.t 2]⟩
def a84 : AFunc := ⟨.seq (.reg [ ⟨some 1, .box (.t 0), none⟩, ⟨some 2, .alloc [.bool false, .int .i64 0, .int .i64 0, .lst [] true, .int .i64 0, .lst [] true], none⟩]) (.seq (.prune [1, 2]) (.seq (.reg [ ⟨some 3, .lda 6 (.t 1), none⟩, ⟨some 4, .bsl 6 (.agg [.bool false, .int .i64 0, .int .i64 0, .lst [] true, .int .i64 0, .lst [] true]) 1 [(0, (.t 3))], none⟩, ⟨some 5, .build [.bool false, .int .i64 0, .int .i64 0, .lst [] true, .int .i64 0, .lst [] true] [(1, 1, (.c (.int .i64 16))), (2, 1, (.c (.int .i64 2))), (3, 1, (.t 4))], none⟩, ⟨none, .sta 6 (.t 2) (.t 5), none⟩]) (.ret))), [.ca 2 6]⟩
def a85 : AFunc := ⟨.seq (.stmt [0, 1, 2, 3, 8] [] (.reg [ ⟨some 10, .mv (.t 1), none⟩, ⟨some 11, .bin .add (.t 10) (.c (.int .i64 1)), none⟩, ⟨some 8, .mv (.t 11), none⟩])) (.block 0 (.loop [8, 0, 1, 2, 3] (.seq (.stmt [0, 1, 2, 3, 8] [] (.seq (.stmt [0, 1, 2, 3, 8, 14] [] (.reg [ ⟨some 12, .mv (.t 8), none⟩, ⟨some 13, .mv (.t 2), none⟩, ⟨some 14, .bin .lss (.t 12) (.t 13), none⟩])) (.cond (.t 14) (.skip) (.exit 0)))) (.seq (.stmt [0, 1, 2, 3, 8] [] (.block 1 (.seq (.stmt [0, 1, 2, 3, 8, 9] [] (.reg [ ⟨some 17, .mv (.t 8), none⟩, ⟨some 9, .mv (.t 17), none⟩])) (.block 2 (.loop [9, 0, 1, 2, 3, 8] (.seq (.stmt [0, 1, 2, 3, 8, 9] [] (.seq (.stmt [0, 1, 2, 3, 8, 9, 34] [] (.draw 0 [ (⟨some 18, .mv (.t 9), none⟩, 0, []), (⟨some 19, .mv (.t 1), none⟩, 0, []), (⟨some 20, .bin .gtr (.t 18) (.t 19), none⟩, 0, [0, 1]), (⟨some 21, .mv (.t 20), none⟩, 0, [0, 1, 2]), (⟨some 22, .mv (.t 3), some (21, true)⟩, 0, [0, 1, 2, 3]), (⟨some 23, .mv (.t 0), some (21, true)⟩, 0, [0, 1, 2, 3]), (⟨some 24, .mv (.t 9), some (21, true)⟩, 0, [0, 1, 2, 3]), (⟨some 25, .ia 2 (.t 23) (.t 24), some (21, true)⟩, 0, [0, 1, 2, 3, 5, 6]), (⟨some 26, .lda 2 (.t 25), some (21, true)⟩, 0, [0, 1, 2, 3, 5, 6, 7]), (⟨some 27, .mv (.t 0), some (21, true)⟩, 0, [0, 1, 2, 3]), (⟨some 28, .mv (.t 9), some (21, true)⟩, 0, [0, 1, 2, 3]), (⟨some 29, .bin .sub (.t 28) (.c (.int .i64 1)), some (21, true)⟩, 0, [0, 1, 2, 3, 10]), (⟨some 30, .ia 2 (.t 27) (.t 29), some (21, true)⟩, 0, [0, 1, 2, 3, 9, 10, 11]), (⟨some 31, .lda 2 (.t 30), some (21, true)⟩, 0, [0, 1, 2, 3, 9, 10, 11, 12]), (⟨some 32, .callv false (.t 22) [(.t 26), (.t 31)], some (21, true)⟩, 0, [0, 1, 2, 3, 4, 5, 6, 7, 8, 9, 10, 11, 12, 13]), (⟨some 33, .bin .lss (.t 32) (.c (.int .i64 0)), some (21, true)⟩, 0, [0, 1, 2, 3, 4, 5, 6, 7, 8, 9, 10, 11, 12, 13, 14]), (⟨some 34, .pick (.t 21) (.t 33) (.c (.bool false)), none⟩, 0, [0, 1, 2, 3, 4, 5, 6, 7, 8, 9, 10, 11, 12, 13, 14, 15])])) (.cond (.t 34) (.skip) (.exit 2)))) (.seq (.stmt [0, 1, 2, 3, 8, 9] [] (.block 3 (.draw 0 [ (⟨some 37, .mv (.t 0), none⟩, 0, []), (⟨some 38, .mv (.t 9), none⟩, 0, []), (⟨some 39, .mv (.t 0), none⟩, 0, []), (⟨some 40, .mv (.t 9), none⟩, 0, []), (⟨some 41, .bin .sub (.t 40) (.c (.int .i64 1)), none⟩, 0, [3]), (⟨some 42, .mv (.t 0), none⟩, 0, []), (⟨some 43, .mv (.t 9), none⟩, 0, []), (⟨some 44, .bin .sub (.t 43) (.c (.int .i64 1)), none⟩, 0, [6]), (⟨some 45, .ia 2 (.t 42) (.t 44), none⟩, 0, [5, 6, 7]), (⟨some 46, .lda 2 (.t 45), none⟩, 0, [5, 6, 7, 8]), (⟨some 47, .mv (.t 0), none⟩, 0, []), (⟨some 48, .mv (.t 9), none⟩, 0, []), (⟨some 49, .ia 2 (.t 47) (.t 48), none⟩, 0, [10, 11]), (⟨some 50, .lda 2 (.t 49), none⟩, 0, [10, 11, 12]), (⟨some 51, .ia 2 (.t 37) (.t 38), none⟩, 0, [0, 1, 5, 6, 7, 8, 9, 10, 11, 12, 13]), (⟨none, .stk 2 (.t 51) (.t 46), none⟩, 0, [0, 1, 5, 6, 7, 8, 9, 10, 11, 12, 13, 14]), (⟨some 52, .ia 2 (.t 39) (.t 41), none⟩, 0, [0, 1, 2, 3, 4, 5, 6, 7, 8, 9, 10, 11, 12, 13, 14, 15]), (⟨none, .stk 2 (.t 52) (.t 50), none⟩, 0, [0, 1, 2, 3, 4, 5, 6, 7, 8, 9, 10, 11, 12, 13, 14, 15, 16])]))) (.reg [ ⟨some 35, .mv (.t 9), none⟩, ⟨some 36, .bin .sub (.t 35) (.c (.int .i64 1)), none⟩, ⟨some 9, .mv (.t 36), none⟩])))))))) (.reg [ ⟨some 15, .mv (.t 8), none⟩, ⟨some 16, .bin .add (.t 15) (.c (.int .i64 1)), none⟩, ⟨some 8, .mv (.t 16), none⟩]))))), []⟩
def a86 : AFunc := ⟨.seq (.stmt [0, 1, 2, 3, 4] [] (.seq (.stmt [0, 1, 2, 3, 4, 28] [] (.reg [ ⟨some 25, .mv (.t 2), none⟩, ⟨some 26, .mv (.t 1), none⟩, ⟨some 27, .bin .sub (.t 25) (.t 26), none⟩, ⟨some 28, .bin .eql (.t 27) (.c (.int .i64 1)), none⟩])) (.cond (.t 28) (.seq (.stmt [0, 1, 3, 4, 10] [] (.reg [ ⟨some 29, .mv (.t 2), none⟩, ⟨some 10, .mv (.t 29), none⟩])) (.seq (.stmt [0, 1, 4, 10, 11] [] (.reg [ ⟨some 30, .mv (.t 3), none⟩, ⟨some 11, .mv (.t 30), none⟩])) (.seq (.stmt [0, 1, 10] [] (.block 0 (.loop [10, 11, 0, 1, 4] (.seq (.stmt [0, 1, 4, 10, 11] [] (.seq (.stmt [0, 1, 4, 10, 11, 33] [] (.reg [ ⟨some 31, .mv (.t 10), none⟩, ⟨some 32, .mv (.t 11), none⟩, ⟨some 33, .bin .lss (.t 31) (.t 32), none⟩])) (.cond (.t 33) (.skip) (.exit 0)))) (.block 1 (.seq (.stmt [0, 1, 4, 10, 11, 12] [] (.reg [ ⟨some 34, .mv (.t 10), none⟩, ⟨some 35, .mv (.t 11), none⟩, ⟨some 36, .bin .add (.t 34) (.t 35), none⟩, ⟨some 37, .cvi .u64 (.t 36), none⟩, ⟨some 38, .bin .shr (.t 37) (.c (.int .u64 1)), none⟩, ⟨some 39, .cvi .i64 (.t 38), none⟩, ⟨some 12, .mv (.t 39), none⟩])) (.seq (.stmt [0, 1, 4, 10, 11, 12, 50] [] (.draw 0 [ (⟨some 40, .mv (.t 4), none⟩, 0, []), (⟨some 41, .mv (.t 0), none⟩, 0, []), (⟨some 42, .mv (.t 12), none⟩, 0, []), (⟨some 43, .ia 2 (.t 41) (.t 42), none⟩, 0, [1, 2]), (⟨some 44, .lda 2 (.t 43), none⟩, 0, [1, 2, 3]), (⟨some 45, .mv (.t 0), none⟩, 0, []), (⟨some 46, .mv (.t 1), none⟩, 0, []), (⟨some 47, .ia 2 (.t 45) (.t 46), none⟩, 0, [5, 6]), (⟨some 48, .lda 2 (.t 47), none⟩, 0, [5, 6, 7]), (⟨some 49, .callv false (.t 40) [(.t 44), (.t 48)], none⟩, 0, [0, 1, 2, 3, 4, 5, 6, 7, 8]), (⟨some 50, .bin .lss (.t 49) (.c (.int .i64 0)), none⟩, 0, [0, 1, 2, 3, 4, 5, 6, 7, 8, 9])])) (.cond (.t 50) (.reg [ ⟨some 51, .mv (.t 12), none⟩, ⟨some 52, .bin .add (.t 51) (.c (.int .i64 1)), none⟩, ⟨some 10, .mv (.t 52), none⟩]) (.reg [ ⟨some 53, .mv (.t 12), none⟩, ⟨some 11, .mv (.t 53), none⟩]))))))))) (.seq (.seq (.stmt [0, 10, 13] [] (.reg [ ⟨some 54, .mv (.t 1), none⟩, ⟨some 13, .mv (.t 54), none⟩])) (.block 2 (.loop [13, 0, 10] (.seq (.stmt [0, 10, 13] [] (.seq (.stmt [0, 10, 13, 58] [] (.reg [ ⟨some 55, .mv (.t 13), none⟩, ⟨some 56, .mv (.t 10), none⟩, ⟨some 57, .bin .sub (.t 56) (.c (.int .i64 1)), none⟩, ⟨some 58, .bin .lss (.t 55) (.t 57), none⟩])) (.cond (.t 58) (.skip) (.exit 2)))) (.seq (.stmt [0, 10, 13] [] (.block 3 (.draw 0 [ (⟨some 61, .mv (.t 0), none⟩, 0, []), (⟨some 62, .mv (.t 13), none⟩, 0, []), (⟨some 63, .mv (.t 0), none⟩, 0, []), (⟨some 64, .mv (.t 13), none⟩, 0, []), (⟨some 65, .bin .add (.t 64) (.c (.int .i64 1)), none⟩, 0, [3]), (⟨some 66, .mv (.t 0), none⟩, 0, []), (⟨some 67, .mv (.t 13), none⟩, 0, []), (⟨some 68, .bin .add (.t 67) (.c (.int .i64 1)), none⟩, 0, [6]), (⟨some 69, .ia 2 (.t 66) (.t 68), none⟩, 0, [5, 6, 7]), (⟨some 70, .lda 2 (.t 69), none⟩, 0, [5, 6, 7, 8]), (⟨some 71, .mv (.t 0), none⟩, 0, []), (⟨some 72, .mv (.t 13), none⟩, 0, []), (⟨some 73, .ia 2 (.t 71) (.t 72), none⟩, 0, [10, 11]), (⟨some 74, .lda 2 (.t 73), none⟩, 0, [10, 11, 12]), (⟨some 75, .ia 2 (.t 61) (.t 62), none⟩, 0, [0, 1, 5, 6, 7, 8, 9, 10, 11, 12, 13]), (⟨none, .stk 2 (.t 75) (.t 70), none⟩, 0, [0, 1, 5, 6, 7, 8, 9, 10, 11, 12, 13, 14]), (⟨some 76, .ia 2 (.t 63) (.t 65), none⟩, 0, [0, 1, 2, 3, 4, 5, 6, 7, 8, 9, 10, 11, 12, 13, 14, 15]), (⟨none, .stk 2 (.t 76) (.t 74), none⟩, 0, [0, 1, 2, 3, 4, 5, 6, 7, 8, 9, 10, 11, 12, 13, 14, 15, 16])]))) (.reg [ ⟨some 59, .mv (.t 13), none⟩, ⟨some 60, .bin .add (.t 59) (.c (.int .i64 1)), none⟩, ⟨some 13, .mv (.t 60), none⟩])))))) (.ret))))) (.skip)))) (.seq (.stmt [0, 1, 2, 3, 4] [] (.seq (.stmt [0, 1, 2, 3, 4, 80] [] (.reg [ ⟨some 77, .mv (.t 3), none⟩, ⟨some 78, .mv (.t 2), none⟩, ⟨some 79, .bin .sub (.t 77) (.t 78), none⟩, ⟨some 80, .bin .eql (.t 79) (.c (.int .i64 1)), none⟩])) (.cond (.t 80) (.seq (.stmt [0, 2, 4, 14] [] (.reg [ ⟨some 81, .mv (.t 1), none⟩, ⟨some 14, .mv (.t 81), none⟩])) (.seq (.stmt [0, 2, 4, 14, 15] [] (.reg [ ⟨some 82, .mv (.t 2), none⟩, ⟨some 15, .mv (.t 82), none⟩])) (.seq (.stmt [0, 2, 14] [] (.block 4 (.loop [14, 15, 0, 2, 4] (.seq (.stmt [0, 2, 4, 14, 15] [] (.seq (.stmt [0, 2, 4, 14, 15, 85] [] (.reg [ ⟨some 83, .mv (.t 14), none⟩, ⟨some 84, .mv (.t 15), none⟩, ⟨some 85, .bin .lss (.t 83) (.t 84), none⟩])) (.cond (.t 85) (.skip) (.exit 4)))) (.block 5 (.seq (.stmt [0, 2, 4, 14, 15, 16] [] (.reg [ ⟨some 86, .mv (.t 14), none⟩, ⟨some 87, .mv (.t 15), none⟩, ⟨some 88, .bin .add (.t 86) (.t 87), none⟩, ⟨some 89, .cvi .u64 (.t 88), none⟩, ⟨some 90, .bin .shr (.t 89) (.c (.int .u64 1)), none⟩, ⟨some 91, .cvi .i64 (.t 90), none⟩, ⟨some 16, .mv (.t 91), none⟩])) (.seq (.stmt [0, 2, 4, 14, 15, 16, 103] [] (.draw 0 [ (⟨some 92, .mv (.t 4), none⟩, 0, []), (⟨some 93, .mv (.t 0), none⟩, 0, []), (⟨some 94, .mv (.t 2), none⟩, 0, []), (⟨some 95, .ia 2 (.t 93) (.t 94), none⟩, 0, [1, 2]), (⟨some 96, .lda 2 (.t 95), none⟩, 0, [1, 2, 3]), (⟨some 97, .mv (.t 0), none⟩, 0, []), (⟨some 98, .mv (.t 16), none⟩, 0, []), (⟨some 99, .ia 2 (.t 97) (.t 98), none⟩, 0, [5, 6]), (⟨some 100, .lda 2 (.t 99), none⟩, 0, [5, 6, 7]), (⟨some 101, .callv false (.t 92) [(.t 96), (.t 100)], none⟩, 0, [0, 1, 2, 3, 4, 5, 6, 7, 8]), (⟨some 102, .bin .lss (.t 101) (.c (.int .i64 0)), none⟩, 0, [0, 1, 2, 3, 4, 5, 6, 7, 8, 9]), (⟨some 103, .un .not (.t 102), none⟩, 0, [0, 1, 2, 3, 4, 5, 6, 7, 8, 9, 10])])) (.cond (.t 103) (.reg [ ⟨some 104, .mv (.t 16), none⟩, ⟨some 105, .bin .add (.t 104) (.c (.int .i64 1)), none⟩, ⟨some 14, .mv (.t 105), none⟩]) (.reg [ ⟨some 106, .mv (.t 16), none⟩, ⟨some 15, .mv (.t 106), none⟩]))))))))) (.seq (.seq (.stmt [0, 14, 17] [] (.reg [ ⟨some 107, .mv (.t 2), none⟩, ⟨some 17, .mv (.t 107), none⟩])) (.block 6 (.loop [17, 0, 14] (.seq (.stmt [0, 14, 17] [] (.seq (.stmt [0, 14, 17, 110] [] (.reg [ ⟨some 108, .mv (.t 17), none⟩, ⟨some 109, .mv (.t 14), none⟩, ⟨some 110, .bin .gtr (.t 108) (.t 109), none⟩])) (.cond (.t 110) (.skip) (.exit 6)))) (.seq (.stmt [0, 14, 17] [] (.block 7 (.draw 0 [ (⟨some 113, .mv (.t 0), none⟩, 0, []), (⟨some 114, .mv (.t 17), none⟩, 0, []), (⟨some 115, .mv (.t 0), none⟩, 0, []), (⟨some 116, .mv (.t 17), none⟩, 0, []), (⟨some 117, .bin .sub (.t 116) (.c (.int .i64 1)), none⟩, 0, [3]), (⟨some 118, .mv (.t 0), none⟩, 0, []), (⟨some 119, .mv (.t 17), none⟩, 0, []), (⟨some 120, .bin .sub (.t 119) (.c (.int .i64 1)), none⟩, 0, [6]), (⟨some 121, .ia 2 (.t 118) (.t 120), none⟩, 0, [5, 6, 7]), (⟨some 122, .lda 2 (.t 121), none⟩, 0, [5, 6, 7, 8]), (⟨some 123, .mv (.t 0), none⟩, 0, []), (⟨some 124, .mv (.t 17), none⟩, 0, []), (⟨some 125, .ia 2 (.t 123) (.t 124), none⟩, 0, [10, 11]), (⟨some 126, .lda 2 (.t 125), none⟩, 0, [10, 11, 12]), (⟨some 127, .ia 2 (.t 113) (.t 114), none⟩, 0, [0, 1, 5, 6, 7, 8, 9, 10, 11, 12, 13]), (⟨none, .stk 2 (.t 127) (.t 122), none⟩, 0, [0, 1, 5, 6, 7, 8, 9, 10, 11, 12, 13, 14]), (⟨some 128, .ia 2 (.t 115) (.t 117), none⟩, 0, [0, 1, 2, 3, 4, 5, 6, 7, 8, 9, 10, 11, 12, 13, 14, 15]), (⟨none, .stk 2 (.t 128) (.t 126), none⟩, 0, [0, 1, 2, 3, 4, 5, 6, 7, 8, 9, 10, 11, 12, 13, 14, 15, 16])]))) (.reg [ ⟨some 111, .mv (.t 17), none⟩, ⟨some 112, .bin .sub (.t 111) (.c (.int .i64 1)), none⟩, ⟨some 17, .mv (.t 112), none⟩])))))) (.ret))))) (.skip)))) (.seq (.stmt [0, 1, 2, 3, 4, 18] [] (.reg [ ⟨some 129, .mv (.t 1), none⟩, ⟨some 130, .mv (.t 3), none⟩, ⟨some 131, .bin .add (.t 129) (.t 130), none⟩, ⟨some 132, .cvi .u64 (.t 131), none⟩, ⟨some 133, .bin .shr (.t 132) (.c (.int .u64 1)), none⟩, ⟨some 134, .cvi .i64 (.t 133), none⟩, ⟨some 18, .mv (.t 134), none⟩])) (.seq (.stmt [0, 1, 2, 3, 4, 18, 19] [] (.reg [ ⟨some 135, .mv (.t 18), none⟩, ⟨some 136, .mv (.t 2), none⟩, ⟨some 137, .bin .add (.t 135) (.t 136), none⟩, ⟨some 19, .mv (.t 137), none⟩])) (.seq (.stmt [0, 1, 2, 3, 4, 18, 19] [] (.reg [ ⟨some 20, .mv (.c (.int .i64 0)), none⟩, ⟨some 21, .mv (.c (.int .i64 0)), none⟩])) (.seq (.stmt [0, 1, 2, 3, 4, 18, 19, 20, 21] [] (.seq (.stmt [0, 1, 2, 3, 4, 18, 19, 140] [] (.reg [ ⟨some 138, .mv (.t 2), none⟩, ⟨some 139, .mv (.t 18), none⟩, ⟨some 140, .bin .gtr (.t 138) (.t 139), none⟩])) (.cond (.t 140) (.seq (.stmt [0, 1, 2, 3, 4, 18, 19, 20] [] (.reg [ ⟨some 141, .mv (.t 19), none⟩, ⟨some 142, .mv (.t 3), none⟩, ⟨some 143, .bin .sub (.t 141) (.t 142), none⟩, ⟨some 20, .mv (.t 143), none⟩])) (.reg [ ⟨some 144, .mv (.t 18), none⟩, ⟨some 21, .mv (.t 144), none⟩])) (.seq (.stmt [0, 1, 2, 3, 4, 18, 19, 20] [] (.reg [ ⟨some 145, .mv (.t 1), none⟩, ⟨some 20, .mv (.t 145), none⟩])) (.reg [ ⟨some 146, .mv (.t 2), none⟩, ⟨some 21, .mv (.t 146), none⟩]))))) (.seq (.stmt [0, 1, 2, 3, 4, 18, 19, 20, 21, 22] [] (.reg [ ⟨some 147, .mv (.t 19), none⟩, ⟨some 148, .bin .sub (.t 147) (.c (.int .i64 1)), none⟩, ⟨some 22, .mv (.t 148), none⟩])) (.seq (.stmt [0, 1, 2, 3, 4, 18, 19, 20] [] (.block 8 (.loop [20, 21, 0, 1, 2, 3, 4, 18, 19, 22] (.seq (.stmt [0, 1, 2, 3, 4, 18, 19, 20, 21, 22] [] (.seq (.stmt [0, 1, 2, 3, 4, 18, 19, 20, 21, 22, 151] [] (.reg [ ⟨some 149, .mv (.t 20), none⟩, ⟨some 150, .mv (.t 21), none⟩, ⟨some 151, .bin .lss (.t 149) (.t 150), none⟩])) (.cond (.t 151) (.skip) (.exit 8)))) (.block 9 (.seq (.stmt [0, 1, 2, 3, 4, 18, 19, 20, 21, 22, 23] [] (.reg [ ⟨some 152, .mv (.t 20), none⟩, ⟨some 153, .mv (.t 21), none⟩, ⟨some 154, .bin .add (.t 152) (.t 153), none⟩, ⟨some 155, .cvi .u64 (.t 154), none⟩, ⟨some 156, .bin .shr (.t 155) (.c (.int .u64 1)), none⟩, ⟨some 157, .cvi .i64 (.t 156), none⟩, ⟨some 23, .mv (.t 157), none⟩])) (.seq (.stmt [0, 1, 2, 3, 4, 18, 19, 20, 21, 22, 23, 171] [] (.draw 0 [ (⟨some 158, .mv (.t 4), none⟩, 0, []), (⟨some 159, .mv (.t 0), none⟩, 0, []), (⟨some 160, .mv (.t 22), none⟩, 0, []), (⟨some 161, .mv (.t 23), none⟩, 0, []), (⟨some 162, .bin .sub (.t 160) (.t 161), none⟩, 0, [2, 3]), (⟨some 163, .ia 2 (.t 159) (.t 162), none⟩, 0, [1, 2, 3, 4]), (⟨some 164, .lda 2 (.t 163), none⟩, 0, [1, 2, 3, 4, 5]), (⟨some 165, .mv (.t 0), none⟩, 0, []), (⟨some 166, .mv (.t 23), none⟩, 0, []), (⟨some 167, .ia 2 (.t 165) (.t 166), none⟩, 0, [7, 8]), (⟨some 168, .lda 2 (.t 167), none⟩, 0, [7, 8, 9]), (⟨some 169, .callv false (.t 158) [(.t 164), (.t 168)], none⟩, 0, [0, 1, 2, 3, 4, 5, 6, 7, 8, 9, 10]), (⟨some 170, .bin .lss (.t 169) (.c (.int .i64 0)), none⟩, 0, [0, 1, 2, 3, 4, 5, 6, 7, 8, 9, 10, 11]), (⟨some 171, .un .not (.t 170), none⟩, 0, [0, 1, 2, 3, 4, 5, 6, 7, 8, 9, 10, 11, 12])])) (.cond (.t 171) (.reg [ ⟨some 172, .mv (.t 23), none⟩, ⟨some 173, .bin .add (.t 172) (.c (.int .i64 1)), none⟩, ⟨some 20, .mv (.t 173), none⟩]) (.reg [ ⟨some 174, .mv (.t 23), none⟩, ⟨some 21, .mv (.t 174), none⟩]))))))))) (.seq (.stmt [0, 1, 2, 3, 4, 18, 20, 24] [] (.reg [ ⟨some 175, .mv (.t 19), none⟩, ⟨some 176, .mv (.t 20), none⟩, ⟨some 177, .bin .sub (.t 175) (.t 176), none⟩, ⟨some 24, .mv (.t 177), none⟩])) (.seq (.stmt [0, 1, 3, 4, 18, 20, 24] [] (.seq (.stmt [0, 1, 2, 3, 4, 18, 20, 24, 185] [] (.reg [ ⟨some 178, .mv (.t 20), none⟩, ⟨some 179, .mv (.t 2), none⟩, ⟨some 180, .bin .lss (.t 178) (.t 179), none⟩, ⟨some 181, .mv (.t 180), none⟩, ⟨some 182, .mv (.t 2), some (181, true)⟩, ⟨some 183, .mv (.t 24), some (181, true)⟩, ⟨some 184, .bin .lss (.t 182) (.t 183), some (181, true)⟩, ⟨some 185, .pick (.t 181) (.t 184) (.c (.bool false)), none⟩])) (.cond (.t 185) (.reg [ ⟨some 186, .mv (.t 0), none⟩, ⟨some 187, .mv (.t 20), none⟩, ⟨some 188, .mv (.t 2), none⟩, ⟨some 189, .mv (.t 24), none⟩, ⟨some 190, .mv (.t 4), none⟩, ⟨some 191, .call true 87 [(.t 186), (.t 187), (.t 188), (.t 189), (.t 190)], none⟩]) (.skip)))) (.seq (.stmt [0, 3, 4, 18, 24] [] (.seq (.stmt [0, 1, 3, 4, 18, 20, 24, 199] [] (.reg [ ⟨some 192, .mv (.t 1), none⟩, ⟨some 193, .mv (.t 20), none⟩, ⟨some 194, .bin .lss (.t 192) (.t 193), none⟩, ⟨some 195, .mv (.t 194), none⟩, ⟨some 196, .mv (.t 20), some (195, true)⟩, ⟨some 197, .mv (.t 18), some (195, true)⟩, ⟨some 198, .bin .lss (.t 196) (.t 197), some (195, true)⟩, ⟨some 199, .pick (.t 195) (.t 198) (.c (.bool false)), none⟩])) (.cond (.t 199) (.reg [ ⟨some 200, .mv (.t 0), none⟩, ⟨some 201, .mv (.t 1), none⟩, ⟨some 202, .mv (.t 20), none⟩, ⟨some 203, .mv (.t 18), none⟩, ⟨some 204, .mv (.t 4), none⟩, ⟨some 205, .call true 86 [(.t 200), (.t 201), (.t 202), (.t 203), (.t 204)], none⟩]) (.skip)))) (.seq (.stmt [0, 3, 4, 18, 24, 213] [] (.reg [ ⟨some 206, .mv (.t 18), none⟩, ⟨some 207, .mv (.t 24), none⟩, ⟨some 208, .bin .lss (.t 206) (.t 207), none⟩, ⟨some 209, .mv (.t 208), none⟩, ⟨some 210, .mv (.t 24), some (209, true)⟩, ⟨some 211, .mv (.t 3), some (209, true)⟩, ⟨some 212, .bin .lss (.t 210) (.t 211), some (209, true)⟩, ⟨some 213, .pick (.t 209) (.t 212) (.c (.bool false)), none⟩])) (.cond (.t 213) (.reg [ ⟨some 214, .mv (.t 0), none⟩, ⟨some 215, .mv (.t 18), none⟩, ⟨some 216, .mv (.t 24), none⟩, ⟨some 217, .mv (.t 3), none⟩, ⟨some 218, .mv (.t 4), none⟩, ⟨some 219, .call true 86 [(.t 214), (.t 215), (.t 216), (.t 217), (.t 218)], none⟩]) (.skip))))))))))))), []⟩
def a87 : AFunc := ⟨.seq (.stmt [0, 2, 3, 4, 10] [] (.reg [ ⟨some 12, .mv (.t 2), none⟩, ⟨some 13, .mv (.t 1), none⟩, ⟨some 14, .bin .sub (.t 12) (.t 13), none⟩, ⟨some 10, .mv (.t 14), none⟩])) (.seq (.stmt [0, 2, 4, 10, 11] [] (.reg [ ⟨some 15, .mv (.t 3), none⟩, ⟨some 16, .mv (.t 2), none⟩, ⟨some 17, .bin .sub (.t 15) (.t 16), none⟩, ⟨some 11, .mv (.t 17), none⟩])) (.seq (.stmt [0, 2, 4, 10] [] (.block 0 (.loop [10, 11, 0, 2, 4] (.seq (.stmt [0, 2, 4, 10, 11] [] (.seq (.stmt [0, 2, 4, 10, 11, 20] [] (.reg [ ⟨some 18, .mv (.t 10), none⟩, ⟨some 19, .mv (.t 11), none⟩, ⟨some 20, .bin .neq (.t 18) (.t 19), none⟩])) (.cond (.t 20) (.skip) (.exit 0)))) (.block 1 (.seq (.stmt [0, 2, 4, 10, 11, 23] [] (.reg [ ⟨some 21, .mv (.t 10), none⟩, ⟨some 22, .mv (.t 11), none⟩, ⟨some 23, .bin .gtr (.t 21) (.t 22), none⟩])) (.cond (.t 23) (.seq (.stmt [0, 2, 4, 10, 11] [] (.reg [ ⟨some 24, .mv (.t 0), none⟩, ⟨some 25, .mv (.t 2), none⟩, ⟨some 26, .mv (.t 10), none⟩, ⟨some 27, .bin .sub (.t 25) (.t 26), none⟩, ⟨some 28, .mv (.t 2), none⟩, ⟨some 29, .mv (.t 11), none⟩, ⟨some 30, .mv (.t 4), none⟩, ⟨some 31, .call true 88 [(.t 24), (.t 27), (.t 28), (.t 29), (.t 30)], none⟩])) (.reg [ ⟨some 32, .mv (.t 10), none⟩, ⟨some 33, .mv (.t 11), none⟩, ⟨some 34, .bin .sub (.t 32) (.t 33), none⟩, ⟨some 10, .mv (.t 34), none⟩])) (.seq (.stmt [0, 2, 4, 10, 11] [] (.reg [ ⟨some 35, .mv (.t 0), none⟩, ⟨some 36, .mv (.t 2), none⟩, ⟨some 37, .mv (.t 10), none⟩, ⟨some 38, .bin .sub (.t 36) (.t 37), none⟩, ⟨some 39, .mv (.t 2), none⟩, ⟨some 40, .mv (.t 11), none⟩, ⟨some 41, .bin .add (.t 39) (.t 40), none⟩, ⟨some 42, .mv (.t 10), none⟩, ⟨some 43, .bin .sub (.t 41) (.t 42), none⟩, ⟨some 44, .mv (.t 10), none⟩, ⟨some 45, .mv (.t 4), none⟩, ⟨some 46, .call true 88 [(.t 35), (.t 38), (.t 43), (.t 44), (.t 45)], none⟩])) (.reg [ ⟨some 47, .mv (.t 11), none⟩, ⟨some 48, .mv (.t 10), none⟩, ⟨some 49, .bin .sub (.t 47) (.t 48), none⟩, ⟨some 11, .mv (.t 49), none⟩]))))))))) (.reg [ ⟨some 50, .mv (.t 0), none⟩, ⟨some 51, .mv (.t 2), none⟩, ⟨some 52, .mv (.t 10), none⟩, ⟨some 53, .bin .sub (.t 51) (.t 52), none⟩, ⟨some 54, .mv (.t 2), none⟩, ⟨some 55, .mv (.t 10), none⟩, ⟨some 56, .mv (.t 4), none⟩, ⟨some 57, .call true 88 [(.t 50), (.t 53), (.t 54), (.t 55), (.t 56)], none⟩]))), []⟩
def a88 : AFunc := ⟨.seq (.stmt [0, 1, 2, 3, 10] [] (.reg [ ⟨some 10, .mv (.c (.int .i64 0)), none⟩])) (.block 0 (.loop [10, 0, 1, 2, 3] (.seq (.stmt [0, 1, 2, 3, 10] [] (.seq (.stmt [0, 1, 2, 3, 10, 13] [] (.reg [ ⟨some 11, .mv (.t 10), none⟩, ⟨some 12, .mv (.t 3), none⟩, ⟨some 13, .bin .lss (.t 11) (.t 12), none⟩])) (.cond (.t 13) (.skip) (.exit 0)))) (.seq (.stmt [0, 1, 2, 3, 10] [] (.block 1 (.draw 0 [ (⟨some 16, .mv (.t 0), none⟩, 0, []), (⟨some 17, .mv (.t 1), none⟩, 0, []), (⟨some 18, .mv (.t 10), none⟩, 0, []), (⟨some 19, .bin .add (.t 17) (.t 18), none⟩, 0, [1, 2]), (⟨some 20, .mv (.t 0), none⟩, 0, []), (⟨some 21, .mv (.t 2), none⟩, 0, []), (⟨some 22, .mv (.t 10), none⟩, 0, []), (⟨some 23, .bin .add (.t 21) (.t 22), none⟩, 0, [5, 6]), (⟨some 24, .mv (.t 0), none⟩, 0, []), (⟨some 25, .mv (.t 2), none⟩, 0, []), (⟨some 26, .mv (.t 10), none⟩, 0, []), (⟨some 27, .bin .add (.t 25) (.t 26), none⟩, 0, [9, 10]), (⟨some 28, .ia 2 (.t 24) (.t 27), none⟩, 0, [8, 9, 10, 11]), (⟨some 29, .lda 2 (.t 28), none⟩, 0, [8, 9, 10, 11, 12]), (⟨some 30, .mv (.t 0), none⟩, 0, []), (⟨some 31, .mv (.t 1), none⟩, 0, []), (⟨some 32, .mv (.t 10), none⟩, 0, []), (⟨some 33, .bin .add (.t 31) (.t 32), none⟩, 0, [15, 16]), (⟨some 34, .ia 2 (.t 30) (.t 33), none⟩, 0, [14, 15, 16, 17]), (⟨some 35, .lda 2 (.t 34), none⟩, 0, [14, 15, 16, 17, 18]), (⟨some 36, .ia 2 (.t 16) (.t 19), none⟩, 0, [0, 1, 2, 3, 8, 9, 10, 11, 12, 13, 14, 15, 16, 17, 18, 19]), (⟨none, .stk 2 (.t 36) (.t 29), none⟩, 0, [0, 1, 2, 3, 8, 9, 10, 11, 12, 13, 14, 15, 16, 17, 18, 19, 20]), (⟨some 37, .ia 2 (.t 20) (.t 23), none⟩, 0, [0, 1, 2, 3, 4, 5, 6, 7, 8, 9, 10, 11, 12, 13, 14, 15, 16, 17, 18, 19, 20, 21]), (⟨none, .stk 2 (.t 37) (.t 35), none⟩, 0, [0, 1, 2, 3, 4, 5, 6, 7, 8, 9, 10, 11, 12, 13, 14, 15, 16, 17, 18, 19, 20, 21, 22])]))) (.reg [ ⟨some 14, .mv (.t 10), none⟩, ⟨some 15, .bin .add (.t 14) (.c (.int .i64 1)), none⟩, ⟨some 10, .mv (.t 15), none⟩]))))), []⟩
def tabL : List (Option AFunc) := [none, none, none, none, none, none, some a6, none, some a8, none, none, some a11, none, some a13, none, none, none, some a17, none, none, some a20, none, some a22, none, some a24, none, some a26, none, some a28, some a29, none, some a31, none, some a33, some a34, some a35, some a36, some a37, some a38, some a39, none, none, some a42, some a43, none, none, none, some a47, some a48, some a49, none, some a51, some a52, some a53, none, none, none, none, none, none, none, some a61, some a62, some a63, some a64, none, some a66, some a67, some a68, some a69, some a70, some a71, some a72, some a73, some a74, none, none, none, some a78, some a79, some a80, some a81, none, none, some a84, some a85, some a86, some a87, some a88]
def tab (f : Nat) : Option AFunc := (tabL[f]?).join
end Go.Ev.Seat
namespace Go.Ev
open Go
structure Gh where
  M : Nat → Nat → Option Value
  mu : Nat → Option Nat
  T : Nat → Nat → Option Value
  own : Nat → Option Nat
def rfree (v : AVal) : Prop := lowV 0 v = true
inductive Rep (Γ : Gh) : AVal → Value → Prop
  | int (k : IntKind) (n : Int) : Rep Γ (.int k n) (.int k n)
  | bool (b : Bool) : Rep Γ (.bool b) (.bool b)
  | str (s : List UInt8) : Rep Γ (.str s) (.string ⟨s.toArray⟩)
  | nilp : Rep Γ .nilp (.pointer none)
  | nili : Rep Γ .nili .nilIface
  | nilf : Rep Γ .nilf .nilFunc
  | nilm : Rep Γ .nilm (.map none)
  | iface (t : TypeId) {v : AVal} {c : Value} : Rep Γ v c → Rep Γ (.iface t v) (.iface t c)
  | agg {cs : List AVal} {ds : List Value} : ds.length = cs.length → (∀ (i : Nat) (c : AVal) (d : Value), cs[i]? = some c → ds[i]? = some d → Rep Γ c d) →
      (∀ d, d ∈ ds → d.oneCell' = true) → Rep Γ (.agg cs) (.agg ds.toArray)
  | tup {cs : List AVal} {ds : List Value} : ds.length = cs.length → (∀ (i : Nat) (c : AVal) (d : Value), cs[i]? = some c → ds[i]? = some d → Rep Γ c d) → Rep Γ (.tup cs) (.tuple ds.toArray)
  | lstN (e : Bool) : Rep Γ (.lst [] e) (.slice none 0 0)
  | lstE {e : Bool} {a : Addr} {cap : Nat} : (e = true → cap = 0) → Rep Γ (.lst [] e) (.slice (some a) 0 cap)
  | lst {xs : List AVal} {e : Bool} {g off cap es : Nat} (f : Nat → Value) : xs.length ≤ cap → (e = true → cap = xs.length) → (∀ x, x ∈ xs → x.width = es) → (∀ x, x ∈ xs → rfree x) →
      (∀ (j : Nat) (c : AVal), (flatL xs)[j]? = some c → Γ.M g (off + j) = some (f j)) → (∀ (j : Nat) (c : AVal), (flatL xs)[j]? = some c → (f j).oneCell' = true) → (∀ (j : Nat) (c : AVal), (flatL xs)[j]? = some c → Rep Γ c (f j)) →
      Rep Γ (.lst xs e) (.slice (some ⟨g, off, none⟩) xs.length cap)
  | gl {o len cap : Nat} {a : Option Addr} : Γ.T o len = some (.slice a len cap) → (0 < len → a.isSome = true) → Rep Γ (.gl o len) (.slice a len cap)
  | lptr {o l a g cap : Nat} : Γ.T o l = some (.slice (some ⟨g, 0, none⟩) l cap) → Rep Γ (.lptr o l a) (.pointer (some ⟨g, a, none⟩))
  | gtl {o l lo es g cap : Nat} : Γ.T o l = some (.slice (some ⟨g, 0, none⟩) l cap) → Rep Γ (.gtl o l lo es) (.slice (some ⟨g, lo * es, none⟩) (l - lo) (cap - lo))
  | sl {b off len cap g : Nat} {w : Option Nat} : Γ.mu b = some g → Rep Γ (.sl b off len cap w) (.slice (some ⟨g, off, none⟩) len cap)
  | ptr {b off g : Nat} : Γ.mu b = some g → Rep Γ (.ptr b off) (.pointer (some ⟨g, off, none⟩))
  | ro {cs : List AVal} {g off : Nat} (f : Nat → Value) : (∀ c, c ∈ cs → rfree c) → (∀ (j : Nat) (c : AVal), cs[j]? = some c → Γ.M g (off + j) = some (f j)) →
      (∀ (j : Nat) (c : AVal), cs[j]? = some c → (f j).oneCell' = true) → (∀ (j : Nat) (c : AVal), cs[j]? = some c → Rep Γ c (f j)) → Rep Γ (.ro cs) (.pointer (some ⟨g, off, none⟩))
  | fn (f : FuncId) {cs : List AVal} {ds : List Value} : ds.length = cs.length → (∀ (i : Nat) (c : AVal) (d : Value), cs[i]? = some c → ds[i]? = some d → Rep Γ c d) → Rep Γ (.fn f cs) (.func (.func f) #[] ds.toArray)
  | map {b g : Nat} : Γ.mu b = some g → Rep Γ (.map b) (.map (some g))
  | empN : Rep Γ (.emp true) (.slice none 0 0)
  | empE {a : Addr} {cap : Nat} : Rep Γ (.emp false) (.slice (some a) 0 cap)
def Reps (Γ : Gh) (cs : List AVal) (ds : List Value) : Prop := ds.length = cs.length ∧ ∀ (i : Nat) (c : AVal) (d : Value), cs[i]? = some c → ds[i]? = some d → Rep Γ c d
theorem y7t (n m : Nat) (h : n ≤ m) : (∀ v, lowV n v = true → lowV m v = true) ∧ (∀ vs, lowL n vs = true → lowL m vs = true) := by
  constructor
  · intro v
    induction v using AVal.rec (motive_2 := fun vs => lowL n vs = true → lowL m vs = true) with
    | nil => simp [lowL]
    | cons v vs ih1 ih2 => rename_i hh; simp only [lowL, Bool.and_eq_true] at hh ⊢; exact ⟨ih1 hh.1, ih2 hh.2⟩
    | _ => simp_all [lowV] <;> omega
  · intro vs
    induction vs using AVal.rec_1 (motive_1 := fun v => lowV n v = true → lowV m v = true) with
    | nil => simp [lowL]
    | cons v vs ih1 ih2 => intro hh; simp only [lowL, Bool.and_eq_true] at hh ⊢; exact ⟨ih1 hh.1, ih2 hh.2⟩
    | _ => simp_all [lowV] <;> omega
theorem low_mono {n m : Nat} (h : n ≤ m) {v : AVal} (hv : lowV n v = true) : lowV m v = true := (y7t n m h).1 v hv
theorem lowL_get {n : Nat} : ∀ {vs : List AVal} {i : Nat} {v : AVal}, lowL n vs = true → vs[i]? = some v → lowV n v = true
  | [], i, v, _, h => by simp at h
  | x :: xs, 0, v, hb, h => by simp only [lowL, Bool.and_eq_true] at hb; simp at h; exact h ▸ hb.1
  | x :: xs, i + 1, v, hb, h => by simp only [lowL, Bool.and_eq_true] at hb; simp at h; exact lowL_get hb.2 h
theorem lowL_iff {n : Nat} : ∀ {vs : List AVal}, lowL n vs = true ↔ ∀ v, v ∈ vs → lowV n v = true
  | [] => by simp [lowL]
  | x :: xs => by simp [lowL, lowL_iff (vs := xs)]
theorem y3y {x : AVal} (h : rfree x) : ∀ c, c ∈ x.flat → rfree c := by
  intro c hc
  cases x <;> simp [AVal.flat] at hc <;> first | (subst hc; exact h) | skip
  simp only [rfree, lowV] at h ⊢
  exact lowL_iff.1 h c hc
theorem y52 {xs : List AVal} (h : ∀ x, x ∈ xs → rfree x) : ∀ c, c ∈ flatL xs → rfree c := by
  induction xs with
  | nil => simp [flatL]
  | cons x xs ih =>
    intro c hc
    simp only [flatL, List.mem_append] at hc
    rcases hc with hc | hc
    · exact y3y (h x (by simp)) c hc
    · exact ih (fun y hy => h y (by simp [hy])) c hc
theorem Rep.move {Γ Γ' : Gh} {n : Nat} (hM : ∀ g o c, Γ.M g o = some c → Γ'.M g o = some c) (hmu : ∀ b g, b < n → Γ.mu b = some g → Γ'.mu b = some g)
    (hT : ∀ o l c, o < n → Γ.T o l = some c → Γ'.T o l = some c) {v : AVal} {c : Value} (h : Rep Γ v c) : lowV n v = true → Rep Γ' v c := by
  induction h with
  | int k n => intro _; exact .int k n
  | bool b => intro _; exact .bool b
  | str s => intro _; exact .str s
  | nilp => intro _; exact .nilp
  | nili => intro _; exact .nili
  | nilf => intro _; exact .nilf
  | nilm => intro _; exact .nilm
  | iface t _ ih => intro hb; exact .iface t (ih (by simpa [lowV] using hb))
  | agg hl _ h1 ih => intro hb; exact .agg hl (fun i c d hc hd => ih i c d hc hd (lowL_get (by simpa [lowV] using hb) hc)) h1
  | tup hl _ ih => intro hb; exact .tup hl (fun i c d hc hd => ih i c d hc hd (lowL_get (by simpa [lowV] using hb) hc))
  | lstN e => intro _; exact .lstN e
  | lstE h => intro _; exact .lstE h
  | lst f h1 h2 h3 h4 h5 h6 _ ih =>
    intro _
    exact .lst f h1 h2 h3 h4 (fun j c hc => hM _ _ _ (h5 j c hc)) h6 (fun j c hc => ih j c hc (low_mono (Nat.zero_le _) (y52 h4 c (List.mem_of_getElem? hc))))
  | gl h1 h2 => intro hb; exact .gl (hT _ _ _ (by simpa [lowV] using hb) h1) h2
  | lptr h1 => intro hb; exact .lptr (hT _ _ _ (by simpa [lowV] using hb) h1)
  | gtl h1 => intro hb; exact .gtl (hT _ _ _ (by simpa [lowV] using hb) h1)
  | sl h1 => intro hb; exact .sl (hmu _ _ (by simpa [lowV] using hb) h1)
  | ptr h1 => intro hb; exact .ptr (hmu _ _ (by simpa [lowV] using hb) h1)
  | ro f h1 h2 h3 _ ih =>
    intro _
    exact .ro f h1 (fun j c hc => hM _ _ _ (h2 j c hc)) h3 (fun j c hc => ih j c hc (low_mono (Nat.zero_le _) (h1 c (List.mem_of_getElem? hc))))
  | fn f hl _ ih => intro hb; exact .fn f hl (fun i c d hc hd => ih i c d hc hd (lowL_get (by simpa [lowV] using hb) hc))
  | map h1 => intro hb; exact .map (hmu _ _ (by simpa [lowV] using hb) h1)
  | empN => intro _; exact .empN
  | empE => intro _; exact .empE
structure Gh.le (Γ Γ' : Gh) : Prop where
  M : ∀ g o c, Γ.M g o = some c → Γ'.M g o = some c
  mu : ∀ b g, Γ.mu b = some g → Γ'.mu b = some g
  T : ∀ o l c, Γ.T o l = some c → Γ'.T o l = some c
theorem Gh.le.refl (Γ : Gh) : Γ.le Γ := ⟨fun _ _ _ h => h, fun _ _ h => h, fun _ _ _ h => h⟩
theorem Gh.le.trans {Γ Γ' Γ'' : Gh} (h : Γ.le Γ') (h' : Γ'.le Γ'') : Γ.le Γ'' :=
  ⟨fun _ _ _ a => h'.M _ _ _ (h.M _ _ _ a), fun _ _ a => h'.mu _ _ (h.mu _ _ a), fun _ _ _ a => h'.T _ _ _ (h.T _ _ _ a)⟩
theorem Rep.mono {Γ Γ' : Gh} (hl : Γ.le Γ') {v : AVal} {c : Value} (h : Rep Γ v c) : Rep Γ' v c := by
  induction h with
  | int k n => exact .int k n
  | bool b => exact .bool b
  | str s => exact .str s
  | nilp => exact .nilp
  | nili => exact .nili
  | nilf => exact .nilf
  | nilm => exact .nilm
  | iface t _ ih => exact .iface t ih
  | agg hl' _ h1 ih => exact .agg hl' ih h1
  | tup hl' _ ih => exact .tup hl' ih
  | lstN e => exact .lstN e
  | lstE h => exact .lstE h
  | lst f h1 h2 h3 h4 h5 h6 _ ih => exact .lst f h1 h2 h3 h4 (fun j c hc => hl.M _ _ _ (h5 j c hc)) h6 ih
  | gl h1 h2 => exact .gl (hl.T _ _ _ h1) h2
  | lptr h1 => exact .lptr (hl.T _ _ _ h1)
  | gtl h1 => exact .gtl (hl.T _ _ _ h1)
  | sl h1 => exact .sl (hl.mu _ _ h1)
  | ptr h1 => exact .ptr (hl.mu _ _ h1)
  | ro f h1 h2 h3 _ ih => exact .ro f h1 (fun j c hc => hl.M _ _ _ (h2 j c hc)) h3 ih
  | fn f hl' _ ih => exact .fn f hl' ih
  | map h1 => exact .map (hl.mu _ _ h1)
  | empN => exact .empN
  | empE => exact .empE
theorem Reps.mono {Γ Γ' : Gh} (hl : Γ.le Γ') {cs : List AVal} {ds : List Value} (h : Reps Γ cs ds) : Reps Γ' cs ds := ⟨h.1, fun i c d hc hd => (h.2 i c d hc hd).mono hl⟩
theorem Reps.nil (Γ : Gh) : Reps Γ [] [] := ⟨rfl, by simp⟩
theorem Reps.cons {Γ : Gh} {c : AVal} {d : Value} {cs : List AVal} {ds : List Value} (h : Rep Γ c d) (hs : Reps Γ cs ds) : Reps Γ (c :: cs) (d :: ds) := by
  refine ⟨by simp [hs.1], ?_⟩
  intro i x y hx hy
  cases i with
  | zero => simp at hx hy; exact hx ▸ hy ▸ h
  | succ i => simp at hx hy; exact hs.2 i x y hx hy
theorem Reps.append {Γ : Gh} {cs cs' : List AVal} {ds ds' : List Value} (h : Reps Γ cs ds) (h' : Reps Γ cs' ds') : Reps Γ (cs ++ cs') (ds ++ ds') := by
  refine ⟨by simp [h.1, h'.1], ?_⟩
  intro i x y hx hy
  by_cases hi : i < cs.length
  · rw [List.getElem?_append_left hi] at hx
    rw [List.getElem?_append_left (by rw [h.1]; exact hi)] at hy
    exact h.2 i x y hx hy
  · rw [List.getElem?_append_right (by omega)] at hx
    rw [List.getElem?_append_right (by rw [h.1]; omega), h.1] at hy
    exact h'.2 _ x y hx hy
theorem Reps.take {Γ : Gh} {cs : List AVal} {ds : List Value} (h : Reps Γ cs ds) (n : Nat) : Reps Γ (cs.take n) (ds.take n) := by
  refine ⟨by simp [h.1], ?_⟩
  intro i x y hx hy
  rw [List.getElem?_take] at hx hy
  split at hx
  · rename_i hi; rw [if_pos hi] at hy; exact h.2 i x y hx hy
  · cases hx
theorem Reps.drop {Γ : Gh} {cs : List AVal} {ds : List Value} (h : Reps Γ cs ds) (n : Nat) : Reps Γ (cs.drop n) (ds.drop n) := by
  refine ⟨by simp [h.1], ?_⟩
  intro i x y hx hy
  rw [List.getElem?_drop] at hx hy
  exact h.2 _ x y hx hy
theorem Reps.get {Γ : Gh} {cs : List AVal} {ds : List Value} (h : Reps Γ cs ds) {i : Nat} {c : AVal} (hc : cs[i]? = some c) : ∃ d, ds[i]? = some d ∧ Rep Γ c d := by
  have hi : i < cs.length := (List.getElem?_eq_some_iff.1 hc).1
  have hi' : i < ds.length := by rw [h.1]; exact hi
  exact ⟨ds[i], List.getElem?_eq_getElem hi', h.2 i c _ hc (List.getElem?_eq_getElem hi')⟩
theorem Reps.set {Γ : Gh} {cs : List AVal} {ds : List Value} (h : Reps Γ cs ds) {c : AVal} {d : Value} (hc : Rep Γ c d) (n : Nat) : Reps Γ (cs.set n c) (ds.set n d) := by
  refine ⟨by simp [h.1], ?_⟩
  intro i x y hx hy
  rw [List.getElem?_set] at hx hy
  split at hx
  · rename_i hi
    rw [if_pos hi] at hy
    split at hx
    · split at hy
      · cases hx; cases hy; exact hc
      · cases hy
    · cases hx
  · rename_i hi; rw [if_neg hi] at hy; exact h.2 i x y hx hy
theorem Rep.agg_inv {Γ : Gh} {cs : List AVal} {c : Value} (h : Rep Γ (.agg cs) c) : ∃ ds : List Value, c = .agg ds.toArray ∧ Reps Γ cs ds ∧ ∀ d, d ∈ ds → d.oneCell' = true := by
  cases h with | agg h1 h2 h3 => exact ⟨_, rfl, ⟨h1, h2⟩, h3⟩
theorem Rep.tup_inv {Γ : Gh} {cs : List AVal} {c : Value} (h : Rep Γ (.tup cs) c) : ∃ ds : List Value, c = .tuple ds.toArray ∧ Reps Γ cs ds := by
  cases h with | tup h1 h2 => exact ⟨_, rfl, ⟨h1, h2⟩⟩
theorem Rep.fn_inv {Γ : Gh} {f : FuncId} {cs : List AVal} {c : Value} (h : Rep Γ (.fn f cs) c) : ∃ ds : List Value, c = .func (.func f) #[] ds.toArray ∧ Reps Γ cs ds := by
  cases h with | fn _ h1 h2 => exact ⟨_, rfl, ⟨h1, h2⟩⟩
theorem Rep.int_inv {Γ : Gh} {k : IntKind} {n : Int} {c : Value} (h : Rep Γ (.int k n) c) : c = .int k n := by cases h; rfl
theorem Rep.bool_inv {Γ : Gh} {b : Bool} {c : Value} (h : Rep Γ (.bool b) c) : c = .bool b := by cases h; rfl
theorem Rep.str_inv {Γ : Gh} {s : List UInt8} {c : Value} (h : Rep Γ (.str s) c) : c = .string ⟨s.toArray⟩ := by cases h; rfl
theorem Rep.ptr_inv {Γ : Gh} {b off : Nat} {c : Value} (h : Rep Γ (.ptr b off) c) : ∃ g, c = .pointer (some ⟨g, off, none⟩) ∧ Γ.mu b = some g := by
  cases h with | ptr h1 => exact ⟨_, rfl, h1⟩
theorem Rep.sl_inv {Γ : Gh} {b off len cap : Nat} {w : Option Nat} {c : Value} (h : Rep Γ (.sl b off len cap w) c) : ∃ g, c = .slice (some ⟨g, off, none⟩) len cap ∧ Γ.mu b = some g := by
  cases h with | sl h1 => exact ⟨_, rfl, h1⟩
theorem Rep.gtl_inv {Γ : Gh} {o l lo es : Nat} {c : Value} (h : Rep Γ (.gtl o l lo es) c) : ∃ g cap, c = .slice (some ⟨g, lo * es, none⟩) (l - lo) (cap - lo) ∧ Γ.T o l = some (.slice (some ⟨g, 0, none⟩) l cap) := by
  cases h with | gtl h1 => exact ⟨_, _, rfl, h1⟩
theorem Rep.lptr_inv {Γ : Gh} {o l b : Nat} {c : Value} (h : Rep Γ (.lptr o l b) c) : ∃ g cap, c = .pointer (some ⟨g, b, none⟩) ∧ Γ.T o l = some (.slice (some ⟨g, 0, none⟩) l cap) := by
  cases h with | lptr h1 => exact ⟨_, _, rfl, h1⟩
theorem Rep.map_inv {Γ : Gh} {b : Nat} {c : Value} (h : Rep Γ (.map b) c) : ∃ g, c = .map (some g) ∧ Γ.mu b = some g := by
  cases h with | map h1 => exact ⟨_, rfl, h1⟩
theorem Rep.gl_inv {Γ : Gh} {o len : Nat} {c : Value} (h : Rep Γ (.gl o len) c) : ∃ a cap, c = .slice a len cap ∧ Γ.T o len = some c ∧ (0 < len → a.isSome = true) := by
  cases h with | gl h1 h2 => exact ⟨_, _, rfl, h1, h2⟩
theorem Rep.ro_inv {Γ : Gh} {cs : List AVal} {c : Value} (h : Rep Γ (.ro cs) c) : ∃ (g off : Nat) (f : Nat → Value), c = .pointer (some ⟨g, off, none⟩) ∧ (∀ c, c ∈ cs → rfree c) ∧ (∀ (j : Nat) (c : AVal), cs[j]? = some c → Γ.M g (off + j) = some (f j)) ∧
    (∀ (j : Nat) (c : AVal), cs[j]? = some c → (f j).oneCell' = true) ∧ (∀ (j : Nat) (c : AVal), cs[j]? = some c → Rep Γ c (f j)) := by
  cases h with | ro f h1 h2 h3 h4 => exact ⟨_, _, f, rfl, h1, h2, h3, h4⟩
theorem Rep.lst_inv {Γ : Gh} {xs : List AVal} {e : Bool} {c : Value} (h : Rep Γ (.lst xs e) c) : (xs = [] ∧ ∃ base cap, c = .slice base 0 cap ∧ ((base = none ∧ cap = 0) ∨ ((∃ a, base = some a) ∧ (e = true → cap = 0)))) ∨
    ∃ (g off cap es : Nat) (f : Nat → Value), c = .slice (some ⟨g, off, none⟩) xs.length cap ∧ xs.length ≤ cap ∧ (e = true → cap = xs.length) ∧ (∀ x, x ∈ xs → x.width = es) ∧ (∀ x, x ∈ xs → rfree x) ∧
      (∀ (j : Nat) (c : AVal), (flatL xs)[j]? = some c → Γ.M g (off + j) = some (f j)) ∧ (∀ (j : Nat) (c : AVal), (flatL xs)[j]? = some c → (f j).oneCell' = true) ∧ (∀ (j : Nat) (c : AVal), (flatL xs)[j]? = some c → Rep Γ c (f j)) := by
  cases h with
  | lstN => exact .inl ⟨rfl, _, _, rfl, .inl ⟨rfl, rfl⟩⟩
  | lstE h => exact .inl ⟨rfl, _, _, rfl, .inr ⟨⟨_, rfl⟩, h⟩⟩
  | lst f h1 h2 h3 h4 h5 h6 h7 => exact .inr ⟨_, _, _, _, f, rfl, h1, h2, h3, h4, h5, h6, h7⟩
theorem Rep.emp {Γ : Gh} {e : Bool} {base : Option Addr} {cap : Nat} (h : (base = none ∧ cap = 0) ∨ ((∃ a, base = some a) ∧ (e = true → cap = 0))) : Rep Γ (.lst [] e) (.slice base 0 cap) := by
  rcases h with ⟨rfl, rfl⟩ | ⟨⟨a, rfl⟩, h⟩
  · exact .lstN e
  · exact .lstE h
theorem Rep.emp_lst {Γ : Gh} {b : Bool} {c : Value} (h : Rep Γ (.emp b) c) : Rep Γ (.lst [] false) c := by
  cases h with
  | empN => exact .lstN _
  | empE => exact .lstE (by simp)
theorem Rep.cells {Γ : Gh} {v : AVal} {c : Value} (h : Rep Γ v c) : Reps Γ v.flat c.cells.toList := by
  cases h with
  | agg hl hr h1 => exact ⟨by simpa [AVal.flat, Value.cells] using hl, by simpa [AVal.flat, Value.cells] using hr⟩
  | _ => simp only [AVal.flat, Value.cells]; exact Reps.cons (by constructor <;> assumption) (Reps.nil Γ)
theorem Rep.cells_one {Γ : Gh} {v : AVal} {c : Value} (h : Rep Γ v c) (ht : ∀ vs, v ≠ .tup vs) : ∀ d, d ∈ c.cells.toList → d.oneCell' = true := by
  cases h with
  | agg hl hr h1 => simpa [Value.cells] using h1
  | tup => exact absurd rfl (ht _)
  | _ => intro d hd; simp [Value.cells] at hd; subst hd; rfl
def OkB (Γ : Gh) (w : World) (b : Nat) : ABlock → Prop
  | .hole => Γ.mu b = none ∧ ∀ l, Γ.T b l = none
  | .dead => True
  | .cells vs => ∃ g cs ty, Γ.mu b = some g ∧ Γ.own g = some b ∧ w.heap[g]? = some (.cells cs ty (0, 0)) ∧ (∀ o, Γ.M g o = none) ∧ Reps Γ vs cs.toList ∧ ∀ c, c ∈ cs.toList → c.oneCell' = true
  | .grow es xs op => ∃ c, Γ.T b xs.length = some c ∧ (∀ l, xs.length < l → Γ.T b l = none) ∧ (∀ x, x ∈ xs → rfree x) ∧ ((op = none ∧ Rep Γ (.lst xs true) c) ∨
      ∃ g cap cs ty, c = .slice (some ⟨g, 0, none⟩) xs.length cap ∧ Γ.own g = some b ∧ w.heap[g]? = some (.cells cs ty (0, 0)) ∧ xs.length ≤ cap ∧ cs.size = cap * es ∧ 0 < es ∧ (∀ x, x ∈ xs → x.width = es) ∧
        Reps Γ (flatL xs) (cs.toList.take (flatL xs).length) ∧ (∀ c, c ∈ cs.toList → c.oneCell' = true) ∧ op.getD xs.length ≤ xs.length ∧ (∀ j, j < op.getD xs.length * es → Γ.M g j = cs[j]?) ∧ ∀ j, op.getD xs.length * es ≤ j → Γ.M g j = none)
  | .mp es => ∃ g ents clock, Γ.mu b = some g ∧ Γ.own g = some b ∧ w.heap[g]? = some (.map ents clock) ∧ ents.size = es.length ∧
      ∀ (i : Nat) (k v : AVal) (e : MapEntry), es[i]? = some (k, v) → ents[i]? = some e → Rep Γ k e.key ∧ Rep Γ v e.val
structure Rel (Γ : Gh) (H : Heap) (w : World) : Prop where
  mem : ∀ g o c, Γ.M g o = some c → w.cell? ⟨g, o, none⟩ = some c
  blk : ∀ (b : Nat) (B : ABlock), H[b]? = some B → OkB Γ w b B
  dom : ∀ b, H.length ≤ b → Γ.mu b = none ∧ ∀ l, Γ.T b l = none
  owned : ∀ g b, Γ.own g = some b → g < w.heap.size
structure Stp (Γ : Gh) (w : World) (Γ' : Gh) (w' : World) : Prop where
  le : Γ.le Γ'
  own : ∀ g, g < w.heap.size → Γ.own g = none → Γ'.own g = none
  newM : ∀ g o, g < w.heap.size → Γ.own g = none → Γ'.M g o = Γ.M g o
  size : w.heap.size ≤ w'.heap.size
  heap : ∀ g : Nat, g < w.heap.size → Γ.own g = none → w'.heap[g]? = w.heap[g]?
  os : w'.os = w.os
  tape : w'.tape = w.tape
  output : w'.output = w.output
theorem Stp.refl (Γ : Gh) (w : World) : Stp Γ w Γ w := ⟨.refl Γ, fun _ _ h => h, fun _ _ _ _ => rfl, Nat.le_refl _, fun _ _ _ => rfl, rfl, rfl, rfl⟩
theorem Stp.trans {Γ Γ' Γ'' : Gh} {w w' w'' : World} (h : Stp Γ w Γ' w') (h' : Stp Γ' w' Γ'' w'') : Stp Γ w Γ'' w'' := by
  refine ⟨h.le.trans h'.le, ?_, ?_, Nat.le_trans h.size h'.size, ?_, h'.os.trans h.os, h'.tape.trans h.tape, h'.output.trans h.output⟩
  · intro g hg ho; exact h'.own g (Nat.lt_of_lt_of_le hg h.size) (h.own g hg ho)
  · intro g o hg ho; exact (h'.newM g o (Nat.lt_of_lt_of_le hg h.size) (h.own g hg ho)).trans (h.newM g o hg ho)
  · intro g hg ho; exact (h'.heap g (Nat.lt_of_lt_of_le hg h.size) (h.own g hg ho)).trans (h.heap g hg ho)
theorem Rel.drew {Γ : Gh} {H : Heap} {w : World} (h : Rel Γ H w) (n : Nat) : Rel Γ H { w with drawn := n } :=
  ⟨h.mem, h.blk, h.dom, h.owned⟩
theorem Stp.drew (Γ : Gh) (w : World) (n : Nat) : Stp Γ w Γ { w with drawn := n } := ⟨.refl Γ, fun _ _ h => h, fun _ _ _ _ => rfl, Nat.le_refl _, fun _ _ _ => rfl, rfl, rfl, rfl⟩
end Go.Ev
namespace Go.Ev
set_option linter.unusedVariables false
set_option linter.unusedSimpArgs false
open Go
mutual
def chkV : AVal → Value → Bool
  | .int k n, .int k' n' => decide (k = k') && decide (n = n')
  | .bool b, .bool b' => b == b'
  | .str s, .string b => decide (s = b.data.toList)
  | .nilp, .pointer none => true
  | .nili, .nilIface => true
  | .nilf, .nilFunc => true
  | .nilm, .map none => true
  | .lst [] _, .slice none 0 0 => true
  | .agg cs, .agg ds => chkVL cs ds.toList && ds.toList.all (·.oneCell')
  | .tup cs, .tuple ds => chkVL cs ds.toList
  | .iface t v, .iface t' c => decide (t = t') && chkV v c
  | .fn f [], .func (.func g) fi ca => decide (f = g) && fi.toList.isEmpty && ca.toList.isEmpty
  | _, _ => false
def chkVL : List AVal → List Value → Bool
  | [], [] => true
  | v :: vs, c :: cs => chkV v c && chkVL vs cs
  | _, _ => false
end
theorem ofToList {α : Type} (a : Array α) : a = a.toList.toArray := by simp
theorem chkV_both (Γ : Gh) : (∀ v c, chkV v c = true → Rep Γ v c) ∧ (∀ vs cs, chkVL vs cs = true → Reps Γ vs cs) := by
  have key : ∀ v, (∀ c, chkV v c = true → Rep Γ v c) := by
    intro v
    induction v using AVal.rec (motive_2 := fun vs => ∀ cs, chkVL vs cs = true → Reps Γ vs cs) with
    | nil =>
      rename_i cs hc
      cases cs with
      | nil => exact Reps.nil Γ
      | cons c cs => simp [chkVL] at hc
    | cons v vs ih1 ih2 =>
      rename_i cs hc
      cases cs with
      | nil => simp [chkVL] at hc
      | cons c cs =>
        simp only [chkVL, Bool.and_eq_true] at hc
        exact Reps.cons (ih1 c hc.1) (ih2 cs hc.2)
    | int k n => intro c hc; cases c <;> simp [chkV] at hc; obtain ⟨rfl, rfl⟩ := hc; exact .int k n
    | bool b => intro c hc; cases c <;> simp [chkV] at hc; subst hc; exact .bool b
    | str s =>
      intro c hc; cases c <;> simp [chkV] at hc
      rename_i b; obtain ⟨d⟩ := b; subst hc
      have := Rep.str (Γ := Γ) d.toList
      simpa using this
    | nilp =>
      intro c hc; cases c <;> (try (simp [chkV] at hc; done))
      rename_i a; cases a with
      | none => exact .nilp
      | some a => simp [chkV] at hc
    | nili => intro c hc; cases c <;> simp [chkV] at hc; exact .nili
    | nilf => intro c hc; cases c <;> simp [chkV] at hc; exact .nilf
    | nilm =>
      intro c hc; cases c <;> (try (simp [chkV] at hc; done))
      rename_i a; cases a with
      | none => exact .nilm
      | some a => simp [chkV] at hc
    | lst xs e =>
      intro c hc
      cases xs with
      | cons => cases c <;> simp [chkV] at hc
      | nil =>
        cases c <;> (try (simp [chkV] at hc; done))
        rename_i a l cp
        cases a with
        | some a => simp [chkV] at hc
        | none =>
          cases l with
          | succ l => simp [chkV] at hc
          | zero => cases cp with
            | succ cp => simp [chkV] at hc
            | zero => exact .lstN e
    | agg cs ih =>
      intro c hc; cases c <;> simp only [chkV, Bool.false_eq_true, Bool.and_eq_true] at hc
      rename_i ds
      have h := ih _ hc.1
      rw [ofToList ds]
      exact .agg h.1 h.2 (List.all_eq_true.1 hc.2)
    | tup cs ih =>
      intro c hc; cases c <;> simp only [chkV, Bool.false_eq_true] at hc
      rename_i ds
      have h := ih _ hc
      rw [ofToList ds]
      exact .tup h.1 h.2
    | iface t v ih =>
      intro c hc; cases c <;> simp [chkV] at hc
      obtain ⟨rfl, hc⟩ := hc
      exact .iface t (ih _ hc)
    | fn f cs ih =>
      intro c hc
      cases cs with
      | cons => cases c <;> simp [chkV] at hc
      | nil =>
        cases c <;> (try (simp [chkV] at hc; done))
        rename_i fn fi ca
        cases fn <;> (try (simp [chkV] at hc; done))
        simp [chkV] at hc
        obtain ⟨⟨rfl, h1⟩, h2⟩ := hc
        subst h1; subst h2
        exact .fn f (cs := []) (ds := []) rfl (by simp)
    | _ => intro c hc; cases c <;> simp [chkV] at hc
  refine ⟨key, ?_⟩
  intro vs
  induction vs with
  | nil => intro cs hc; cases cs with
    | nil => exact Reps.nil Γ
    | cons c cs => simp [chkVL] at hc
  | cons v vs ih => intro cs hc; cases cs with
    | nil => simp [chkVL] at hc
    | cons c cs =>
      simp only [chkVL, Bool.and_eq_true] at hc
      exact Reps.cons (key v c hc.1) (ih cs hc.2)
theorem chkV_rep (Γ : Gh) {v : AVal} {c : Value} (h : chkV v c = true) : Rep Γ v c := (chkV_both Γ).1 v c h
theorem y7b (Γ : Gh) {vs : List AVal} {cs : List Value} (h : chkVL vs cs = true) : Reps Γ vs cs := (chkV_both Γ).2 vs cs h
def chkO (x : AOpd) (y : Operand) : Bool :=
  match x with
  | .t n => match y with
    | .tmp m => decide (n = m)
    | _ => false
  | .c v => match y with
    | .const c => chkV v c
    | .func f => chkV v (.func (.func f) #[] #[])
    | _ => false
def chkOs : List AOpd → List Operand → Bool
  | [], [] => true
  | x :: xs, y :: ys => chkO x y && chkOs xs ys
  | _, _ => false
def chkOpt : Option AOpd → Option Operand → Bool
  | none, none => true
  | some x, some y => chkO x y
  | _, _ => false
def aggB (P : Program) (t : TypeId) : Option Bool :=
  match P.underlying t with
  | some (.struct _) | some (.array _ _) => some true
  | some _ => some false
  | none => none
def sizeB (P : Program) (t n : Nat) : Bool :=
  match P.info? t with
  | some i => decide (i.size = n)
  | none => false
def bytesB (P : Program) (t n : Nat) : Bool :=
  match P.info? t with
  | some i => decide (i.bytes = n)
  | none => false
def szB (P : Program) (t : TypeId) (sz : Option Nat) : Bool :=
  match sz with
  | none => decide (aggB P t = some false)
  | some n => decide (aggB P t = some true) && sizeB P t n
def zeroB (P : Program) (t : TypeId) (zs : List AVal) : Bool :=
  match P.info? t with
  | some i => match i.zero with
    | some z => chkVL zs z.cells.toList && z.cells.toList.all (·.oneCell')
    | none => false
  | none => false
def zvalB (P : Program) (t : TypeId) (v : AVal) : Bool :=
  match P.info? t with
  | some i => match i.zero with
    | some z => chkV v z && z.cells.toList.all (·.oneCell')
    | none => false
  | none => false
def isStrB (P : Program) (t : TypeId) : Bool :=
  match P.underlying t with
  | some .string => true
  | _ => false
def elemB (P : Program) (t : TypeId) (q : TypeId → Bool) : Bool :=
  match P.underlying t with
  | some (.slice e) => q e
  | _ => false
def arrB (P : Program) (t : TypeId) (len : Nat) (q : TypeId → Bool) : Bool :=
  match P.underlying t with
  | some (.array n e) => decide (n = len) && q e
  | _ => false
def fieldB (P : Program) (t i : Nat) (q : Field → Bool) : Bool :=
  match P.underlying t with
  | some (.struct fs) => match fs[i]? with
    | some f => q f
    | none => false
  | _ => false
def plainD : TypeDesc → Bool
  | .int _ | .bool | .string => true
  | _ => false
def constNil (P : Program) (k : NilK) (t : TypeId) (c : Operand) : Bool :=
  match c with
  | .const c => match P.underlying t with
    | some (.pointer _) => match k, c with
      | .ptr, .pointer none => true
      | _, _ => false
    | some (.slice _) => match k, c with
      | .slice, .slice none 0 0 => true
      | _, _ => false
    | some (.map _ _) => match k, c with
      | .map, .map none => true
      | _, _ => false
    | some (.func _ _ _) => match k, c with
      | .fn, .nilFunc => true
      | _, _ => false
    | some (.interface _) => match k, c with
      | .iface, .nilIface => true
      | _, _ => false
    | _ => false
  | _ => false
def negB (neg : Bool) (op : BinOp) : Bool := if neg then decide (op = .neq) else decide (op = .eql)
def chkLenC (P : Program) (x : AOpd) (t : TypeId) : Bool :=
  match x with
  | .c (.int .i64 n) => match P.underlying t with
    | some (.array m _) => decide (n = m)
    | some (.pointer e) => match P.underlying e with
      | some (.array m _) => decide (n = m)
      | _ => false
    | _ => false
  | _ => false
def chkMv (P : Program) (x : AOpd) (op : Op) : Bool :=
  match op with
  | .move y => chkO x y
  | .assign y => chkO x y
  | .call c => match c.callee with
    | .builtin .len => match c.argTypes[0]?, c.args[0]? with
      | some t, some _ => chkLenC P x t
      | _, _ => false
    | .builtin .cap => match c.argTypes[0]?, c.args[0]? with
      | some t, some _ => chkLenC P x t
      | _, _ => false
    | _ => false
  | _ => false
def chkParts (place : Nat → Option (Nat × Nat)) : List (Nat × Nat × AOpd) → List (Nat × Operand) → Bool
  | [], [] => true
  | (off, sz, x) :: r, (i, y) :: s => decide (place i = some (off, sz)) && chkO x y && chkParts place r s
  | _, _ => false
def placesOf (P : Program) (t : TypeId) : Option (Nat → Option (Nat × Nat)) :=
  match P.underlying t with
  | some (.struct fs) => match fs.toList.mapM (fun f => (P.info? f.type).map fun i => (f.offset, i.size)) with
    | some l => some fun i => l[i]?
    | none => none
  | some (.array _ e) => match P.info? e with
    | some i => some fun k => some (k * i.size, i.size)
    | none => none
  | _ => none
def scalB (P : Program) (q : SK) (e : TypeId) : Bool :=
  match q, P.underlying e with
  | .i, some (.int _) => true
  | .b, some .bool => true
  | .s, some .string => true
  | _, _ => false
def fieldsB (P : Program) : Nat → List SK → List Field → Bool
  | _, [], [] => true
  | i, q :: qs, f :: fs => decide (f.offset = i) && decide (f.name ≠ "_") && scalB P q f.type && szB P f.type none && fieldsB P (i + 1) qs fs
  | _, _, _ => false
def eqB (P : Program) (t : TypeId) (ks : List SK) : Bool :=
  !P.eqGuardType P.depth t && match P.underlying t with
    | some (.array n e) => decide (ks.length = n) && ks.all (fun q => scalB P q e) && szB P e none && sizeB P e 1
    | some (.struct fs) => fieldsB P 0 ks fs.toList && !P.stoodInHeld t
    | _ => false
def chkP (P : Program) (p : AOp) (op : Op) : Bool :=
  match p with
  | .mv x => chkMv P x op
  | .pick c a b => match op with
    | .pick c' a' b' => chkO c c' && chkO a a' && chkO b b'
    | _ => false
  | .bin b x y => match op with
    | .binOp b' _ x' y' _ => decide (b = b') && chkO x x' && chkO y y'
    | _ => false
  | .eqv neg d x y => match op with
    | .binOp b t x' y' _ => negB neg b && chkO x x' && chkO y y' && (match d with | .bool => decide ((P.underlying t).map plainD = some true) && (match P.underlying t with | some .bool => true | _ => false) | .ints ks => eqB P t ks)
    | _ => false
  | .isnil k neg x => match op with
    | .binOp b t x' y' _ => negB neg b && ((chkO x x' && constNil P k t y') || (chkO x y' && constNil P k t x'))
    | _ => false
  | .un o x => match op with
    | .unOp o' _ x' => decide (o = o') && chkO x x'
    | _ => false
  | .cvi k x => match op with
    | .convert s d y => chkO x y && (P.underlying s).isSome && (match P.underlying d with | some (.int k') => decide (k = k') | _ => false)
    | _ => false
  | .cvs x => match op with
    | .convert s d y => chkO x y && isStrB P s && isStrB P d
    | _ => false
  | .mki t x => match op with
    | .makeInterface t' y => decide (t = t') && chkO x y && (match P.underlying t with | some (.interface _) => false | some _ => true | none => false)
    | _ => false
  | .mkf f caps => match op with
    | .makeFunc (.func f') first caps' => decide (f = f') && first.toList.isEmpty && chkOs caps caps'.toList
    | _ => false
  | .fld off sz x => match op with
    | .field t y i => chkO x y && fieldB P t i fun f => decide (f.offset = off) && szB P f.type sz
    | _ => false
  | .ixs x i => match op with
    | .index t y j => chkO x y && chkO i j && isStrB P t
    | _ => false
  | .ixa len es sz x i => match op with
    | .index t y j => chkO x y && chkO i j && arrB P t len fun e => sizeB P e es && szB P e sz
    | _ => false
  | .fa off x => match op with
    | .fieldAddr t y i => chkO x y && fieldB P t i fun f => decide (f.offset = off) && (match P.info? f.type with | some i => decide (0 < i.size) | none => false)
    | _ => false
  | .nc x => match op with
    | .nilCheck y => chkO x y
    | _ => false
  | .iaa len es x i => match op with
    | .indexAddr t y j => chkO x y && chkO i j && arrB P t len fun e => sizeB P e es
    | _ => false
  | .ext i x => match op with
    | .extract y j => chkO x y && decide (i = j)
    | _ => false
  | .build zs parts => match op with
    | .build t ps => zeroB P t zs && (match placesOf P t with | some pl => chkParts pl parts ps.toList | none => false)
    | _ => false
  | .mm isMax x y => match op with
    | .call c => (match c.callee with | .builtin b => decide (b = if isMax then .max else .min) | _ => false) && (match c.args.toList with | [x', y'] => chkO x x' && chkO y y' | _ => false)
    | _ => false
  | .slcs x lo hi => match op with
    | .slice t y lo' hi' mx => chkO x y && chkOpt lo lo' && chkOpt hi hi' && mx.isNone && isStrB P t
    | _ => false
  | _ => false
def EnvRel (Γ : Gh) (e : Env) (tm : Array Value) : Prop := ∀ t v, e.get t = some v → Rep Γ v (tm.getD t undef)
theorem EnvRel.mono {Γ Γ' : Gh} (hl : Γ.le Γ') {e : Env} {tm : Array Value} (h : EnvRel Γ e tm) : EnvRel Γ' e tm := fun t v hv => (h t v hv).mono hl
section
variable {P : Program} {Γ : Gh} {e : Env} {a : Act}
theorem ev_rep (he : EnvRel Γ e a.tmps) {x : AOpd} {y : Operand} {v : AVal} (hk : chkO x y = true) (hv : x.ev e = some v) : Rep Γ v (a.eval y) := by
  cases x with
  | t n =>
    cases y <;> simp [chkO] at hk
    subst hk
    exact he _ _ hv
  | c u =>
    simp [AOpd.ev] at hv
    subst hv
    cases y <;> simp only [chkO, Bool.false_eq_true] at hk
    · exact chkV_rep Γ hk
    · exact chkV_rep Γ hk
theorem evs_reps (he : EnvRel Γ e a.tmps) : ∀ {xs : List AOpd} {ys : List Operand} {vs : List AVal}, chkOs xs ys = true → evs e xs = some vs → Reps Γ vs (ys.map a.eval)
  | [], [], vs, _, hv => by simp [evs] at hv; subst hv; exact Reps.nil Γ
  | x :: xs, y :: ys, vs, hk, hv => by
    simp only [chkOs, Bool.and_eq_true] at hk
    simp only [evs] at hv
    split at hv
    · rename_i v hx
      split at hv
      · rename_i us hu
        cases hv
        exact Reps.cons (ev_rep he hk.1 hx) (evs_reps he hk.2 hu)
      · cases hv
    · cases hv
  | [], _ :: _, _, hk, _ => by simp [chkOs] at hk
  | _ :: _, [], _, hk, _ => by simp [chkOs] at hk
theorem y4p {t : TypeId} {b : Bool} (h : aggB P t = some b) (w : World) : (isAgg t).run P w = .ok b w := by
  unfold aggB at h
  unfold isAgg
  split at h
  · rename_i fs hu; cases h; simp [run_underlying hu]
  · rename_i n e hu; cases h; simp [run_underlying hu]
  · rename_i d h1 h2 hu
    cases h
    simp only [Sem.run_bind, run_underlying hu, Result.andThen_ok]
    rfl
  · cases h
theorem run_sizeB {t n : Nat} (h : sizeB P t n = true) (w : World) : (sizeOf t).run P w = .ok n w := by
  unfold sizeB at h
  split at h
  · rename_i i hi
    have : i.size = n := by simpa using h
    simp [sizeOf, run_typeInfo _ hi, this]
  · cases h
theorem run_zeroB {t : TypeId} {zs : List AVal} (h : zeroB P t zs = true) (w : World) : ∃ z, (zeroValue t).run P w = .ok z w ∧ Reps Γ zs z.cells.toList ∧ ∀ c, c ∈ z.cells.toList → c.oneCell' = true := by
  unfold zeroB at h
  split at h
  · rename_i i hi
    split at h
    · rename_i z hz
      simp only [Bool.and_eq_true] at h
      exact ⟨z, by simp [zeroValue, run_typeInfo _ hi, hz], y7b Γ h.1, List.all_eq_true.1 h.2⟩
    · cases h
  · cases h
theorem run_zvalB {t : TypeId} {v : AVal} (h : zvalB P t v = true) (w : World) : ∃ z, (zeroValue t).run P w = .ok z w ∧ Rep Γ v z ∧ ∀ c, c ∈ z.cells.toList → c.oneCell' = true := by
  unfold zvalB at h
  split at h
  · rename_i i hi
    split at h
    · rename_i z hz
      simp only [Bool.and_eq_true] at h
      exact ⟨z, by simp [zeroValue, run_typeInfo _ hi, hz], chkV_rep Γ h.1, List.all_eq_true.1 h.2⟩
    · cases h
  · cases h
theorem exec_v {o : Oper} {w : World} {s : Sem Value} {c : Value} (h : execOp a.eval o = (do pure (Next.value (← s)))) (hs : s.run P w = .ok c w) :
    (execOp a.eval o).run P w = .ok (.value c) w := by
  rw [h]; simp [hs]
theorem y4q {s : List UInt8} : (ByteArray.mk s.toArray).size = s.length := by simp [ByteArray.size]
theorem y5t {s : List UInt8} : (ByteArray.mk s.toArray).toList = s := by
  rw [ByteArray.toList_eq]
theorem bin_sound {op : BinOp} {t : TypeId} {x y v : AVal} {c d : Value} {w : World} {X Y : Operand} (hx : Rep Γ x c) (hy : Rep Γ y d) (hv : binA op x y = some v) :
    ∃ r, (do eqGuard op t X Y c d; Go.binOp op t c d : Sem Value).run P w = .ok r w ∧ Rep Γ v r := by
  unfold binA at hv
  split at hv
  · rename_i k a k' b
    cases hx; cases hy
    split at hv
    · unfold shiftA at hv
      split at hv
      · cases hv
      · rename_i hb
        cases hv
        refine ⟨_, ?_, .int _ _⟩
        simp [eqGuard, Go.binOp, Op.shift, hb]
    · unfold shiftA at hv
      split at hv
      · cases hv
      · rename_i hb
        cases hv
        refine ⟨_, ?_, .int _ _⟩
        simp [eqGuard, Go.binOp, Op.shift, hb]
    · rename_i h1 h2
      split at hv
      · rename_i hk
        subst hk
        cases op <;> first | exact absurd rfl h1 | exact absurd rfl h2 | skip
        all_goals simp [binInt, bitsA] at hv
        all_goals first
          | (obtain ⟨hb, rfl⟩ := hv; refine ⟨_, ?_, .int _ _⟩; simp [eqGuard, Go.binOp, Op.intDiv, hb]; done)
          | (subst hv; refine ⟨_, ?_, by constructor⟩; simp [eqGuard, Go.binOp, Op.intArith, Op.intBits, Op.intCmp, bne]; done)
          | (subst hv; refine ⟨_, ?_, .bool _⟩; simp [eqGuard, Go.binOp, Op.intCmp]; rfl)
      · cases hv
  · rename_i a b
    cases hx; cases hy
    by_cases hadd : op = .add
    · subst hadd
      simp [binStr] at hv
      obtain ⟨hb, rfl⟩ := hv
      refine ⟨.string ⟨(a ++ b).toArray⟩, ?_, .str _⟩
      have hm : IntKind.i64.max = 9223372036854775807 := by decide
      have hab : (⟨a.toArray⟩ : ByteArray) ++ (⟨b.toArray⟩ : ByteArray) = ⟨(a ++ b).toArray⟩ := by apply ByteArray.ext; simp
      simp [eqGuard, Go.binOp, Op.stringOp, y4q, hm, hab]
      omega
    · cases op <;> first | exact absurd rfl hadd | skip
      all_goals simp [binStr] at hv
      all_goals (subst hv; refine ⟨_, ?_, .bool _⟩; simp [eqGuard, Go.binOp, Op.stringOp, y5t]; done)
  · cases hv
inductive NilEq : TypeDesc → Value → Value → Bool → Prop
  | b (a b : Bool) : NilEq .bool (.bool a) (.bool b) (a == b)
  | p1 (e : TypeId) : NilEq (.pointer e) (.pointer none) (.pointer none) true
  | p2 (e : TypeId) (a : Addr) : NilEq (.pointer e) (.pointer (some a)) (.pointer none) false
  | p3 (e : TypeId) (a : Addr) : NilEq (.pointer e) (.pointer none) (.pointer (some a)) false
  | i1 (ms : Array (String × TypeId)) : NilEq (.interface ms) .nilIface .nilIface true
  | i2 (ms : Array (String × TypeId)) (u : TypeId) (v : Value) : NilEq (.interface ms) (.iface u v) .nilIface false
  | i3 (ms : Array (String × TypeId)) (u : TypeId) (v : Value) : NilEq (.interface ms) .nilIface (.iface u v) false
  | s1 (e : TypeId) : NilEq (.slice e) (.slice none 0 0) (.slice none 0 0) true
  | s2 (e : TypeId) (a : Addr) (l c : Nat) : NilEq (.slice e) (.slice (some a) l c) (.slice none 0 0) false
  | s3 (e : TypeId) (a : Addr) (l c : Nat) : NilEq (.slice e) (.slice none 0 0) (.slice (some a) l c) false
  | m1 (k e : TypeId) : NilEq (.map k e) (.map none) (.map none) true
  | m2 (k e : TypeId) (g : Nat) : NilEq (.map k e) (.map (some g)) (.map none) false
  | m3 (k e : TypeId) (g : Nat) : NilEq (.map k e) (.map none) (.map (some g)) false
  | f1 (a b : Array TypeId) (v : Bool) : NilEq (.func a b v) .nilFunc .nilFunc true
  | f2 (a b : Array TypeId) (v : Bool) (f : Fn) (x y : Array Value) : NilEq (.func a b v) (.func f x y) .nilFunc false
  | f3 (a b : Array TypeId) (v : Bool) (f : Fn) (x y : Array Value) : NilEq (.func a b v) .nilFunc (.func f x y) false
theorem y42 {t : TypeId} {c d : Value} {w : World} {D : TypeDesc} {r : Bool} (hu : P.underlying t = some D) (h : NilEq D c d r) : (Op.equal t c d).run P w = .ok r w := by
  show (Op.equalIn (9999 + 1) t c d).run P w = _
  rw [Op.equalIn]
  rw [Sem.run_bind, run_underlying hu, Result.andThen_ok]
  cases h <;> rfl
theorem cmp_run {op : BinOp} {t : TypeId} {c d : Value} {w : World} {X Y : Operand} {r neg : Bool}
    (hb : Go.binOp .eql t c d = (do pure (.bool (← Op.equal t c d)))) (hb' : Go.binOp .neq t c d = (do pure (.bool (!(← Op.equal t c d)))))
    (hop : negB neg op = true) (he : (Op.equal t c d).run P w = .ok r w) (hg : (eqGuard op t X Y c d).run P w = .ok () w) :
    (do eqGuard op t X Y c d; Go.binOp op t c d : Sem Value).run P w = .ok (.bool (if neg then !r else r)) w := by
  rw [Sem.run_bind, hg, Result.andThen_ok]
  unfold negB at hop
  cases neg
  · simp at hop; subst hop; rw [hb]; simp [he]
  · simp at hop; subst hop; rw [hb']; simp [he]
def isConstO : Operand → Bool
  | .const _ => true
  | _ => false
theorem y6v {op : BinOp} {t : TypeId} {w : World} {X Y : Operand} (h : isConstO X = true ∨ isConstO Y = true) :
    (eqGuard op t X Y .nilIface .nilIface).run P w = .ok () w := by
  have hx : (isConstO X || isConstO Y) = true := by rcases h with h | h <;> simp [h]
  cases op <;> first
    | rfl
    | (cases X <;> cases Y <;> first | rfl | (simp [isConstO] at hx))
theorem y3v {op : BinOp} {t : TypeId} {c d : Value} {w : World} {X Y : Operand} (h : match c, d with | .nilIface, .nilIface => isConstO X = true ∨ isConstO Y = true | .agg _, .agg _ => False | _, _ => True) :
    (eqGuard op t X Y c d).run P w = .ok () w := by
  cases c <;> cases d
  all_goals first
    | exact y6v h
    | exact absurd h id
    | (cases op <;> rfl)
theorem y6s {k : NilK} {op : BinOp} {t : TypeId} {x : AVal} {c : Value} {w : World} {X Y : Operand} {r neg : Bool} (hx : Rep Γ x c) (hv : isNil k x = some r) (hn : negB neg op = true) :
    (constNil P k t Y = true → (do eqGuard op t X Y c (a.eval Y); Go.binOp op t c (a.eval Y) : Sem Value).run P w = .ok (.bool (if neg then !r else r)) w) ∧
    (constNil P k t X = true → (do eqGuard op t X Y (a.eval X) c; Go.binOp op t (a.eval X) c : Sem Value).run P w = .ok (.bool (if neg then !r else r)) w) := by
  constructor
  all_goals
    intro hc
    unfold constNil at hc
    split at hc
    case h_2 => cases hc
    rename_i c0
    simp only [Act.eval]
    split at hc
    all_goals first | (cases hc; done) | rename_i hu
    all_goals
      split at hc
      all_goals first | (cases hc; done) | skip
    all_goals
      cases hx <;> simp only [isNil, reduceCtorEq, Option.some.injEq] at hv
    all_goals first
      | (subst hv; refine cmp_run rfl rfl hn (y42 hu (by constructor)) (y3v (by simp [isConstO])); done)
      | (split at hv <;> first | (cases hv; done) | skip
         rename_i hlt
         cases hv
         rename_i hT ha
         obtain ⟨ad, rfl⟩ := Option.isSome_iff_exists.1 (ha hlt)
         exact cmp_run rfl rfl hn (y42 hu (by constructor)) (y3v (by simp [isConstO])))
      | (rename_i xs _ _ _ _ _ _ _ _ _ _ _ _ _
         cases xs with
         | nil => cases hv
         | cons y ys =>
           simp only [isNil, Option.some.injEq] at hv
           subst hv
           exact cmp_run rfl rfl hn (y42 hu (by constructor)) (y3v (by simp [isConstO])))
      | skip
theorem y3k {off : Nat} {sz : Option Nat} {t : TypeId} {cs : List AVal} {ds : List Value} {v : AVal} {w : World} (hr : Reps Γ cs ds) (h1 : ∀ d, d ∈ ds → d.oneCell' = true) (hs : szB P t sz = true) (hv : part off sz cs = some v) :
    ∃ c, (Go.part t ds.toArray off).run P w = .ok c w ∧ Rep Γ v c := by
  unfold part at hv
  unfold szB at hs
  cases sz with
  | none =>
    simp at hs hv
    obtain ⟨d, hd, hrep⟩ := hr.get hv
    refine ⟨d, ?_, hrep⟩
    simp [Go.part, y4p hs, hd]
  | some n =>
    simp at hs hv
    obtain ⟨hle, rfl⟩ := hv
    refine ⟨.agg ((ds.drop off).take n).toArray, ?_, ?_⟩
    · simp [Go.part, y4p hs.1, run_sizeB hs.2]
    · exact .agg (((hr.drop off).take n).1) (((hr.drop off).take n).2) (fun d hd => h1 d (List.mem_of_mem_drop (List.mem_of_mem_take hd)))
theorem opt_reps (he : EnvRel Γ e a.tmps) {x : Option AOpd} {y : Option Operand} {v : Option AVal} (hk : chkOpt x y = true) (hv : optEv e x = some v) :
    (v = none ∧ y = none) ∨ ∃ u z, v = some u ∧ y = some z ∧ Rep Γ u (a.eval z) := by
  cases x with
  | none =>
    cases y <;> simp [chkOpt] at hk
    simp [optEv] at hv
    exact .inl ⟨hv.symm, rfl⟩
  | some x =>
    cases y <;> simp only [chkOpt, Bool.false_eq_true] at hk
    simp only [optEv] at hv
    split at hv
    · rename_i u hu
      cases hv
      exact .inr ⟨_, _, rfl, rfl, ev_rep he hk hu⟩
    · cases hv
end
end Go.Ev
namespace Go.Ev
set_option linter.unusedVariables false
set_option linter.unusedSimpArgs false
open Go
section
variable {P : Program} {Γ : Gh} {e : Env} {a : Act}
theorem y6q {t : TypeId} {n m : Nat} {x : Value} {ty : TypeId} {args : Array Value} {ts : Array TypeId} (w : World) (ht : ts[0]? = some t) (hx : args[0]? = some x)
    (h : P.underlying t = some (.array m n) ∨ ∃ e, P.underlying t = some (.pointer e) ∧ P.underlying e = some (.array m n)) :
    (Builtin.len_ ts ty args).run P w = .ok (goInt m) w ∧ (Builtin.cap_ ts ty args).run P w = .ok (goInt m) w := by
  rcases h with h | ⟨e, h, h'⟩
  · simp [Builtin.len_, Builtin.cap_, ht, hx, run_underlying h]
  · simp [Builtin.len_, Builtin.cap_, ht, hx, run_underlying h, run_underlying h']
theorem y5f {x : AOpd} {t : TypeId} {v : AVal} (h : chkLenC P x t = true) (hv : x.ev e = some v) :
    ∃ m n, v = .int .i64 (m : Nat) ∧ (P.underlying t = some (.array m n) ∨ ∃ e, P.underlying t = some (.pointer e) ∧ P.underlying e = some (.array m n)) := by
  unfold chkLenC at h
  split at h
  · rename_i n
    simp [AOpd.ev] at hv
    subst hv
    split at h
    · rename_i m k hu
      simp at h; subst h
      exact ⟨m, k, rfl, .inl hu⟩
    · rename_i e' hu
      split at h
      · rename_i m k hu'
        simp at h; subst h
        exact ⟨m, k, rfl, .inr ⟨e', hu, hu'⟩⟩
      · cases h
    · cases h
  · cases h
theorem mv_sound {o : Oper} {x : AOpd} {v : AVal} {w : World} (he : EnvRel Γ e a.tmps) (hk : chkMv P x o.op = true) (hv : x.ev e = some v) :
    ∃ c, (execOp a.eval o).run P w = .ok (.value c) w ∧ Rep Γ v c := by
  obtain ⟨dst, op, ty, pos, after, guard⟩ := o
  simp only at hk ⊢
  unfold chkMv at hk
  split at hk
  · exact ⟨_, rfl, ev_rep he hk hv⟩
  · exact ⟨_, rfl, ev_rep he hk hv⟩
  · rename_i c
    split at hk
    · rename_i hcal
      split at hk
      · rename_i t x0 ht hx0
        obtain ⟨m, n, rfl, hu⟩ := y5f hk hv
        refine ⟨goInt m, ?_, .int _ _⟩
        simp only [execOp, resolve, hcal, invoke, builtin]
        have := (y6q (P := P) (ty := ty) (args := c.args.map a.eval) (x := a.eval x0) w ht (by simp [hx0]) hu).1
        simp [this]
      · cases hk
    · rename_i hcal
      split at hk
      · rename_i t x0 ht hx0
        obtain ⟨m, n, rfl, hu⟩ := y5f hk hv
        refine ⟨goInt m, ?_, .int _ _⟩
        simp only [execOp, resolve, hcal, invoke, builtin]
        have := (y6q (P := P) (ty := ty) (args := c.args.map a.eval) (x := a.eval x0) w ht (by simp [hx0]) hu).2
        simp [this]
      · cases hk
    · cases hk
  · cases hk
theorem run_bnd {v : AVal} {c : Value} {y n : Nat} (code : BoundsCode) (w : World) (hr : Rep Γ v c) (h : bnd y v = some n) : (Instr.sliceBound c y code).run P w = .ok n w ∧ n ≤ y := by
  cases v <;> simp only [bnd, reduceCtorEq] at h
  rename_i k i
  split at h
  · rename_i hi
    cases h
    cases hr
    refine ⟨by simp [Instr.sliceBound, asIntOf, hi], by omega⟩
  · cases h
theorem y33 {b0 : Bool} {len cap l h m : Nat} {lo hi mx : Option AVal} {lo' hi' mx' : Option Operand} (w : World) (hlc : len ≤ cap)
    (h1 : (lo = none ∧ lo' = none) ∨ ∃ u z, lo = some u ∧ lo' = some z ∧ Rep Γ u (a.eval z)) (h2 : (hi = none ∧ hi' = none) ∨ ∃ u z, hi = some u ∧ hi' = some z ∧ Rep Γ u (a.eval z))
    (h3 : (mx = none ∧ mx' = none) ∨ ∃ u z, mx = some u ∧ mx' = some z ∧ Rep Γ u (a.eval z)) (hb : bounds len cap lo hi mx = some (l, h, m)) :
    (Instr.sliceBounds b0 len cap (lo'.map a.eval) (hi'.map a.eval) (mx'.map a.eval)).run P w = .ok (l, h, m) w ∧ l ≤ h ∧ h ≤ m ∧ m ≤ cap := by
  unfold bounds at hb
  split at hb
  · cases hb
  rename_i m' hm
  split at hb
  · cases hb
  rename_i h' hh
  split at hb
  · cases hb
  rename_i l' hl
  cases hb
  have em : (∀ x, mx' = some x → ∀ code, (Instr.sliceBound (a.eval x) cap code).run P w = .ok m w) ∧ (mx' = none → m = cap) ∧ m ≤ cap := by
    rcases h3 with ⟨rfl, rfl⟩ | ⟨u, z, rfl, rfl, hr⟩
    · simp at hm; subst hm; exact ⟨by simp, fun _ => rfl, Nat.le_refl _⟩
    · have := fun code => run_bnd (P := P) code w hr hm
      exact ⟨fun x hx code => by cases hx; exact (this code).1, by simp, (this .index).2⟩
  have eh : (∀ x, hi' = some x → ∀ code, (Instr.sliceBound (a.eval x) m code).run P w = .ok h w) ∧ (hi' = none → h = len ∧ mx' = none) ∧ h ≤ m := by
    rcases h2 with ⟨rfl, rfl⟩ | ⟨u, z, rfl, rfl, hr⟩
    · simp at hh
      obtain ⟨hn, rfl⟩ := hh
      have hmn : mx' = none := by
        rcases h3 with ⟨rfl, rfl⟩ | ⟨u, z, rfl, rfl, hr⟩
        · rfl
        · simp at hn
      refine ⟨by simp, fun _ => ⟨rfl, hmn⟩, ?_⟩
      have := em.2.1 hmn
      omega
    · have := fun code => run_bnd (P := P) code w hr hh
      exact ⟨fun x hx code => by cases hx; exact (this code).1, by simp, (this .index).2⟩
  have el : (∀ x, lo' = some x → ∀ code, (Instr.sliceBound (a.eval x) h code).run P w = .ok l w) ∧ (lo' = none → l = 0) ∧ l ≤ h := by
    rcases h1 with ⟨rfl, rfl⟩ | ⟨u, z, rfl, rfl, hr⟩
    · simp at hl; subst hl; exact ⟨by simp, fun _ => rfl, Nat.zero_le _⟩
    · have := fun code => run_bnd (P := P) code w hr hl
      exact ⟨fun x hx code => by cases hx; exact (this code).1, by simp, (this .index).2⟩
  refine ⟨?_, el.2.2, eh.2.2, em.2.2⟩
  unfold Instr.sliceBounds
  cases hmx : mx' with
  | none =>
    have e1 := em.2.1 hmx
    cases hhi : hi' with
    | none =>
      have e2 := (eh.2.1 hhi).1
      cases hlo : lo' with
      | none => have e3 := el.2.1 hlo; simp [e1, e2, e3]
      | some x => have := el.1 x hlo; simp [e1, e2]; rw [e2] at this; simp [this]
    | some y =>
      have e2 := eh.1 y hhi
      rw [e1] at e2
      cases hlo : lo' with
      | none => have e3 := el.2.1 hlo; simp [e1, e2, e3]
      | some x => have := el.1 x hlo; simp [e1, e2, this]
  | some z =>
    have e1 := em.1 z hmx
    cases hhi : hi' with
    | none => exact absurd (eh.2.1 hhi).2 (by simp [hmx])
    | some y =>
      have e2 := eh.1 y hhi
      cases hlo : lo' with
      | none => have e3 := el.2.1 hlo; simp [e1, e2, e3]
      | some x => have := el.1 x hlo; simp [e1, e2, this]
theorem y1o {α : Type} (off : Nat) (new cs : List α) (h : off + new.length ≤ cs.length) : (putCells off new cs).length = cs.length := by
  simp [putCells]; omega
theorem y5z {α : Type} (off : Nat) (cs : List α) : putCells off [] cs = cs := by simp [putCells]
theorem y7r {α : Type} (off : Nat) (c : α) (new cs : List α) (h : off + (new.length + 1) ≤ cs.length) : putCells (off + 1) new (cs.set off c) = putCells off (c :: new) cs := by
  have h1 : off < cs.length := by omega
  simp only [putCells, List.length_cons]
  have h2 : (cs.set off c).take (off + 1) = cs.take off ++ [c] := by
    rw [List.take_add_one]
    simp [List.take_set_of_le, h1]
  have h3 : (cs.set off c).drop (off + 1 + new.length) = cs.drop (off + (new.length + 1)) := by
    rw [List.drop_set_of_lt (by omega)]
    congr 1
    omega
  rw [h2, h3]
  simp
theorem Reps.put {cs ns : List AVal} {ds ms : List Value} (off : Nat) (h : Reps Γ cs ds) (h' : Reps Γ ns ms) : Reps Γ (putCells off ns cs) (putCells off ms ds) := by
  unfold putCells
  rw [h'.1]
  exact ((h.take off).append h').append (h.drop _)
theorem foldl_put (off : Nat) : ∀ (l : List Value) (k : Nat) (arr : Array Value), off + k + l.length ≤ arr.size →
    (l.zipIdx k).foldl (fun cs x => cs.setIfInBounds (off + x.2) x.1) arr = (putCells (off + k) l arr.toList).toArray
  | [], k, arr, _ => by simp [y5z]
  | c :: l, k, arr, h => by
    simp only [List.length_cons] at h
    rw [List.zipIdx_cons, List.foldl_cons, foldl_put off l (k + 1) _ (by simp; omega)]
    congr 1
    rw [← y7r _ _ _ _ (by simp; omega)]
    simp [Nat.add_assoc]
theorem fill_put {place : Nat → Option (Nat × Nat)} : ∀ {parts : List (Nat × Nat × AOpd)} {ps : List (Nat × Operand)} {cs cs' : List AVal} {ds : List Value}, EnvRel Γ e a.tmps → chkParts place parts ps = true → Reps Γ cs ds →
    (∀ d, d ∈ ds → d.oneCell' = true) → buildA e parts cs = some cs' →
    ∃ ds', Instr.fill place ds.toArray (ps.map fun x => (x.1, a.eval x.2)) = some ds'.toArray ∧ Reps Γ cs' ds' ∧ ∀ d, d ∈ ds' → d.oneCell' = true
  | [], [], cs, cs', ds, he, hk, hr, h1, hb => by
    simp [buildA] at hb; subst hb
    exact ⟨ds, rfl, hr, h1⟩
  | [], _ :: _, _, _, _, _, hk, _, _, _ => by simp [chkParts] at hk
  | _ :: _, [], _, _, _, _, hk, _, _, _ => by simp [chkParts] at hk
  | (off, sz, x) :: parts, (i, y) :: ps, cs, cs', ds, he, hk, hr, h1, hb => by
    simp only [chkParts, Bool.and_eq_true, decide_eq_true_eq] at hk
    simp only [buildA] at hb
    split at hb
    · rename_i v hv
      split at hb
      · rename_i hw
        have hrv := ev_rep he hk.1.2 hv
        have hcv := hrv.cells
        have ht : ∀ vs, v ≠ .tup vs := by
          intro vs hvs
          subst hvs
          simp [AVal.solid] at hw
        have hone := hrv.cells_one ht
        have hlen : (a.eval y).cells.toList.length = sz := by rw [hcv.1]; exact hw.2.1
        have hput := hr.put off hcv
        obtain ⟨ds', hf, hr', h1'⟩ := fill_put (ps := ps) (ds := putCells off (a.eval y).cells.toList ds) he hk.2 hput (by
          intro d hd
          simp only [putCells, List.mem_append] at hd
          rcases hd with (hd | hd) | hd
          · exact h1 d (List.mem_of_mem_take hd)
          · exact hone d hd
          · exact h1 d (List.mem_of_mem_drop hd)) hb
        refine ⟨ds', ?_, hr', h1'⟩
        simp only [List.map_cons, Instr.fill, hk.1.1]
        have hsz : (a.eval y).cells.size = sz := by simpa using hlen
        rw [if_neg (by simp [hsz]; rw [hr.1]; omega)]
        rw [← hf]
        congr 1
        rw [← Array.foldl_toList]
        have := foldl_put off (a.eval y).cells.toList 0 ds.toArray (by simp [hsz]; rw [hr.1]; omega)
        simpa using this
      · cases hb
    · cases hb
theorem y7v {fs : List Field} {l : List (Nat × Nat)} (h : fs.mapM (fun f => (P.info? f.type).map fun i => (f.offset, i.size)) = some l) (w : World) :
    (fs.mapM (m := Sem) fun f => do pure (f.offset, ← sizeOf f.type)).run P w = .ok l w := by
  induction fs generalizing l with
  | nil => simp at h; subst h; simp
  | cons f fs ih =>
    simp only [List.mapM_cons, Option.bind_eq_bind, Option.bind_eq_some_iff, Option.pure_def, Option.some.injEq] at h
    obtain ⟨x, hx, r, hr, rfl⟩ := h
    rw [Option.map_eq_some_iff] at hx
    obtain ⟨i, hi, rfl⟩ := hx
    have h2 := ih hr
    simp [List.mapM_cons, sizeOf, run_typeInfo _ hi]
    simp [sizeOf] at h2
    simp [h2]
theorem scalB_i {e : TypeId} (h : scalB P .i e = true) : ∃ k, P.underlying e = some (.int k) := by
  unfold scalB at h
  split at h <;> first | (cases h; done) | skip
  · exact ⟨_, by assumption⟩
  · rename_i hq _; cases hq
  · rename_i hq _; cases hq
theorem scalB_b {e : TypeId} (h : scalB P .b e = true) : P.underlying e = some .bool := by
  unfold scalB at h
  split at h <;> first | (cases h; done) | skip
  · rename_i hq _; cases hq
  · assumption
  · rename_i hq _; cases hq
theorem scalB_s {e : TypeId} (h : scalB P .s e = true) : P.underlying e = some .string := by
  unfold scalB at h
  split at h <;> first | (cases h; done) | skip
  · rename_i hq _; cases hq
  · rename_i hq _; cases hq
  · assumption
theorem y73 (d : Nat) {q : SK} {e : TypeId} {u v : AVal} {c c' : Value} {w : World} {r : Bool} (hs : scalB P q e = true) (hu : Rep Γ u c) (hv : Rep Γ v c') (h : eqOne q u v = some r) : (Op.equalIn (d + 1) e c c').run P w = .ok r w := by
  unfold eqOne at h
  split at h <;> first | (cases h; done) | skip
  · split at h <;> first | (cases h; done) | skip
    rename_i hk
    subst hk
    cases h
    obtain ⟨k, hk⟩ := scalB_i hs
    rw [hu.int_inv, hv.int_inv, run_equalIn_int w d e _ _ _ _ hk]
    rfl
  · cases h
    rw [hu.bool_inv, hv.bool_inv, run_equalIn_bool' w d e _ _ (scalB_b hs)]
  · cases h
    rw [hu.str_inv, hv.str_inv, run_equalIn_string w d e _ _ (scalB_s hs)]
    simp [y5t]
theorem y5u {q : SK} {qs : List SK} {x y : AVal} {xs ys : List AVal} {r : Bool} (h : eqCells (q :: qs) (x :: xs) (y :: ys) = some r) : ∃ a b, eqOne q x y = some a ∧ eqCells qs xs ys = some b ∧ r = (a && b) := by
  simp only [eqCells] at h
  split at h <;> first | (cases h; done) | skip
  rename_i a b h1 h2
  cases h
  exact ⟨a, b, h1, h2, rfl⟩
theorem y6c (d : Nat) {e : TypeId} {cs cs' : List AVal} {xs ys : List Value} {w : World} (hx : Reps Γ cs xs) (hy : Reps Γ cs' ys) (h1 : ∀ v, v ∈ xs → v.oneCell' = true) (h2 : ∀ v, v ∈ ys → v.oneCell' = true) (hsz : szB P e none = true) :
    ∀ (qs : List SK) (i : Nat) (as bs : List AVal) (r : Bool), cs.drop i = as → cs'.drop i = bs → (∀ q, q ∈ qs → scalB P q e = true) → eqCells qs as bs = some r →
      (Op.eqItems (d + 1) e 1 xs.toArray ys.toArray ((List.range' i qs.length))).run P w = .ok r w
  | [], i, as, bs, r, ha, hb, hq, h => by
    cases as <;> cases bs <;> simp [eqCells] at h
    subst h; rfl
  | q :: qs, i, as, bs, r, ha, hb, hq, h => by
    cases as with
    | nil => cases bs <;> simp [eqCells] at h
    | cons a as =>
      cases bs with
      | nil => simp [eqCells] at h
      | cons b bs =>
        obtain ⟨r1, r2, k1, k2, rfl⟩ := y5u h
        have ga : cs[i]? = some a := by rw [← List.head?_drop, ha]; rfl
        have gb : cs'[i]? = some b := by rw [← List.head?_drop, hb]; rfl
        obtain ⟨c, p1, p2⟩ := y3k (P := P) (w := w) (off := i) (sz := none) (t := e) hx h1 hsz (by simpa [part] using ga)
        obtain ⟨c', q1, q2⟩ := y3k (P := P) (w := w) (off := i) (sz := none) (t := e) hy h2 hsz (by simpa [part] using gb)
        have da : cs.drop (i + 1) = as := by rw [← List.drop_drop, ha]; rfl
        have db : cs'.drop (i + 1) = bs := by rw [← List.drop_drop, hb]; rfl
        have ih := y6c (w := w) d hx hy h1 h2 hsz qs (i + 1) as bs r2 da db (fun z hz => hq z (List.mem_cons_of_mem _ hz)) k2
        rw [List.length_cons, List.range'_succ]
        simp only [Op.eqItems, Sem.run_bind, Nat.mul_one, p1, q1, Result.andThen_ok, y73 d (w := w) (hq q (by simp)) p2 q2 k1]
        cases r1
        · rfl
        · simpa using ih
theorem y5x (d : Nat) {cs cs' : List AVal} {xs ys : List Value} {w : World} (hx : Reps Γ cs xs) (hy : Reps Γ cs' ys) (h1 : ∀ v, v ∈ xs → v.oneCell' = true) (h2 : ∀ v, v ∈ ys → v.oneCell' = true) :
    ∀ (qs : List SK) (fs : List Field) (i : Nat) (as bs : List AVal) (r : Bool), fieldsB P i qs fs = true → cs.drop i = as → cs'.drop i = bs → eqCells qs as bs = some r →
      (Op.eqFields (d + 1) xs.toArray ys.toArray fs).run P w = .ok r w
  | [], [], i, as, bs, r, hf, ha, hb, h => by
    cases as <;> cases bs <;> simp [eqCells] at h
    subst h; rfl
  | [], _ :: _, i, as, bs, r, hf, ha, hb, h => by simp [fieldsB] at hf
  | _ :: _, [], i, as, bs, r, hf, ha, hb, h => by simp [fieldsB] at hf
  | q :: qs, f :: fs, i, as, bs, r, hf, ha, hb, h => by
    simp only [fieldsB, Bool.and_eq_true, decide_eq_true_eq] at hf
    obtain ⟨⟨⟨⟨f1, f2⟩, f3⟩, f4⟩, f5⟩ := hf
    cases as with
    | nil => cases bs <;> simp [eqCells] at h
    | cons a as =>
      cases bs with
      | nil => simp [eqCells] at h
      | cons b bs =>
        obtain ⟨r1, r2, k1, k2, rfl⟩ := y5u h
        have ga : cs[i]? = some a := by rw [← List.head?_drop, ha]; rfl
        have gb : cs'[i]? = some b := by rw [← List.head?_drop, hb]; rfl
        obtain ⟨c, p1, p2⟩ := y3k (P := P) (w := w) (off := i) (sz := none) (t := f.type) hx h1 f4 (by simpa [part] using ga)
        obtain ⟨c', q1, q2⟩ := y3k (P := P) (w := w) (off := i) (sz := none) (t := f.type) hy h2 f4 (by simpa [part] using gb)
        have da : cs.drop (i + 1) = as := by rw [← List.drop_drop, ha]; rfl
        have db : cs'.drop (i + 1) = bs := by rw [← List.drop_drop, hb]; rfl
        have ih := y5x (w := w) d hx hy h1 h2 qs fs (i + 1) as bs r2 f5 da db k2
        simp only [Op.eqFields, f2, ne_eq, not_false_eq_true, if_true, Sem.run_bind, f1, p1, q1, Result.andThen_ok, y73 d (w := w) f3 p2 q2 k1]
        cases r1
        · rfl
        · simpa using ih
theorem eqv_sound {neg : Bool} {b : BinOp} {t : TypeId} {ks : List SK} {xs ys : List AVal} {c d : Value} {w : World} {X Y : Operand} {r : Bool} (hn : negB neg b = true) (hk : eqB P t ks = true) (h1 : Rep Γ (.agg xs) c) (h2 : Rep Γ (.agg ys) d)
    (hr : eqCells ks xs ys = some r) : (do eqGuard b t X Y c d; Go.binOp b t c d : Sem Value).run P w = .ok (.bool (if neg then !r else r)) w := by
  obtain ⟨cs, rfl, hx, ox⟩ := h1.agg_inv
  obtain ⟨ds, rfl, hy, oy⟩ := h2.agg_inv
  simp only [eqB, Bool.and_eq_true, Bool.not_eq_true'] at hk
  obtain ⟨hg, hk⟩ := hk
  refine cmp_run rfl rfl hn ?_ (run_eqGuard_agg w b t X Y _ _ hg)
  show (Op.equalIn 10000 t _ _).run P w = _
  split at hk
  · rename_i n e hu
    simp only [Bool.and_eq_true, decide_eq_true_eq] at hk
    obtain ⟨⟨⟨k1, k2⟩, k3⟩, k4⟩ := hk
    unfold sizeB at k4
    split at k4 <;> first | (cases k4; done) | skip
    rename_i inf hi
    have hc : P.cellsOf e = 1 := by
      have := of_decide_eq_true k4
      simp [Program.cellsOf, hi, this]
    rw [run_equalIn_array (w := w) 9999 cs.toArray ds.toArray hu hi, hc, List.range_eq_range', ← k1]
    exact y6c 9998 hx hy ox oy k3 ks 0 xs ys r rfl rfl (fun q hq => List.all_eq_true.1 k2 q hq) hr
  · rename_i fs hu
    simp only [Bool.and_eq_true, Bool.not_eq_true'] at hk
    have hf : P.fieldsOf t = fs := by simp [Program.fieldsOf, hu]
    rw [run_equalIn_struct w 9999 t _ _ (by rw [hf]; exact hu) hk.2, hf]
    exact y5x 9998 hx hy ox oy ks fs.toList 0 xs ys r hk.1 rfl rfl hr
  · cases hk
theorem evP_sound {o : Oper} {p : AOp} {v : AVal} {w : World} (he : EnvRel Γ e a.tmps) (hp : p.kind = .pure) (hk : chkP P p o.op = true) (hv : evP e p = some v) :
    ∃ c, (execOp a.eval o).run P w = .ok (.value c) w ∧ Rep Γ v c := by
  cases p <;> simp only [AOp.kind, reduceCtorEq] at hp
  case mv x => exact mv_sound he hk hv
  all_goals
    obtain ⟨dst, op, ty, pos, after, guard⟩ := o
    simp only at hk
  case pick c x y =>
    cases op <;> simp only [chkP, Bool.false_eq_true, Bool.and_eq_true] at hk
    rename_i c' x' y'
    simp only [evP] at hv
    split at hv
    · rename_i hc
      have h1 := ev_rep he hk.1.1 hc
      have h2 := ev_rep he hk.1.2 hv
      refine ⟨_, ?_, h2⟩
      simp only [execOp]
      generalize a.eval c' = cc at h1
      cases h1
      simp [asBool]
    · rename_i hc
      have h1 := ev_rep he hk.1.1 hc
      have h2 := ev_rep he hk.2 hv
      refine ⟨_, ?_, h2⟩
      simp only [execOp]
      generalize a.eval c' = cc at h1
      cases h1
      simp [asBool]
    · cases hv
  case bin b x y =>
    cases op <;> simp only [chkP, Bool.false_eq_true, Bool.and_eq_true, decide_eq_true_eq] at hk
    rename_i b' t x' y' yt
    simp only [evP] at hv
    split at hv
    · rename_i u v' hx hy
      obtain ⟨r, hr, hrep⟩ := bin_sound (t := t) (w := w) (X := x') (Y := y') (P := P) (ev_rep he hk.1.2 hx) (ev_rep he hk.2 hy) hv
      rw [hk.1.1] at hr
      exact ⟨r, exec_v rfl hr, hrep⟩
    · cases hv
  case eqv neg d x y =>
    cases op <;> simp only [chkP, Bool.false_eq_true, Bool.and_eq_true] at hk
    rename_i b t x' y' yt
    simp only [evP] at hv
    split at hv
    · rename_i u v' hx hy
      split at hv
      · rename_i r hr
        cases hv
        cases d
        · simp only [eqA] at hr
          split at hr
          · cases hr
            have h1 := ev_rep he hk.1.1.2 hx
            have h2 := ev_rep he hk.1.2 hy
            have h3 := hk.2
            simp only [Bool.and_eq_true] at h3
            replace h3 := h3.2
            split at h3 <;> first | (cases h3; done) | skip
            rename_i hu
            refine ⟨_, exec_v rfl ?_, .bool _⟩
            generalize a.eval x' = cx at h1 ⊢
            generalize a.eval y' = cy at h2 ⊢
            cases h1; cases h2
            exact cmp_run rfl rfl hk.1.1.1 (y42 hu (.b _ _)) (y3v (by simp))
          · cases hr
        · rename_i ks
          simp only [eqA] at hr
          split at hr
          · rename_i xs ys
            have h1 := ev_rep he hk.1.1.2 hx
            have h2 := ev_rep he hk.1.2 hy
            exact ⟨_, exec_v rfl (eqv_sound hk.1.1.1 hk.2 h1 h2 hr), .bool _⟩
          · cases hr
      · cases hv
    · cases hv
  case isnil k neg x =>
    cases op <;> simp only [chkP, Bool.false_eq_true, Bool.and_eq_true, Bool.or_eq_true] at hk
    rename_i b t x' y' yt
    simp only [evP] at hv
    split at hv
    · rename_i u hx
      split at hv
      · rename_i r hr
        cases hv
        rcases hk.2 with ⟨h1, h2⟩ | ⟨h1, h2⟩
        · exact ⟨_, exec_v rfl ((y6s (X := x') (w := w) (t := t) (a := a) (ev_rep he h1 hx) hr hk.1).1 h2), .bool _⟩
        · exact ⟨_, exec_v rfl ((y6s (Y := y') (w := w) (t := t) (a := a) (ev_rep he h1 hx) hr hk.1).2 h2), .bool _⟩
      · cases hv
    · cases hv
  case un u x =>
    cases op <;> simp only [chkP, Bool.false_eq_true, Bool.and_eq_true, decide_eq_true_eq] at hk
    rename_i u' t x'
    simp only [evP] at hv
    split at hv
    · rename_i y hx
      have h1 := ev_rep he hk.2 hx
      obtain ⟨rfl, _⟩ := hk
      generalize hcx : a.eval x' = cx at h1
      cases u <;> cases y <;> simp [unA] at hv
      · subst hv; cases h1
        exact ⟨_, exec_v rfl (by rw [hcx]; simp [Op.unary, Op.intArith]), .int _ _⟩
      · subst hv; cases h1
        exact ⟨_, exec_v rfl (by rw [hcx]; simp [Op.unary, Op.intBits]), .int _ _⟩
      · subst hv; cases h1
        exact ⟨_, exec_v rfl (by rw [hcx]; simp [Op.unary]), .bool _⟩
    · cases hv
  case cvi k x =>
    cases op <;> simp only [chkP, Bool.false_eq_true, Bool.and_eq_true] at hk
    rename_i s d x'
    simp only [evP] at hv
    split at hv
    · rename_i k' n hx
      cases hv
      have h1 := ev_rep he hk.1.1 hx
      have h3 := hk.2
      obtain ⟨D, hD⟩ := Option.isSome_iff_exists.1 hk.1.2
      split at h3 <;> first | (cases h3; done) | skip
      rename_i k'' hu
      have : k = k'' := by simpa using h3
      subst this
      refine ⟨_, exec_v rfl ?_, .int _ _⟩
      generalize a.eval x' = cx at h1
      cases h1
      simp only [Go.convert, Sem.run_bind, run_underlying hD, run_underlying hu, Result.andThen_ok]
      rfl
    · cases hv
  case cvs x =>
    cases op <;> simp only [chkP, Bool.false_eq_true, Bool.and_eq_true] at hk
    rename_i s d x'
    simp only [evP] at hv
    split at hv
    · rename_i k' hx
      cases hv
      have h1 := ev_rep he hk.1.1 hx
      have h2 := hk.1.2
      have h3 := hk.2
      unfold isStrB at h2 h3
      split at h2 <;> first | (cases h2; done) | skip
      rename_i hu
      split at h3 <;> first | (cases h3; done) | skip
      rename_i hu'
      refine ⟨_, exec_v rfl ?_, h1⟩
      generalize a.eval x' = cx at h1
      cases h1
      simp only [Go.convert, Sem.run_bind, run_underlying hu, run_underlying hu', Result.andThen_ok]
      rfl
    · cases hv
  case mki t x =>
    cases op <;> simp only [chkP, Bool.false_eq_true, Bool.and_eq_true, decide_eq_true_eq] at hk
    rename_i t' x'
    simp only [evP] at hv
    split at hv
    · rename_i y hx
      cases hv
      have h1 := ev_rep he hk.1.2 hx
      obtain ⟨⟨rfl, _⟩, h3⟩ := hk
      refine ⟨_, exec_v rfl ?_, .iface t h1⟩
      split at h3 <;> first | (cases h3; done) | skip
      rename_i D hne hu
      simp only [Instr.makeInterface, Sem.run_bind, run_underlying hu, Result.andThen_ok]
      rfl
    · cases hv
  case mkf f caps =>
    cases op <;> simp only [chkP, Bool.false_eq_true] at hk
    rename_i fn first caps'
    cases fn <;> simp only [Bool.false_eq_true, Bool.and_eq_true, decide_eq_true_eq] at hk
    rename_i f'
    simp only [evP] at hv
    split at hv
    · rename_i vs hvs
      cases hv
      have h1 := evs_reps he hk.2 hvs
      obtain ⟨⟨rfl, h2⟩, _⟩ := hk
      have h2' : first = #[] := by simpa using h2
      subst h2'
      refine ⟨.func (.func f) #[] (caps'.map a.eval), exec_v rfl ?_, ?_⟩
      · simp [Instr.makeFunc]
      · rw [show caps'.map a.eval = (caps'.toList.map a.eval).toArray from by apply Array.ext'; simp]
        exact Rep.fn f h1.1 h1.2
    · cases hv
  case fld off sz x =>
    cases op <;> simp only [chkP, Bool.false_eq_true, Bool.and_eq_true] at hk
    rename_i t x' i
    simp only [evP] at hv
    split at hv
    · rename_i cs hx
      have h1 := ev_rep he hk.1 hx
      have h2 := hk.2
      unfold fieldB at h2
      split at h2 <;> first | (cases h2; done) | skip
      rename_i fs hu
      split at h2 <;> first | (cases h2; done) | skip
      rename_i f hf
      simp only [Bool.and_eq_true, decide_eq_true_eq] at h2
      obtain ⟨ds, hcx, hr, h1⟩ := h1.agg_inv
      obtain ⟨c, hc, hrep⟩ := y3k (P := P) (w := w) hr h1 h2.2 hv
      refine ⟨c, exec_v rfl ?_, hrep⟩
      rw [hcx]
      simp only [Instr.field, Sem.run_bind, run_underlying hu, Result.andThen_ok, hf, asAgg, Sem.run_pure, h2.1]
      exact hc
    · cases hv
  case ixs x i =>
    cases op <;> simp only [chkP, Bool.false_eq_true, Bool.and_eq_true] at hk
    rename_i t x' i'
    simp only [evP] at hv
    split at hv
    · rename_i s k n hx hi
      split at hv
      · rename_i h0
        rw [Option.map_eq_some_iff] at hv
        obtain ⟨b, hb, rfl⟩ := hv
        have h1 := ev_rep he hk.1.1 hx
        have h2 := ev_rep he hk.1.2 hi
        have h3 := hk.2
        unfold isStrB at h3
        split at h3 <;> first | (cases h3; done) | skip
        rename_i hu
        refine ⟨_, exec_v rfl ?_, .int _ _⟩
        generalize a.eval x' = cx at h1
        generalize a.eval i' = ci at h2
        cases h1; cases h2
        have hlt : n.toNat < s.length := (List.getElem?_eq_some_iff.1 hb).1
        have hbs : (ByteArray.mk s.toArray)[n.toNat]? = some b := by
          rw [getElem?_pos _ _ (by simpa [ByteArray.size] using hlt)]
          have : s[n.toNat] = b := by simpa [hlt] using hb
          rw [← this]
          rfl
        simp [Instr.index, asIntOf, run_underlying hu, h0, hbs]
      · cases hv
    · cases hv
  case ixa len es sz x i =>
    cases op <;> simp only [chkP, Bool.false_eq_true, Bool.and_eq_true] at hk
    rename_i t x' i'
    simp only [evP] at hv
    split at hv
    · rename_i cs k n hx hi
      split at hv
      · rename_i h0
        have h1 := ev_rep he hk.1.1 hx
        have h2 := ev_rep he hk.1.2 hi
        have h3 := hk.2
        unfold arrB at h3
        split at h3 <;> first | (cases h3; done) | skip
        rename_i m el hu
        simp only [Bool.and_eq_true, decide_eq_true_eq] at h3
        obtain ⟨rfl, h4, h5⟩ := h3
        obtain ⟨ds, hcx, hr, h1⟩ := h1.agg_inv
        have hci := h2.int_inv
        obtain ⟨c, hc, hrep⟩ := y3k (P := P) (w := w) hr h1 h5 hv
        refine ⟨c, exec_v rfl ?_, hrep⟩
        rw [hcx, hci]
        simp [Instr.index, asIntOf, run_underlying hu, h0, run_sizeB h4, hc]
      · cases hv
    · cases hv
  case fa off x =>
    cases op <;> simp only [chkP, Bool.false_eq_true, Bool.and_eq_true] at hk
    rename_i t x' i
    have h2 := hk.2
    unfold fieldB at h2
    split at h2 <;> first | (cases h2; done) | skip
    rename_i fs hu
    split at h2 <;> first | (cases h2; done) | skip
    rename_i f hf
    simp only [Bool.and_eq_true, decide_eq_true_eq] at h2
    obtain ⟨rfl, h3⟩ := h2
    split at h3 <;> first | (cases h3; done) | skip
    rename_i fi hfi
    have h4 : ¬ fi.size = 0 := by have : 0 < fi.size := by simpa using h3
                                  omega
    have place : ∀ ad : Addr, (Instr.fieldAt t (.pointer (some ad)) i).run P w = .ok (.pointer (some (ad.add f.offset))) w := by
      intro ad
      simp only [Instr.fieldAt, Sem.run_bind, run_underlying hu, Result.andThen_ok, hf, Instr.sureAddr, Sem.run_pure, fieldPlace, sizeOf, run_typeInfo _ hfi, h4, if_false]
    simp only [evP] at hv
    split at hv
    · rename_i b o hx
      cases hv
      obtain ⟨g, hc, hm⟩ := (ev_rep he hk.1 hx).ptr_inv
      refine ⟨.pointer (some ((⟨g, o, none⟩ : Addr).add f.offset)), exec_v rfl ?_, ?_⟩
      · rw [hc]; exact place _
      · have : (⟨g, o, none⟩ : Addr).add f.offset = ⟨g, o + f.offset, none⟩ := by
          unfold Addr.add; split <;> simp_all
        rw [this]; exact .ptr hm
    · rename_i cs hx
      split at hv
      · rename_i hlt
        cases hv
        obtain ⟨g, off, fv, hc, h5, h6, h7, h8⟩ := (ev_rep he hk.1 hx).ro_inv
        refine ⟨.pointer (some ((⟨g, off, none⟩ : Addr).add f.offset)), exec_v rfl ?_, ?_⟩
        · rw [hc]; exact place _
        · have : (⟨g, off, none⟩ : Addr).add f.offset = ⟨g, off + f.offset, none⟩ := by
            unfold Addr.add; split <;> simp_all
          rw [this]
          refine .ro (fun j => fv (f.offset + j)) (fun c hc => h5 c (List.mem_of_mem_drop hc)) ?_ ?_ ?_
          · intro j c hj; rw [List.getElem?_drop] at hj; rw [Nat.add_assoc]; exact h6 _ c hj
          · intro j c hj; rw [List.getElem?_drop] at hj; exact h7 _ c hj
          · intro j c hj; rw [List.getElem?_drop] at hj; exact h8 _ c hj
      · cases hv
    · rename_i o l c hx
      cases hv
      obtain ⟨g, cap, hc, hm⟩ := (ev_rep he hk.1 hx).lptr_inv
      refine ⟨.pointer (some ((⟨g, c, none⟩ : Addr).add f.offset)), exec_v rfl ?_, ?_⟩
      · rw [hc]; exact place _
      · have : (⟨g, c, none⟩ : Addr).add f.offset = ⟨g, c + f.offset, none⟩ := by
          unfold Addr.add; split <;> simp_all
        rw [this]; exact .lptr hm
    · cases hv
  case nc x =>
    cases op <;> simp only [chkP, Bool.false_eq_true] at hk
    rename_i x'
    simp only [evP] at hv
    split at hv
    · rename_i b o hx
      cases hv
      have h1 := ev_rep he hk hx
      obtain ⟨g, hc, hm⟩ := h1.ptr_inv
      exact ⟨_, by simp only [execOp, hc]; rfl, hc ▸ h1⟩
    · rename_i cs hx
      cases hv
      have h1 := ev_rep he hk hx
      obtain ⟨g, off, fv, hc, _⟩ := h1.ro_inv
      exact ⟨_, by simp only [execOp, hc]; rfl, hc ▸ h1⟩
    · rename_i o l c hx
      cases hv
      have h1 := ev_rep he hk hx
      obtain ⟨g, cap, hc, hm⟩ := h1.lptr_inv
      exact ⟨_, by simp only [execOp, hc]; rfl, hc ▸ h1⟩
    · cases hv
  case iaa len es x i =>
    cases op <;> simp only [chkP, Bool.false_eq_true, Bool.and_eq_true] at hk
    rename_i t x' i'
    have h3 := hk.2
    unfold arrB at h3
    split at h3 <;> first | (cases h3; done) | skip
    rename_i m el hu
    simp only [Bool.and_eq_true, decide_eq_true_eq] at h3
    obtain ⟨rfl, h4⟩ := h3
    have place : ∀ (ad : Addr) (k : IntKind) (n : Int), 0 ≤ n → n < m → (Instr.indexAt t (.pointer (some ad)) (.int k n)).run P w = .ok (.pointer (some (ad.add (n.toNat * es)))) w := by
      intro ad k n h0 h1
      simp only [Instr.indexAt, Sem.run_bind, asIntOf, Sem.run_pure, run_underlying hu, Result.andThen_ok, Instr.sureAddr, h0, h1, and_self, if_true, run_sizeB h4]
    simp only [evP] at hv
    split at hv
    · rename_i b o k n hx hi
      split at hv
      · rename_i h0
        cases hv
        obtain ⟨g, hc, hm⟩ := (ev_rep he hk.1.1 hx).ptr_inv
        have hci := (ev_rep he hk.1.2 hi).int_inv
        refine ⟨.pointer (some ((⟨g, o, none⟩ : Addr).add (n.toNat * es))), exec_v rfl ?_, ?_⟩
        · rw [hc, hci]; exact place _ _ _ h0.1 h0.2
        · have : (⟨g, o, none⟩ : Addr).add (n.toNat * es) = ⟨g, o + n.toNat * es, none⟩ := by
            unfold Addr.add; split <;> simp_all
          rw [this]; exact .ptr hm
      · cases hv
    · rename_i cs k n hx hi
      split at hv
      · rename_i h0
        cases hv
        obtain ⟨g, off, fv, hc, h5, h6, h7, h8⟩ := (ev_rep he hk.1.1 hx).ro_inv
        have hci := (ev_rep he hk.1.2 hi).int_inv
        refine ⟨.pointer (some ((⟨g, off, none⟩ : Addr).add (n.toNat * es))), exec_v rfl ?_, ?_⟩
        · rw [hc, hci]; exact place _ _ _ h0.1 h0.2.1
        · have : (⟨g, off, none⟩ : Addr).add (n.toNat * es) = ⟨g, off + n.toNat * es, none⟩ := by
            unfold Addr.add; split <;> simp_all
          rw [this]
          refine .ro (fun j => fv (n.toNat * es + j)) (fun c hc => h5 c (List.mem_of_mem_drop hc)) ?_ ?_ ?_
          · intro j c hj; rw [List.getElem?_drop] at hj; rw [Nat.add_assoc]; exact h6 _ c hj
          · intro j c hj; rw [List.getElem?_drop] at hj; exact h7 _ c hj
          · intro j c hj; rw [List.getElem?_drop] at hj; exact h8 _ c hj
      · cases hv
    · cases hv
  case ext i x =>
    cases op <;> simp only [chkP, Bool.false_eq_true, Bool.and_eq_true, decide_eq_true_eq] at hk
    rename_i x' j
    obtain ⟨hk, rfl⟩ := hk
    simp only [evP] at hv
    split at hv
    · rename_i vs hx
      obtain ⟨ds, hc, hr⟩ := (ev_rep he hk hx).tup_inv
      obtain ⟨d, hd, hrep⟩ := hr.get hv
      refine ⟨d, exec_v rfl ?_, hrep⟩
      rw [hc]
      simp [Instr.extract, hd]
    · cases hv
  case build zs parts =>
    cases op <;> simp only [chkP, Bool.false_eq_true, Bool.and_eq_true] at hk
    rename_i t ps
    simp only [evP] at hv
    split at hv
    · rename_i cs hb
      cases hv
      obtain ⟨z, hz, hrz, h1⟩ := run_zeroB (Γ := Γ) hk.1 w
      have h2 := hk.2
      split at h2 <;> first | (cases h2; done) | skip
      rename_i pl hpl
      obtain ⟨ds', hf, hr', h1'⟩ := fill_put (ps := ps.toList) he h2 hrz h1 hb
      refine ⟨.agg ds'.toArray, exec_v rfl ?_, .agg hr'.1 hr'.2 h1'⟩
      have hf' : Instr.fill pl z.cells ((ps.map fun x => (x.1, a.eval x.2)).toList) = some ds'.toArray := by
        rw [← hf]; simp
      unfold placesOf at hpl
      split at hpl
      · rename_i fs hu
        split at hpl <;> first | (cases hpl; done) | skip
        rename_i l hl
        cases hpl
        have hm := y7v hl w
        have hm' : (fs.mapM (m := Sem) fun f => do pure (f.offset, ← sizeOf f.type)).run P w = .ok l.toArray w := by
          rw [← Array.toArray_toList (xs := fs), List.mapM_toArray, Sem.run_map, hm]
          rfl
        simp only [Instr.build, Sem.run_bind, Result.andThen_ok, hz, run_underlying hu, hm', Sem.run_pure]
        have : (fun (i : Nat) => l.toArray[i]?) = fun (i : Nat) => l[i]? := by funext i; simp
        simp only [this, hf']
        rfl
      · rename_i n el hu
        split at hpl <;> first | (cases hpl; done) | skip
        rename_i ti hti
        cases hpl
        simp only [Instr.build, Sem.run_bind, Result.andThen_ok, hz, run_underlying hu, sizeOf, run_typeInfo _ hti, Sem.run_pure, hf']
      · cases hpl
    · cases hv
  case mm isMax x y =>
    cases op <;> simp only [chkP, Bool.false_eq_true, Bool.and_eq_true] at hk
    rename_i c
    obtain ⟨hk1, hk2⟩ := hk
    split at hk1 <;> first | (cases hk1; done) | skip
    rename_i b hcal
    split at hk2 <;> first | (cases hk2; done) | skip
    rename_i x' y' hargs
    simp only [Bool.and_eq_true] at hk2
    have hb : b = if isMax = true then .max else .min := by simpa using hk1
    simp only [evP] at hv
    split at hv
    · rename_i k m k' n hx hy
      split at hv
      · rename_i hkk
        subst hkk
        cases hv
        have hcx := (ev_rep he hk2.1 hx).int_inv
        have hcy := (ev_rep he hk2.2 hy).int_inv
        have hmap : (c.args.map a.eval).toList = [.int k m, .int k n] := by simp [hargs, hcx, hcy]
        refine ⟨_, ?_, .int _ _⟩
        subst hb
        cases isMax
        · simp [execOp, resolve, hcal, invoke, builtin, Builtin.min_, Builtin.min2, hargs, hcx, hcy]
        · simp [execOp, resolve, hcal, invoke, builtin, Builtin.max_, Builtin.max2, hargs, hcx, hcy]
      · cases hv
    · cases hv
  case slcs x lo hi =>
    cases op <;> simp only [chkP, Bool.false_eq_true, Bool.and_eq_true] at hk
    rename_i t x' lo' hi' mx'
    simp only [evP] at hv
    split at hv
    · rename_i s lov hiv hx hlo hhi
      split at hv
      · rename_i l h m hb
        cases hv
        have hc := (ev_rep he hk.1.1.1.1 hx).str_inv
        have hmx : mx' = none := by simpa using hk.1.2
        subst hmx
        have h3 := hk.2
        unfold isStrB at h3
        split at h3 <;> first | (cases h3; done) | skip
        rename_i hu
        obtain ⟨hbr, h1, h2, h4⟩ := y33 (P := P) (b0 := false) (mx' := none) w (Nat.le_refl _) (opt_reps he hk.1.1.1.2 hlo) (opt_reps he hk.1.1.2 hhi) (.inl ⟨rfl, rfl⟩) hb
        refine ⟨.string ⟨((s.take h).drop l).toArray⟩, exec_v rfl ?_, .str _⟩
        rw [hc]
        have hsz : (ByteArray.mk s.toArray).size = s.length := y4q
        simp only [Option.map_none] at hbr
        have hex : (ByteArray.mk s.toArray).extract l h = ⟨((s.take h).drop l).toArray⟩ := by
          apply ByteArray.ext
          simp [List.drop_take]
        simp only [Instr.sliceAt, Sem.run_bind, run_underlying hu, Result.andThen_ok, Instr.slice, Option.map_none, Option.isSome_none, hsz, Bool.false_eq_true, if_false]
        simp only [Sem.run_bind, hbr, Result.andThen_ok, Sem.run_pure, hex]
      · cases hv
    · cases hv
end
end Go.Ev
