/-
  Part 1 of a proof: ModuleKeeps: for every input the law returns true, and what it was given reads behind the call as before. No conditions beyond the row's own.
-/
import Derived.Calls
namespace Go.Ev
theorem nrm.{u} : (∀ {α : Type u} (a b : α) (l : List α), (a :: l).set 0 b = b :: l) ∧ (∀ {α : Type u} (a : α) (l : List α) (n : Nat) (b : α), (a :: l).set (n + 1) b = a :: l.set n b) ∧ (∀ {α : Type u} (l : List α), [] ++ l = l) ∧ (∀ {α : Type u} (a : α) (l m : List α), (a :: l) ++ m = a :: (l ++ m)) ∧ (∀ {α : Type u} (a : α) (l : List α), (a :: l).length = l.length + 1) ∧ (∀ {α : Type u}, ([] : List α).length = 0) ∧ (∀ n : Nat, 0 + n = n) ∧ (∀ n : Nat, n + 0 = n) ∧ (∀ {α : Type u} (a : α) (l : List α) (n : Nat), (a :: l).take (n + 1) = a :: l.take n) ∧ (∀ {α : Type u} (l : List α), l.take 0 = []) ∧ (∀ {α : Type u} (n : Nat), ([] : List α).take n = []) ∧ (∀ {α : Type u} (a : α) (l : List α) (n : Nat), (a :: l).drop (n + 1) = l.drop n) ∧ (∀ {α : Type u} (l : List α), l.drop 0 = l) ∧ (∀ {α : Type u} (n : Nat), ([] : List α).drop n = []) ∧ (∀ {α : Type u} (a : α) (n : Nat), List.replicate (n + 1) a = a :: List.replicate n a) ∧ (∀ {α : Type u} (a : α), List.replicate 0 a = []) := by
  refine ⟨?_, ?_, ?_, ?_, ?_, ?_, ?_, ?_, ?_, ?_, ?_, ?_, ?_, ?_, ?_, ?_⟩ <;> intros <;> simp [List.replicate_succ]
open Go
inductive AVal where
  | int (k : IntKind) (n : Int)
  | bool (b : Bool)
  | str (s : List UInt8)
  | nilp
  | nili
  | nilf
  | nilm
  | iface (t : TypeId) (v : AVal)
  | agg (cs : List AVal)
  | tup (vs : List AVal)
  | lst (xs : List AVal) (e : Bool)
  | gl (o len : Nat)
  | lptr (o l a : Nat)
  | gtl (o l lo es : Nat)
  | sl (b off len cap : Nat) (w : Option Nat)
  | ptr (b off : Nat)
  | ro (cs : List AVal)
  | fn (f : FuncId) (caps : List AVal)
  | map (b : Nat)
  | emp (n : Bool)      -- an empty slice of which it is known whether it is nil
  deriving Inhabited
inductive ABlock where
  | hole
  | dead
  | cells (vs : List AVal)
  | grow (es : Nat) (xs : List AVal) (open_ : Option Nat)
  | mp (es : List (AVal × AVal))
  deriving Inhabited
abbrev Heap := List ABlock
abbrev Env := List (Nat × AVal)
def undefA : AVal := .tup []
def Env.get : Env → Nat → Option AVal
  | [], _ => none
  | (k, v) :: r, t => if k = t then some v else Env.get r t
def Env.put (e : Env) (d : Option Nat) (v : AVal) : Env :=
  match d with
  | some d => (d, v) :: e
  | none => e
def AVal.flat : AVal → List AVal
  | .agg cs => cs
  | v => [v]
def flatL : List AVal → List AVal
  | [] => []
  | x :: xs => x.flat ++ flatL xs
def AVal.width (v : AVal) : Nat := v.flat.length
def AVal.solid : AVal → Bool
  | .tup _ => false
  | _ => true
def growAt (H : Heap) (o len : Nat) : Option AVal :=
  match H[o]? with
  | some (.grow _ xs none) => if xs.length = len then some (.lst xs false) else none
  | _ => none
mutual
def shutV (H : Heap) : AVal → Option AVal
  | .int k n => some (.int k n)
  | .bool b => some (.bool b)
  | .str s => some (.str s)
  | .nilp => some .nilp
  | .nili => some .nili
  | .nilf => some .nilf
  | .nilm => some .nilm
  | .ro cs => some (.ro cs)
  | .lst xs _ => some (.lst xs false)
  | .emp _ => some (.lst [] false)
  | .gl o len => growAt H o len
  | .agg cs => match shutL H cs with
    | some cs' => some (.agg cs')
    | none => none
  | .tup vs => match shutL H vs with
    | some vs' => some (.tup vs')
    | none => none
  | .iface t v => match shutV H v with
    | some v' => some (.iface t v')
    | none => none
  | .fn f caps => match shutL H caps with
    | some caps' => some (.fn f caps')
    | none => none
  | .sl _ _ _ _ _ => none
  | .ptr _ _ => none
  | .map _ => none
  | .lptr _ _ _ => none
  | .gtl _ _ _ _ => none
def shutL (H : Heap) : List AVal → Option (List AVal)
  | [] => some []
  | v :: vs => match shutV H v with
    | some a => match shutL H vs with
      | some b => some (a :: b)
      | none => none
    | none => none
end
def group (w : Option Nat) : (n : Nat) → List AVal → List AVal
  | 0, _ => []
  | n + 1, cs => match w with
    | none => (cs.take 1) ++ group w n (cs.drop 1)
    | some k => .agg (cs.take k) :: group w n (cs.drop k)
def wide (w : Option Nat) : Nat := w.getD 1
def y22 (H : Heap) (b off len : Nat) (w : Option Nat) : Option (List AVal) :=
  match H[b]? with
  | some (.cells vs) => if off + len * wide w ≤ vs.length then shutL H (group w len (vs.drop off)) else none
  | _ => none
mutual
def shutR (H : Heap) : AVal → Option AVal
  | .int k n => some (.int k n)
  | .bool b => some (.bool b)
  | .str s => some (.str s)
  | .nilp => some .nilp
  | .nili => some .nili
  | .nilf => some .nilf
  | .nilm => some .nilm
  | .ro cs => some (.ro cs)
  | .lst xs _ => some (.lst xs false)
  | .emp _ => some (.lst [] false)
  | .gl o len => growAt H o len
  | .agg cs => match shutRL H cs with
    | some cs' => some (.agg cs')
    | none => none
  | .tup vs => match shutRL H vs with
    | some vs' => some (.tup vs')
    | none => none
  | .iface t v => match shutR H v with
    | some v' => some (.iface t v')
    | none => none
  | .fn f caps => match shutRL H caps with
    | some caps' => some (.fn f caps')
    | none => none
  | .sl b off len cap w => match y22 H b off len w with
    | some xs => if len ≤ cap ∧ xs.all (fun y => decide (y.width = wide w)) = true then some (.lst xs false) else none
    | none => none
  | .ptr _ _ => none
  | .map _ => none
  | .lptr _ _ _ => none
  | .gtl _ _ _ _ => none
def shutRL (H : Heap) : List AVal → Option (List AVal)
  | [] => some []
  | v :: vs => match shutR H v with
    | some a => match shutRL H vs with
      | some b => some (a :: b)
      | none => none
    | none => none
end
mutual
def lowV (n : Nat) : AVal → Bool
  | .gl o _ => decide (o < n)
  | .lptr o _ _ => decide (o < n)
  | .gtl o _ _ _ => decide (o < n)
  | .sl b _ _ _ _ => decide (b < n)
  | .ptr b _ => decide (b < n)
  | .map b => decide (b < n)
  | .agg cs => lowL n cs
  | .tup vs => lowL n vs
  | .iface _ v => lowV n v
  | .fn _ caps => lowL n caps
  | .int _ _ => true
  | .bool _ => true
  | .str _ => true
  | .nilp => true
  | .nili => true
  | .nilf => true
  | .nilm => true
  | .lst _ _ => true
  | .ro _ => true
  | .emp _ => true
def lowL (n : Nat) : List AVal → Bool
  | [] => true
  | v :: vs => lowV n v && lowL n vs
end
def lowP (n : Nat) : List (AVal × AVal) → Bool
  | [] => true
  | (k, v) :: r => lowV n k && lowV n v && lowP n r
def lowB (n : Nat) : ABlock → Bool
  | .hole => true
  | .dead => true
  | .cells vs => lowL n vs
  | .grow _ _ _ => true
  | .mp es => lowP n es
def lowH (n : Nat) : Heap → Bool
  | [] => true
  | b :: r => lowB n b && lowH n r
def lowE (n : Nat) : Env → Bool
  | [] => true
  | (_, v) :: r => lowV n v && lowE n r
inductive AOpd where
  | t (n : Nat)
  | c (v : AVal)
  deriving Inhabited
inductive SK where
  | i
  | b
  | s
  deriving Inhabited, DecidableEq
inductive EqD where
  | bool
  | ints (ks : List SK)     -- arrays, structs of integers, bools and texts
  deriving Inhabited, DecidableEq
inductive NilK where
  | ptr
  | slice
  | map
  | fn
  | iface
  deriving Inhabited, DecidableEq
inductive LenK where
  | slice
  | str
  | map
  deriving Inhabited, DecidableEq
inductive AOp where
  | mv (x : AOpd)
  | pick (c a b : AOpd)
  | bin (op : BinOp) (x y : AOpd)
  | eqv (neg : Bool) (d : EqD) (x y : AOpd)
  | isnil (k : NilK) (neg : Bool) (x : AOpd)
  | un (op : UnOp) (x : AOpd)
  | cvi (k : IntKind) (x : AOpd)
  | cvs (x : AOpd)
  | mki (t : TypeId) (x : AOpd)
  | mkf (f : FuncId) (caps : List AOpd)
  | fld (off : Nat) (sz : Option Nat) (x : AOpd)
  | ixs (x i : AOpd)
  | ixa (len es : Nat) (sz : Option Nat) (x i : AOpd)
  | fa (off : Nat) (x : AOpd)
  | nc (x : AOpd)
  | iaa (len es : Nat) (x i : AOpd)
  | ext (i : Nat) (x : AOpd)
  | build (zs : List AVal) (parts : List (Nat × Nat × AOpd))
  | mm (isMax : Bool) (x y : AOpd)
  | slcs (x : AOpd) (lo hi : Option AOpd)
  | alloc (zs : List AVal)
  | box (x : AOpd)
  | mks (es bytes : Nat) (w : Option Nat) (zs : List AVal) (l c : AOpd)
  | mkm
  | ia (es : Nat) (x i : AOpd)
  | bsl (es : Nat) (z : AVal) (len : Nat) (parts : List (Nat × AOpd))
  | lds (x : AOpd)
  | lda (n : Nat) (x : AOpd)
  | sts (x v : AOpd)
  | sta (n : Nat) (x v : AOpd)
  | stk (n : Nat) (x v : AOpd)   -- as 'sta' and 'sts', and the list stays open
  | slc (es : Nat) (x : AOpd) (lo hi mx : Option AOpd)
  | slca (len es : Nat) (w : Option Nat) (x : AOpd) (lo hi mx : Option AOpd)
  | len (k : LenK) (x : AOpd)
  | cap (x : AOpd)
  | app (es bytes : Nat) (opn : Bool) (s x : AOpd)
  | appz (es bytes : Nat) (z : AVal) (s n : AOpd)
  | copy (es : Nat) (d s : AOpd)
  | clear (es : Nat) (zs : List AVal) (x : AOpd)
  | call (raw : Bool) (f : FuncId) (args : List AOpd)
  | callv (raw : Bool) (x : AOpd) (args : List AOpd)
  | look (ks ok : Bool) (z : AVal) (m k : AOpd)
  | upd (ks : Bool) (m k v : AOpd)
  | panic (x : AOpd)
  | b2s (x : AOpd)      -- bytes as a text
  | s2b (x : AOpd)      -- a text as bytes
  deriving Inhabited
structure AOper where
  dst : Option Nat
  op : AOp
  guard : Option (Nat × Bool)
  deriving Inhabited
inductive ACode where
  | skip
  | reg (l : List AOper)
  | draw (m : Nat) (l : List (AOper × Nat × List Nat))   -- each with the place kept for its block, and those before it that it waits for
  | seq (a b : ACode)
  | cond (c : AOpd) (a b : ACode)
  | block (id : Nat) (a : ACode)
  | loop (keep : List Nat) (a : ACode)
  | exit (id : Nat)
  | ret
  | prune (keep : List Nat)   -- nothing is done: the other places are not read any more
  | own (t : Nat) (off : Option Nat)   -- nothing is done: an empty slice of a variable is from here on one that may be appended to
  | shutl (t : Nat) (off : Option Nat)   -- nothing is done: a variable's list, still open, is not written any more
  | fork (t : Nat) (keep : List Nat) (a : ACode)   -- the code, where it does not matter whether an empty slice is nil
  | scope (a : ACode)   -- labels that nothing goes to
  | ext (n : Nat) (g : List AVal → Option AVal)   -- all of a function of so many parameters, known by a contract
  | stmt (keep : List Nat) (frz : List (Nat × Option Nat)) (a : ACode)   -- a statement; behind it the other places are not read any more, some lists are not appended to any more, and the heap is cut back
  deriving Inhabited
inductive ARes where
  | t (n : Nat)
  | cs (n : Nat)
  | ca (n k : Nat)
  deriving Inhabited
structure AFunc where
  body : ACode
  results : List ARes
  deriving Inhabited
inductive Ex where
  | ok (v : AVal)
  | pan (v : AVal)
  deriving Inhabited
inductive AEx where
  | norm
  | exit (id : Nat)
  | ret
  | pan (v : AVal)
  deriving Inhabited
structure Ctx where
  call : FuncId → List AVal → Heap → Option (Ex × Heap)
  fuel : Nat
def AOpd.ev (e : Env) : AOpd → Option AVal
  | .t n => e.get n
  | .c v => some v
def evs (e : Env) : List AOpd → Option (List AVal)
  | [] => some []
  | x :: xs => match x.ev e with
    | some v => match evs e xs with
      | some vs => some (v :: vs)
      | none => none
    | none => none
def bitsA (k : IntKind) (r : BitVec k.bits) : Option AVal := some (.int k (k.wrap r.toNat))
def binInt (op : BinOp) (k : IntKind) (a b : Int) : Option AVal :=
  match op with
  | .add => some (.int k (k.wrap (a + b)))
  | .sub => some (.int k (k.wrap (a - b)))
  | .mul => some (.int k (k.wrap (a * b)))
  | .quo => if b = 0 then none else some (.int k (k.wrap (a.tdiv b)))
  | .rem => if b = 0 then none else some (.int k (a.tmod b))
  | .and => bitsA k (BitVec.ofInt k.bits a &&& BitVec.ofInt k.bits b)
  | .or => bitsA k (BitVec.ofInt k.bits a ||| BitVec.ofInt k.bits b)
  | .xor => bitsA k (BitVec.ofInt k.bits a ^^^ BitVec.ofInt k.bits b)
  | .andNot => bitsA k (BitVec.ofInt k.bits a &&& ~~~ BitVec.ofInt k.bits b)
  | .eql => some (.bool (decide (a = b)))
  | .neq => some (.bool (!decide (a = b)))
  | .lss => some (.bool (decide (a < b)))
  | .leq => some (.bool (decide (a ≤ b)))
  | .gtr => some (.bool (decide (b < a)))
  | .geq => some (.bool (decide (b ≤ a)))
  | .shl | .shr => none
def shiftA (op : BinOp) (k : IntKind) (a b : Int) : Option AVal :=
  if b < 0 then none else
  match op with
  | .shl => some (.int k (k.wrap (a * 2 ^ (min b.toNat k.bits))))
  | .shr => some (.int k (a.fdiv (2 ^ (min b.toNat k.bits))))
  | _ => none
def binStr (op : BinOp) (a b : List UInt8) : Option AVal :=
  match op with
  | .add => if a.length + b.length ≤ 4611686018427387904 then some (.str (a ++ b)) else none
  | .eql => some (.bool (a == b))
  | .neq => some (.bool (!(a == b)))
  | .lss => some (.bool (Op.bytesLess a b))
  | .leq => some (.bool (Op.bytesLess a b || a == b))
  | .gtr => some (.bool (!(Op.bytesLess a b || a == b)))
  | .geq => some (.bool (!Op.bytesLess a b))
  | _ => none
def binA (op : BinOp) (x y : AVal) : Option AVal :=
  match x, y with
  | .int k a, .int k' b => match op with
    | .shl => shiftA .shl k a b
    | .shr => shiftA .shr k a b
    | op => if k = k' then binInt op k a b else none
  | .str a, .str b => binStr op a b
  | _, _ => none
def isNil : NilK → AVal → Option Bool
  | .ptr, .nilp => some true
  | .ptr, .ptr _ _ => some false
  | .ptr, .ro _ => some false
  | .fn, .nilf => some true
  | .fn, .fn _ _ => some false
  | .iface, .nili => some true
  | .iface, .iface _ _ => some false
  | .map, .nilm => some true
  | .map, .map _ => some false
  | .slice, .gl _ len => if 0 < len then some false else none
  | .slice, .emp b => some b
  | .slice, .lst (_ :: _) _ => some false
  | .slice, .sl _ _ _ _ _ => some false
  | _, _ => none
def eqOne : SK → AVal → AVal → Option Bool
  | .i, .int k a, .int k' b => if k = k' then some (decide (a = b)) else none
  | .b, .bool a, .bool b => some (a == b)
  | .s, .str a, .str b => some (a == b)
  | _, _, _ => none
def eqCells : List SK → List AVal → List AVal → Option Bool
  | [], [], [] => some true
  | q :: qs, x :: xs, y :: ys => match eqOne q x y, eqCells qs xs ys with
    | some a, some b => some (a && b)
    | _, _ => none
  | _, _, _ => none
def eqA (d : EqD) (x y : AVal) : Option Bool :=
  match d with
  | .bool => match x, y with
    | .bool a, .bool b => some (a == b)
    | _, _ => none
  | .ints ks => match x, y with
    | .agg a, .agg b => eqCells ks a b
    | _, _ => none
def unA (op : UnOp) (x : AVal) : Option AVal :=
  match op, x with
  | .neg, .int k n => some (.int k (k.wrap (0 - n)))
  | .xor, .int k n => some (.int k (k.wrap (BitVec.ofInt k.bits (if k.signed then -1 else k.max) ^^^ BitVec.ofInt k.bits n).toNat))
  | .not, .bool b => some (.bool !b)
  | _, _ => none
def part (off : Nat) (sz : Option Nat) (cs : List AVal) : Option AVal :=
  match sz with
  | none => cs[off]?
  | some n => if off + n ≤ cs.length then some (.agg ((cs.drop off).take n)) else none
def putCells {α : Type} (off : Nat) (new cs : List α) : List α := cs.take off ++ new ++ cs.drop (off + new.length)
def buildA (e : Env) : List (Nat × Nat × AOpd) → List AVal → Option (List AVal)
  | [], cs => some cs
  | (off, sz, x) :: r, cs => match x.ev e with
    | some v => if v.solid = true ∧ v.width = sz ∧ off + sz ≤ cs.length then buildA e r (putCells off v.flat cs) else none
    | none => none
def elemsOf (H : Heap) : AVal → Option (List AVal)
  | .lst xs _ => some xs
  | .emp _ => some []
  | .gl o len => match H[o]? with
    | some (.grow _ xs _) => if xs.length = len then some xs else none
    | _ => none
  | .sl b off len _ w => y22 H b off len w
  | .str s => some (s.map fun b => .int .u8 b.toNat)
  | _ => none
def lenOf (H : Heap) (k : LenK) (v : AVal) : Option Nat :=
  match k, v with
  | .slice, .lst xs _ => some xs.length
  | .slice, .emp _ => some 0
  | .slice, .gl _ len => some len
  | .slice, .sl _ _ len _ _ => some len
  | .str, .str s => some s.length
  | .map, .nilm => some 0
  | .map, .map b => match H[b]? with
    | some (.mp es) => some es.length
    | _ => none
  | _, _ => none
def goI (n : Int) : AVal := .int .i64 n
def newAt (H : Heap) (id : Nat) (B : ABlock) : Option Heap :=
  if id = H.length then some (H ++ [B]) else
  match H[id]? with
  | some .hole => some (H.set id B)
  | _ => none
def optEv (e : Env) : Option AOpd → Option (Option AVal)
  | none => some none
  | some x => match x.ev e with
    | some v => some (some v)
    | none => none
def bnd (y : Nat) : AVal → Option Nat
  | .int _ i => if 0 ≤ i ∧ i ≤ y then some i.toNat else none
  | _ => none
def bounds (len cap : Nat) (lo hi mx : Option AVal) : Option (Nat × Nat × Nat) :=
  match (match mx with
    | none => some cap
    | some v => bnd cap v) with
  | none => none
  | some m => match (match hi with
      | none => if mx.isSome then none else some len
      | some v => bnd m v) with
    | none => none
    | some h => match (match lo with
        | none => some 0
        | some v => bnd h v) with
      | none => none
      | some l => some (l, h, m)
def keyEq (ks : Bool) (x y : AVal) : Option Bool :=
  match ks, x, y with
  | false, .int k a, .int k' b => if k = k' then some (decide (a = b)) else none
  | true, .str a, .str b => some (a == b)
  | _, _, _ => none
def keyOk (ks : Bool) (x : AVal) : Bool :=
  match ks, x with
  | false, .int _ _ => true
  | true, .str _ => true
  | _, _ => false
def findKey (ks : Bool) (k : AVal) : List (AVal × AVal) → Option (Option AVal)
  | [] => some none
  | (k', v) :: r => match keyEq ks k k' with
    | some true => some (some v)
    | some false => findKey ks k r
    | none => none
def setKey (ks : Bool) (k v : AVal) : List (AVal × AVal) → Option (List (AVal × AVal))
  | [] => some [(k, v)]
  | (k', v') :: r => match keyEq ks k k' with
    | some true => some ((k', v) :: r)
    | some false => match setKey ks k v r with
      | some r' => some ((k', v') :: r')
      | none => none
    | none => none
def pureRes (r : Option (Ex × Heap)) : Option Ex :=
  match r with
  | some (.ok v, H) => match shutR H v with
    | some v' => some (.ok v')
    | none => none
  | some (.pan v, H) => match shutR H v with
    | some v' => some (.pan v')
    | none => none
  | none => none
def cutH (n : Nat) (v : AVal) (H : Heap) : Heap := if H.length ≤ n then H else if lowV n v && lowH n (H.take n) then H.take n else H
def cutRes (n : Nat) : Option (Ex × Heap) → Option (Ex × Heap)
  | some (.ok v, H) => some (.ok v, cutH n v H)
  | some (.pan v, H) => some (.pan v, cutH n v H)
  | none => none
def callA (C : Ctx) (raw : Bool) (f : FuncId) (args : List AVal) (H : Heap) : Option (Ex × Heap) :=
  if raw then cutRes H.length (C.call f args H) else
  match shutL H args with
  | some as => match pureRes (C.call f as []) with
    | some x => some (x, H)
    | none => none
  | none => cutRes H.length (C.call f args H)
def loadS (H : Heap) : AVal → Option AVal
  | .ptr b off => match H[b]? with
    | some (.cells vs) => vs[off]?
    | _ => none
  | .ro (c :: _) => some c
  | .lptr o l a => match H[o]? with
    | some (.grow es xs (some _)) => if l = xs.length then match xs[a / es]? with
        | some y => y.flat[a % es]?
        | none => none
      else none
    | _ => none
  | _ => none
def loadA (H : Heap) (n : Nat) : AVal → Option AVal
  | .ptr b off => match H[b]? with
    | some (.cells vs) => if off + n ≤ vs.length then some (.agg ((vs.drop off).take n)) else none
    | _ => none
  | .ro cs => if n ≤ cs.length then some (.agg (cs.take n)) else none
  | .lptr o l a => match H[o]? with
    | some (.grow es xs (some _)) => if l = xs.length ∧ a % es + n ≤ es then match xs[a / es]? with
        | some y => some (.agg ((y.flat.drop (a % es)).take n))
        | none => none
      else none
    | _ => none
  | _ => none
def storeA (H : Heap) (n : Nat) (x v : AVal) : Option Heap :=
  if v.solid = true ∧ v.width = n then
    match x with
    | .ptr b off => match H[b]? with
      | some (.cells vs) => if off + n ≤ vs.length then some (H.set b (.cells (putCells off v.flat vs))) else none
      | _ => none
    | .lptr o l a => match H[o]? with
      | some (.grow es xs (some f)) => match shutV H v with
        | some v' => if f + 1 ≤ l ∧ l = xs.length ∧ a = (l - 1) * es ∧ n = es ∧ v'.width = es then some (H.set o (.grow es (xs.set (l - 1) v') none)) else none
        | none => none
      | _ => none
    | _ => none
  else none
def putEl (off : Nat) (v : AVal) : AVal → AVal
  | .agg cs => .agg (putCells off v.flat cs)
  | _ => v
def storeK (H : Heap) (n : Nat) (x v : AVal) : Option Heap :=
  if v.solid = true ∧ v.width = n then
    match x with
    | .lptr o l a => match H[o]? with
      | some (.grow es xs (some f)) => match shutV H v with
        | some v' => match xs[a / es]? with
          | some y => if f ≤ a / es ∧ l = xs.length ∧ a % es + n ≤ es ∧ 0 < n then some (H.set o (.grow es (xs.set (a / es) (putEl (a % es) v' y)) (some f))) else none
          | none => none
        | none => none
      | _ => none
    | _ => none
  else none
def appendA (H : Heap) (id : Nat) (es bytes : Nat) (opn : Bool) (s x : AVal) : Option (AVal × Heap) :=
  match elemsOf H x with
  | none => none
  | some ys =>
      if ys.all (fun y => decide (y.width = es)) = true then
        match s with
        | .lst xs e =>
          if ys.isEmpty then some (s, H)
          else if e = true ∧ xs.all (fun y => decide (y.width = es)) = true ∧ (xs.length + ys.length) * bytes ≤ 140737488355328 then
            match newAt H id (.grow es (xs ++ ys) (if opn then some xs.length else none)) with
            | some H' => some (.gl id (xs.length + ys.length), H')
            | none => none
          else none
        | .gl o len => match H[o]? with
          | some (.grow es0 xs op0) =>
            if len = xs.length ∧ (es0 = es ∨ es0 = 0) ∧ xs.all (fun y => decide (y.width = es)) = true then
              if ys.isEmpty then some (s, H)
              else if (xs.length + ys.length) * bytes ≤ 140737488355328 then
                some (.gl o (xs.length + ys.length), H.set o (.grow es (xs ++ ys) (if opn then some (op0.getD xs.length) else none)))
              else none
            else none
          | _ => none
        | _ => none
      else none
def okv (H : Heap) : Option AVal → Option (Ex × Heap)
  | some v => some (.ok v, H)
  | none => none
def evP (e : Env) : AOp → Option AVal
  | .mv x => x.ev e
  | .pick c a b => match c.ev e with
    | some (.bool true) => a.ev e
    | some (.bool false) => b.ev e
    | _ => none
  | .bin op x y => match x.ev e, y.ev e with
    | some a, some b => binA op a b
    | _, _ => none
  | .eqv neg d x y => match x.ev e, y.ev e with
    | some a, some b => match eqA d a b with
      | some r => some (.bool (if neg then !r else r))
      | none => none
    | _, _ => none
  | .isnil k neg x => match x.ev e with
    | some a => match isNil k a with
      | some r => some (.bool (if neg then !r else r))
      | none => none
    | none => none
  | .un op x => match x.ev e with
    | some a => unA op a
    | none => none
  | .cvi k x => match x.ev e with
    | some (.int _ n) => some (.int k (k.wrap n))
    | _ => none
  | .cvs x => match x.ev e with
    | some (.str s) => some (.str s)
    | _ => none
  | .mki t x => match x.ev e with
    | some v => some (.iface t v)
    | none => none
  | .mkf f caps => match evs e caps with
    | some vs => some (.fn f vs)
    | none => none
  | .fld off sz x => match x.ev e with
    | some (.agg cs) => part off sz cs
    | _ => none
  | .ixs x i => match x.ev e, i.ev e with
    | some (.str s), some (.int _ n) => if 0 ≤ n then (s[n.toNat]?).map fun b => .int .u8 b.toNat else none
    | _, _ => none
  | .ixa len es sz x i => match x.ev e, i.ev e with
    | some (.agg cs), some (.int _ n) => if 0 ≤ n ∧ n < len then part (n.toNat * es) sz cs else none
    | _, _ => none
  | .fa off x => match x.ev e with
    | some (.ptr b o) => some (.ptr b (o + off))
    | some (.ro cs) => if off < cs.length then some (.ro (cs.drop off)) else none
    | some (.lptr o l c) => some (.lptr o l (c + off))
    | _ => none
  | .nc x => match x.ev e with
    | some (.ptr b o) => some (.ptr b o)
    | some (.ro cs) => some (.ro cs)
    | some (.lptr o l c) => some (.lptr o l c)
    | _ => none
  | .iaa len es x i => match x.ev e, i.ev e with
    | some (.ptr b o), some (.int _ n) => if 0 ≤ n ∧ n < len then some (.ptr b (o + n.toNat * es)) else none
    | some (.ro cs), some (.int _ n) => if 0 ≤ n ∧ n < len ∧ n.toNat * es < cs.length then some (.ro (cs.drop (n.toNat * es))) else none
    | _, _ => none
  | .ext i x => match x.ev e with
    | some (.tup vs) => vs[i]?
    | _ => none
  | .build zs parts => match buildA e parts zs with
    | some cs => some (.agg cs)
    | none => none
  | .mm isMax x y => match x.ev e, y.ev e with
    | some (.int k a), some (.int k' b) => if k = k' then some (.int k (if isMax then (if b > a then b else a) else (if b < a then b else a))) else none
    | _, _ => none
  | .slcs x lo hi => match x.ev e, optEv e lo, optEv e hi with
    | some (.str s), some lo, some hi => match bounds s.length s.length lo hi none with
      | some (l, h, _) => some (.str ((s.take h).drop l))
      | none => none
    | _, _, _ => none
  | _ => none
def evN (e : Env) (id : Nat) : AOp → Option (AVal × ABlock)
  | .alloc zs => some (.ptr id 0, .cells zs)
  | .box x => match x.ev e with
    | some v => if v.solid = true then some (.ptr id 0, .cells v.flat) else none
    | none => none
  | .mks es bytes w zs l c => match l.ev e, c.ev e with
    | some (.int _ l), some (.int _ c) =>
      if 0 ≤ l ∧ l ≤ c ∧ c < 9223372036854775808 ∧ bytes * c ≤ 281474976710656 ∧ zs.length = es ∧ wide w = es then
        some (.sl id 0 l.toNat c.toNat w, .cells (flatL (List.replicate c.toNat (.agg zs))))
      else none
    | _, _ => none
  | .mkm => some (.map id, .mp [])
  | _ => none
def asLst (H : Heap) : AVal → Option (List AVal × Bool)
  | .lst xs e => some (xs, e)
  | .gl o len => match growAt H o len with
    | some (.lst xs _) => some (xs, false)
    | _ => none
  | _ => none
def cutLst (es : Nat) (xs : List AVal) (exact : Bool) (lo hi mx : Option AVal) : Option AVal :=
  match mx with
  | some (.int k m) => if m = 0 then match bounds xs.length xs.length lo hi (some (.int k 0)) with
      | some _ => some (.lst [] true)
      | none => none
    else none
  | some _ => none
  | none => match bounds xs.length xs.length lo hi none with
    | some (l, h, _) => if xs.all (fun y => decide (y.width = es)) = true then some (.lst ((xs.take h).drop l) (exact && decide (h = xs.length))) else none
    | none => none
def cutOpen (H : Heap) (es : Nat) (s : AVal) (lo hi mx : Option AVal) : Option (AVal × Heap) :=
  match s, lo, hi, mx with
  | .gl o len, none, some (.int _ h), none => match H[o]? with
    | some (.grow es0 xs (some f)) =>
      if len = xs.length ∧ f ≤ h ∧ h ≤ len ∧ es0 = es then some (.gl H.length h.toNat, (H.set o .dead) ++ [.grow es (xs.take h.toNat) (if f = h.toNat then none else some f)]) else none
    | _ => none
  | .gl o len, some (.int _ l), none, none => match H[o]? with
    | some (.grow es0 xs (some f)) =>
      if len = xs.length ∧ f ≤ l ∧ l < len ∧ es0 = es then some (.gtl o len l.toNat es, H) else none
    | _ => none
  | _, _, _, _ => none
def zeroAs (zs : List AVal) : AVal → AVal
  | .agg _ => .agg zs
  | _ => zs.headD .nilp
def aggV : AVal → Bool
  | .agg _ => true
  | _ => false
def bslGo (e : Env) (H : Heap) (es : Nat) : List (Nat × AOpd) → List AVal → Option (List AVal)
  | [], xs => some xs
  | (i, x) :: r, xs => match x.ev e with
    | some v => match shutV H v with
      | some v => if v.solid = true ∧ v.width = es ∧ i < xs.length then bslGo e H es r (xs.set i v) else none
      | none => none
    | none => none
def bytesOf : List AVal → Option (List UInt8)
  | [] => some []
  | .int .u8 n :: r => match bytesOf r with
    | some s => some (UInt8.ofNat n.toNat :: s)
    | none => none
  | _ => none
def evH (C : Ctx) (e : Env) (id : Nat) (H : Heap) : AOp → Option (Ex × Heap)
  | .ia es x i => match x.ev e, i.ev e with
    | some (.gl o len), some (.int _ n) => match H[o]? with
      | some (.grow _ xs op) =>
        if 0 ≤ n ∧ n < len ∧ len = xs.length ∧ (xs[n.toNat]?).any (fun y => decide (y.width = es)) = true then
          match op with
          | none => (xs[n.toNat]?).bind fun y => some (.ok (.ro y.flat), H)
          | some f => if f ≤ n.toNat then some (.ok (.lptr o len (n.toNat * es)), H) else none
        else none
      | _ => none
    | some (.lst xs _), some (.int _ n) =>
      if 0 ≤ n then match xs[n.toNat]? with
        | some y => if y.width = es then some (.ok (.ro y.flat), H) else none
        | none => none
      else none
    | some (.sl b off len _ w), some (.int _ n) =>
      if 0 ≤ n ∧ n < len ∧ wide w = es then some (.ok (.ptr b (off + n.toNat * es)), H) else none
    | _, _ => none
  | .bsl es z len parts =>
    if z.width = es ∧ len * es ≤ 16777216 then
      match bslGo e H es parts (List.replicate len z) with
      | some xs => some (.ok (.lst xs true), H)
      | none => none
    else none
  | .lds x => match x.ev e with
    | some a => okv H (loadS H a)
    | none => none
  | .lda n x => match x.ev e with
    | some a => okv H (loadA H n a)
    | none => none
  | .sts x v => match x.ev e, v.ev e with
    | some a, some v => match storeA H 1 a v with
      | some H' => some (.ok undefA, H')
      | none => none
    | _, _ => none
  | .sta n x v => match x.ev e, v.ev e with
    | some a, some v => match storeA H n a v with
      | some H' => some (.ok undefA, H')
      | none => none
    | _, _ => none
  | .stk n x v => match x.ev e, v.ev e with
    | some a, some v => match storeK H n a v with
      | some H' => some (.ok undefA, H')
      | none => none
    | _, _ => none
  | .slc es x lo hi mx => match x.ev e, optEv e lo, optEv e hi, optEv e mx with
    | some (.sl b off len cap w), some lo, some hi, some mx => match bounds len cap lo hi mx with
      | some (l, h, m) => if wide w = es ∧ l < m ∧ len ≤ cap then some (.ok (.sl b (off + l * es) (h - l) (m - l) w), H) else none
      | none => none
    | some s, some lo, some hi, some mx => match cutOpen H es s lo hi mx with
      | some (v, H') => some (.ok v, H')
      | none => match asLst H s with
        | some (xs, exact) => match cutLst es xs exact lo hi mx with
          | some v => some (.ok v, H)
          | none => none
        | none => none
    | _, _, _, _ => none
  | .slca len es w x lo hi mx => match x.ev e, optEv e lo, optEv e hi, optEv e mx with
    | some (.ptr b off), some lo, some hi, some mx => match bounds len len lo hi mx with
      | some (l, h, m) => if wide w = es ∧ l < m then some (.ok (.sl b (off + l * es) (h - l) (m - l) w), H) else none
      | none => none
    | _, _, _, _ => none
  | .len k x => match x.ev e with
    | some v => okv H ((lenOf H k v).map fun (n : Nat) => goI n)
    | none => none
  | .cap x => match x.ev e with
    | some (.sl _ _ _ c _) => some (.ok (goI c), H)
    | some (.lst xs true) => some (.ok (goI xs.length), H)
    | _ => none
  | .app es bytes opn s x => match s.ev e, x.ev e with
    | some s, some x => match appendA H id es bytes opn s x with
      | some (v, H') => some (.ok v, H')
      | none => none
    | _, _ => none
  | .appz es bytes z s n => match s.ev e, n.ev e with
    | some (.lst xs e), some (.int _ n) =>
      if 0 ≤ n ∧ z.width = es ∧ xs.all (fun y => decide (y.width = es)) = true then
        if n = 0 then some (.ok (.lst xs e), H)
        else if e = true ∧ (xs.length + n.toNat) * bytes ≤ 140737488355328 ∧ n < 9223372036854775808 then
          match newAt H id (.grow es (xs ++ List.replicate n.toNat z) (some xs.length)) with
          | some H' => some (.ok (.gl id (xs.length + n.toNat)), H')
          | none => none
        else none
      else none
    | _, _ => none
  | .copy es d s => match d.ev e, s.ev e with
    | some (.sl b off len _ w), some s => match elemsOf H s with
      | some ys => match H[b]? with
        | some (.cells vs) =>
          let n := min ys.length len
          if wide w = es ∧ off + len * es ≤ vs.length ∧ ys.all (fun y => decide (y.width = es)) = true then
            some (.ok (goI n), H.set b (.cells (putCells off (flatL (ys.take n)) vs)))
          else none
        | _ => none
      | none => none
    | _, _ => none
  | .clear es zs x => match x.ev e with
    | some (.sl b off len _ w) => match H[b]? with
      | some (.cells vs) =>
        if wide w = es ∧ off + len * es ≤ vs.length ∧ zs.length = es then
          some (.ok undefA, H.set b (.cells (putCells off (flatL (List.replicate len (.agg zs))) vs)))
        else none
      | _ => none
    | some (.gtl o l lo es') => match H[o]? with
      | some (.grow es0 xs (some f)) =>
        if es' = es ∧ es0 = es ∧ l = xs.length ∧ f ≤ lo ∧ lo < l ∧ zs.length = es ∧ zs.all (fun z => lowV 0 z && !(aggV z)) = true ∧ (es = 1 ∨ (xs.drop lo).all aggV = true) then
          some (.ok undefA, H.set o (.grow es (xs.take lo ++ (xs.drop lo).map (zeroAs zs)) (some f)))
        else none
      | _ => none
    | _ => none
  | .call raw f args => match evs e args with
    | some vs => callA C raw f vs H
    | none => none
  | .callv raw x args => match x.ev e, evs e args with
    | some (.fn f caps), some vs => callA C raw f (vs ++ caps) H
    | _, _ => none
  | .look ks ok z m k => match m.ev e, k.ev e with
    | some (.map b), some k => match H[b]? with
      | some (.mp es) => if keyOk ks k then match findKey ks k es with
        | some (some v) => some (.ok (if ok then .tup [v, .bool true] else v), H)
        | some none => some (.ok (if ok then .tup [z, .bool false] else z), H)
        | none => none
        else none
      | _ => none
    | _, _ => none
  | .upd ks m k v => match m.ev e, k.ev e, v.ev e with
    | some (.map b), some k, some v => match H[b]? with
      | some (.mp es) => if keyOk ks k then match setKey ks k v es with
        | some es' => some (.ok undefA, H.set b (.mp es'))
        | none => none
        else none
      | _ => none
    | _, _, _ => none
  | .panic x => match x.ev e with
    | some (.iface t v) => some (.pan (.iface t v), H)
    | _ => none
  | .s2b x => match x.ev e with
    | some (.str s) => some (.ok (.lst (s.map fun b => .int .u8 b.toNat) false), H)
    | _ => none
  | .b2s x => match x.ev e with
    | some (.lst xs _) => match bytesOf xs with
      | some s => some (.ok (.str s), H)
      | none => none
    | _ => none
  | _ => none
inductive Kind where
  | pure
  | new
  | heap
  deriving DecidableEq, Inhabited
def AOp.kind : AOp → Kind
  | .mv _ | .pick _ _ _ | .bin _ _ _ | .eqv _ _ _ _ | .isnil _ _ _ | .un _ _ | .cvi _ _ | .cvs _ | .mki _ _ | .mkf _ _ | .fld _ _ _ | .ixs _ _ | .ixa _ _ _ _ _ | .fa _ _ | .nc _ | .iaa _ _ _ _
  | .ext _ _ | .build _ _ | .mm _ _ _ | .slcs _ _ _ => .pure
  | .alloc _ | .box _ | .mks _ _ _ _ _ _ | .mkm => .new
  | _ => .heap
def evalOp (C : Ctx) (e : Env) (id : Nat) (H : Heap) (op : AOp) : Option (Ex × Heap) :=
  match op.kind with
  | .pure => okv H (evP e op)
  | .new => match evN e id op with
    | some (v, B) => match newAt H id B with
      | some H' => some (.ok v, H')
      | none => none
    | none => none
  | .heap => evH C e id H op
def wantedA (e : Env) : Option (Nat × Bool) → Option Bool
  | none => some true
  | some (t, want) => match e.get t with
    | some (.bool b) => some (b == want)
    | some (.tup []) => some false
    | _ => none
def evalOps (C : Ctx) : List AOper → Env → Heap → Option (AEx × Env × Heap)
  | [], e, H => some (.norm, e, H)
  | o :: r, e, H => match wantedA e o.guard with
    | some true => match evalOp C e H.length H o.op with
      | some (.ok v, H') => evalOps C r (e.put o.dst v) H'
      | some (.pan v, H') => some (.pan v, e, H')
      | none => none
    | some false => evalOps C r (e.put o.dst undefA) H
    | none => none
inductive Foot where
  | io (r w : List Nat)
  | opq (H H' : Heap)
  deriving Inhabited
mutual
def glsV : AVal → List Nat
  | .gl o _ => [o]
  | .agg cs => glsL cs
  | .tup vs => glsL vs
  | .iface _ v => glsV v
  | .fn _ caps => glsL caps
  | _ => []
def glsL : List AVal → List Nat
  | [] => []
  | v :: vs => glsV v ++ glsL vs
end
def partsGls (e : Env) : List (Nat × AOpd) → List Nat
  | [] => []
  | (_, x) :: r => match x.ev e with
    | some v => glsV v ++ partsGls e r
    | none => []
def footArgs (H : Heap) (vs : List AVal) : Option (List Nat × List Nat) :=
  match shutL H vs with
  | some _ => some (glsL vs, [])
  | none => none
def footH (e : Env) (H : Heap) : AOp → Option (List Nat × List Nat)
  | .ia _ x _ => match x.ev e with
    | some (.gl o _) => some ([o], [])
    | _ => some ([], [])
  | .bsl _ _ _ parts => some (partsGls e parts, [])
  | .lds x => match x.ev e with
    | some (.ptr b _) => some ([b], [])
    | some (.lptr o _ _) => some ([o], [])
    | _ => some ([], [])
  | .lda _ x => match x.ev e with
    | some (.ptr b _) => some ([b], [])
    | some (.lptr o _ _) => some ([o], [])
    | _ => some ([], [])
  | .sts x _ => match x.ev e with
    | some (.ptr b _) => some ([b], [b])
    | _ => none
  | .sta _ x v => match x.ev e with
    | some (.ptr b _) => some ([b], [b])
    | some (.lptr o _ _) => match v.ev e with
      | some v => some (o :: glsV v, [o])
      | none => none
    | _ => none
  | .slc _ x _ _ _ => match x.ev e with
    | some (.sl _ _ _ _ _) => some ([], [])
    | some (.lst _ _) => some ([], [])
    | _ => none
  | .slca _ _ _ _ _ _ _ => some ([], [])
  | .len _ x => match x.ev e with
    | some (.map b) => some ([b], [])
    | _ => some ([], [])
  | .cap _ => some ([], [])
  | .b2s _ => some ([], [])
  | .s2b _ => some ([], [])
  | .look _ _ _ m _ => match m.ev e with
    | some (.map b) => some ([b], [])
    | _ => none
  | .call raw _ args => match raw, evs e args with
    | false, some vs => footArgs H vs
    | _, _ => none
  | .callv raw x args => match raw, x.ev e, evs e args with
    | false, some (.fn _ caps), some vs => footArgs H (vs ++ caps)
    | _, _, _ => none
  | _ => none
def footA (e : Env) (id : Nat) (H H' : Heap) (op : AOp) : Foot :=
  match op.kind with
  | .pure => .io [] []
  | .new => .io [id] [id]
  | .heap => match footH e H op with
    | some (r, w) => .io r w
    | none => .opq H H'
def notIn (b : Nat) : List Nat → Bool
  | [] => true
  | x :: xs => !Nat.beq x b && notIn b xs
def noneIn (l : List Nat) : List Nat → Bool
  | [] => true
  | x :: xs => notIn x l && noneIn l xs
mutual
def sameV : AVal → AVal → Bool
  | .int k n, .int k' n' => decide (k = k') && decide (n = n')
  | .bool b, .bool b' => b == b'
  | .str s, .str s' => decide (s = s')
  | .nilp, .nilp => true
  | .nili, .nili => true
  | .nilf, .nilf => true
  | .nilm, .nilm => true
  | .iface t v, .iface t' v' => Nat.beq t t' && sameV v v'
  | .agg cs, .agg cs' => sameL cs cs'
  | .tup cs, .tup cs' => sameL cs cs'
  | .lst xs e, .lst xs' e' => sameL xs xs' && (e == e')
  | .gl o l, .gl o' l' => Nat.beq o o' && Nat.beq l l'
  | .lptr o i w, .lptr o' i' w' => Nat.beq o o' && Nat.beq i i' && Nat.beq w w'
  | .gtl o i w k, .gtl o' i' w' k' => Nat.beq o o' && Nat.beq i i' && Nat.beq w w' && Nat.beq k k'
  | .sl b o l c w, .sl b' o' l' c' w' => Nat.beq b b' && Nat.beq o o' && Nat.beq l l' && Nat.beq c c' && decide (w = w')
  | .ptr b o, .ptr b' o' => Nat.beq b b' && Nat.beq o o'
  | .ro cs, .ro cs' => sameL cs cs'
  | .fn f caps, .fn f' caps' => Nat.beq f f' && sameL caps caps'
  | .map b, .map b' => Nat.beq b b'
  | .emp b, .emp b' => b == b'
  | _, _ => false
def sameL : List AVal → List AVal → Bool
  | [], [] => true
  | v :: vs, v' :: vs' => sameV v v' && sameL vs vs'
  | _, _ => false
end
def sameP : List (AVal × AVal) → List (AVal × AVal) → Bool
  | [], [] => true
  | (k, v) :: r, (k', v') :: r' => sameV k k' && sameV v v' && sameP r r'
  | _, _ => false
def sameB : Option ABlock → Option ABlock → Bool
  | some (.cells vs), some (.cells vs') => sameL vs vs'
  | some (.grow es xs op), some (.grow es' xs' op') => Nat.beq es es' && sameL xs xs' && decide (op = op')
  | some (.mp es), some (.mp es') => sameP es es'
  | some .hole, some .hole => true
  | some .dead, some .dead => true
  | none, none => true
  | _, _ => false
def sameOn (H H' : Heap) : List Nat → Bool
  | [] => true
  | b :: bs => sameB H[b]? H'[b]? && sameOn H H' bs
def disj : Foot → Foot → Bool
  | .io r w, .io r' w' => noneIn r' w && noneIn r w'
  | .io r [], .opq H H' => sameOn H H' r
  | .opq H H', .io r [] => sameOn H H' r
  | _, _ => false
def okEarlier (deps : List Nat) (f : Foot) : Nat → List Foot → Bool
  | _, [] => true
  | o, g :: gs => (disj g f || !notIn o deps) && okEarlier deps f (o + 1) gs
def okFs (all : List Foot) : Nat → List (AOper × Nat × List Nat) → List Foot → Bool
  | _, [], [] => true
  | i, p :: ps, f :: fs => okEarlier p.2.2 f 0 (all.take i) && okFs all (i + 1) ps fs
  | _, _, _ => false
def stepV (C : Ctx) (base : Nat) (o : AOper) (j : Nat) (e : Env) (H : Heap) : Option (Foot × AVal × Heap) :=
  match wantedA e o.guard with
  | some true =>
    if decide (o.op.kind = .new) && Nat.ble H.length (base + j) then none else
    match evalOp C e (base + j) H o.op with
    | some (.ok v, H') => some (footA e (base + j) H H' o.op, v, H')
    | _ => none
  | some false => some (.io [] [], undefA, H)
  | none => none
def runD (C : Ctx) (base : Nat) : List (AOper × Nat × List Nat) → Env → Heap → Option (List Foot × Env × Heap)
  | [], e, H => some ([], e, H)
  | p :: r, e, H => match stepV C base p.1 p.2.1 e H with
    | some (f, v, H') => match runD C base r (e.put p.1.dst v) H' with
      | some (fs, r') => some (f :: fs, r')
      | none => none
    | none => none
def evalDraw (C : Ctx) (base : Nat) (l : List (AOper × Nat × List Nat)) (e : Env) (H : Heap) : Option (AEx × Env × Heap) :=
  match runD C base l e H with
  | some (fs, e', H') => if okFs fs 0 l fs then some (.norm, e', H') else none
  | none => none
def restr (e : Env) : List Nat → Env
  | [] => []
  | t :: ts => match e.get t with
    | some v => (t, v) :: restr e ts
    | none => restr e ts
def trunc (n : Nat) (e : Env) (H : Heap) : Heap :=
  if H.length ≤ n then H else if lowE n e && lowH n (H.take n) then H.take n else H
def widthL : List AVal → Nat
  | [] => 0
  | x :: _ => x.width
def ownA (t : Nat) (off : Option Nat) (e : Env) (H : Heap) : Env × Heap :=
  match off, e.get t with
  | none, some (.lst xs true) => ((t, .gl H.length xs.length) :: e, H ++ [.grow (widthL xs) xs none])
  | some k, some (.ptr b o) => match H[b]? with
    | some (.cells vs) => match vs[o + k]? with
      | some (.lst xs true) => (e, H.set b (.cells (vs.set (o + k) (.gl H.length xs.length))) ++ [.grow (widthL xs) xs none])
      | _ => (e, H)
    | _ => (e, H)
  | some s, some (.lst ys true) => match e.get s with
    | some (.gl b _) => match H[b]? with
      | some (.grow _ xs _) => if xs.length < ys.length then ((t, .gl b ys.length) :: e, H.set b (.grow (widthL ys) ys none)) else (e, H)
      | _ => (e, H)
    | _ => (e, H)
  | some s, some (.gl b' n') => match e.get s with      -- a longer list in the place of an open one
    | some (.gl b _) => match H[b]?, H[b']? with
      | some (.grow _ xs _), some (.grow es ys op) => if b ≠ b' ∧ n' = ys.length ∧ xs.length < ys.length then ((t, .gl b n') :: e, (H.set b (.grow es ys op)).set b' .dead) else (e, H)
      | _, _ => (e, H)
    | _ => (e, H)
  | _, _ => (e, H)
def sealA (t : Nat) (off : Option Nat) (e : Env) (H : Heap) : Heap :=
  match (match off, e.get t with
    | none, v => v
    | some k, some (.ptr b o) => match H[b]? with
      | some (.cells vs) => vs[o + k]?
      | _ => none
    | _, _ => none) with
  | some (.gl o len) => match H[o]? with
    | some (.grow es xs (some _)) => if len = xs.length then H.set o (.grow es xs none) else H
    | _ => H
  | _ => H
def frzV (H : Heap) : AVal → Option AVal
  | .gl o len => shutV H (.gl o len)
  | .lst xs e => shutV H (.lst xs e)
  | _ => none
def frzA (t : Nat) (off : Option Nat) (e : Env) (H : Heap) : Env × Heap :=
  match off, e.get t with
  | none, some v => match frzV H v with
    | some v' => ((t, v') :: e, H)
    | none => (e, H)
  | some k, some (.ptr b o) => match H[b]? with
    | some (.cells vs) => match vs[o + k]? with
      | some v => match frzV H v with
        | some v' => (e, H.set b (.cells (vs.set (o + k) v')))
        | none => (e, H)
      | _ => (e, H)
    | _ => (e, H)
  | _, _ => (e, H)
def frzAll : List (Nat × Option Nat) → Env → Heap → Env × Heap
  | [], e, H => (e, H)
  | p :: r, e, H => frzAll r (frzA p.1 p.2 e H).1 (frzA p.1 p.2 e H).2
def stmtE (keep : List Nat) (frz : List (Nat × Option Nat)) (e : Env) (H : Heap) : Env := restr (frzAll frz e H).1 keep
def stmtH (n : Nat) (keep : List Nat) (frz : List (Nat × Option Nat)) (e : Env) (H : Heap) : Heap := trunc n (stmtE keep frz e H) (frzAll frz e H).2
def sameE : Env → Env → Bool
  | [], [] => true
  | (k, v) :: r, (k', v') :: r' => Nat.beq k k' && sameV v v' && sameE r r'
  | _, _ => false
def sameH : Heap → Heap → Bool
  | [], [] => true
  | b :: r, b' :: r' => sameB (some b) (some b') && sameH r r'
  | _, _ => false
def meet (keep : List Nat) : Option (AEx × Env × Heap) → Option (AEx × Env × Heap) → Option (AEx × Env × Heap)
  | some (.ret, e, H), some (.ret, e', H') => if sameE (restr e keep) (restr e' keep) && sameH H H' then some (.ret, restr e keep, H) else none
  | some (.norm, e, H), some (.norm, e', H') => if sameE (restr e keep) (restr e' keep) && sameH H H' then some (.norm, restr e keep, H) else none
  | _, _ => none
def iter : Nat → (Env → Heap → Option (AEx × Env × Heap)) → Env → Heap → Option (AEx × Env × Heap)
  | 0, _, _, _ => none
  | k + 1, f, e, H => match f e H with
    | some (.norm, e', H') => iter k f e' H'
    | r => r
def extArgsN (e : Env) : Nat → Option (List AVal)
  | 0 => some []
  | n + 1 => match extArgsN e n with
    | some vs => match e.get n with
      | some v => some (vs ++ [v])
      | none => none
    | none => none
def extArgs (e : Env) (n : Nat) : Option (List AVal) := match e.get n with
  | some _ => none
  | none => extArgsN e n
def y0k : List UInt8 → UInt8 → Int
  | [], _ => -1
  | x :: l, c => if x == c then 0 else match y0k l c with
    | .ofNat n => .ofNat (n + 1)
    | .negSucc n => .negSucc n
def y23 : List AVal → Option AVal
  | [.str s, .int .u8 c] => some (.int .i64 (y0k s (UInt8.ofNat c.toNat)))
  | _ => none
def evalCode (C : Ctx) : ACode → Env → Heap → Option (AEx × Env × Heap)
  | .skip, e, H => some (.norm, e, H)
  | .reg l, e, H => evalOps C l e H
  | .draw m l, e, H => evalDraw C H.length l e (H ++ List.replicate m .hole)
  | .seq a b, e, H => match evalCode C a e H with
    | some (.norm, e', H') => evalCode C b e' H'
    | r => r
  | .cond c a b, e, H => match c.ev e with
    | some (.bool t) => if t = true then evalCode C a e H else evalCode C b e H
    | _ => none
  | .block id a, e, H => match evalCode C a e H with
    | some (.exit j, e', H') => if j = id then some (.norm, e', H') else some (.exit j, e', H')
    | r => r
  | .loop keep a, e, H => iter C.fuel (fun e' H' => evalCode C a (restr e' keep) (trunc H.length (restr e' keep) H')) e H
  | .exit id, e, H => some (.exit id, e, H)
  | .ret, e, H => some (.ret, e, H)
  | .prune keep, e, H => some (.norm, restr e keep, H)
  | .own t off, e, H => some (.norm, (ownA t off e H).1, (ownA t off e H).2)
  | .shutl t off, e, H => some (.norm, e, sealA t off e H)
  | .fork t keep a, e, H => match e.get t with
    | some (.lst [] _) => meet keep (evalCode C a ((t, .emp true) :: e) H) (evalCode C a ((t, .emp false) :: e) H)
    | _ => evalCode C a e H
  | .scope a, e, H => evalCode C a e H
  | .ext n g, e, H => match extArgs e n with
    | some as => match g as with
      | some v => some (.ret, (n, v) :: e, H)
      | none => none
    | none => none
  | .stmt keep frz a, e, H => match evalCode C a e H with
    | some (.norm, e', H') => some (.norm, stmtE keep frz e' H', stmtH H.length keep frz e' H')
    | r => r
def initEnv (i : Nat) : List AVal → Env
  | [] => []
  | v :: vs => (i, v) :: initEnv (i + 1) vs
def resOf (e : Env) (H : Heap) : ARes → Option AVal
  | .t n => e.get n
  | .cs n => match e.get n with
    | some p => loadS H p
    | none => none
  | .ca n k => match e.get n with
    | some p => loadA H k p
    | none => none
def resAll (e : Env) (H : Heap) : List ARes → Option (List AVal)
  | [] => some []
  | r :: rs => match resOf e H r with
    | some v => match resAll e H rs with
      | some vs => some (v :: vs)
      | none => none
    | none => none
def oneOr : List AVal → AVal
  | [v] => v
  | vs => .tup vs
def finish (af : AFunc) : Option (AEx × Env × Heap) → Option (Ex × Heap)
  | some (.norm, e, H) => match resAll e H af.results with
    | some vs => some (.ok (oneOr vs), H)
    | none => none
  | some (.ret, e, H) => match resAll e H af.results with
    | some vs => some (.ok (oneOr vs), H)
    | none => none
  | some (.pan v, _, H) => some (.pan v, H)
  | _ => none
def callF (tab : Nat → Option AFunc) : Nat → FuncId → List AVal → Heap → Option (Ex × Heap)
  | 0, _, _, _ => none
  | n + 1, f, as, H => match tab f with
    | none => none
    | some af => finish af (evalCode ⟨callF tab n, n⟩ af.body (initEnv 0 as) H)
def pcall (tab : Nat → Option AFunc) (n : Nat) (f : FuncId) (as : List AVal) : Option Ex := pureRes (callF tab n f as [])
end Go.Ev
namespace Go.Ev
def indexX : List AVal → Option AVal
  | [.str s, .str [c]] => some (.int .i64 (y0k s c))
  | _ => none
end Go.Ev
