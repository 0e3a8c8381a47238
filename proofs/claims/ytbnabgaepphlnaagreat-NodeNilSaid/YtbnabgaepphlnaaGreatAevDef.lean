/- The abstract interpreter: definitions (values, heap, resolved code, evaluation). -/
import Derived.Orders
import Derived.Scope
import Derived.Defers
set_option linter.unusedVariables false
namespace Go.Aev

inductive Cap where
  | ex (n : Nat)
  | lo (n : Nat)

inductive V where
  | bool (b : Bool)
  | int (k : IntKind) (n : Int)
  | str (s : List UInt8)
  | nilp
  | ptr (b o : Nat)
  | nils
  | sl (b o len : Nat) (cap : Cap) (sz : Nat)
  | nilm
  | map (r : Nat)
  | nilf
  | fn (f : Nat) (first caps : List V)
  | nili
  | ifc (t : Nat) (v : V)
  | agg (cs : List V)
  | tup (vs : List V)

def V.undef : V := .tup []
def V.cells : V → List V
  | .agg cs => cs
  | v => [v]
def V.oneCell : V → Bool
  | .agg _ => false
  | .tup _ => false
  | _ => true

/-- A tree by a number's bits. -/
inductive Tr (α : Type) where
  | e
  | n (l : Tr α) (x : Option α) (r : Tr α)

def Tr.get {α : Type} : Tr α → Nat → Option α
  | .e => fun _ => none
  | .n l x r => fun i => match i with
    | 0 => x
    | j + 1 => bif Nat.beq (j % 2) 0 then l.get (j / 2) else r.get (j / 2)

/-- a place that is there is laid anew. -/
def Tr.set {α : Type} : Tr α → Nat → Option α → Tr α
  | .e => fun _ _ => .e
  | .n l x r => fun i v => match i with
    | 0 => .n l v r
    | j + 1 => bif Nat.beq (j % 2) 0 then .n (l.set (j / 2) v) x r else .n l x (r.set (j / 2) v)
/-- the tree of a depth, nothing in it. -/
def Tr.full {α : Type} : Nat → Tr α
  | 0 => .e
  | d + 1 => .n (Tr.full d) none (Tr.full d)

inductive O where
  | cells (cs : List V) (ro : Bool)
  | map (es : List (V × V × Nat)) (clk : Nat)
  | iter (m : Option Nat) (since : Nat) (seen : List Nat) (stepped : Nat)

structure Hp where
  t : Tr O
  nx : Nat

def Hp.get (h : Hp) (b : Nat) : Option O := h.t.get b
def Hp.put (h : Hp) (b : Nat) (o : O) : Hp := ⟨h.t.set b (some o), h.nx⟩
def Hp.new (h : Hp) (o : O) : Hp := ⟨h.t.set h.nx (some o), h.nx + 1⟩
def Hp.del (h : Hp) (b : Nat) : Hp := ⟨h.t.set b none, h.nx⟩

abbrev Fr := Tr V
def getF (fr : Fr) (t : Nat) : V := match fr.get t with
  | some v => v
  | none => V.undef
def putF (fr : Fr) (d : Option Nat) (v : V) : Fr :=
  match d with
  | some t => fr.set t (some v)
  | none => fr

/-- How two values of a type are held against each other. -/
inductive EqT where
  | int | bool | str | ptr | sl | map | fn | ifc
  | st (fs : List EqT) (pl : List (Nat × Nat × Bool))
  | arr (n : Nat) (e : EqT) (sz : Nat) (ag : Bool)

inductive LenK where
  | str | arr (n : Nat) | sl | map

/-- A resolved operation. -/
inductive OpK where
  | mv | pick
  | alloc (z : List V) | box
  | build (z : List V) (ps : List (Nat × Nat))
  | bsl (sz len : Nat) (z : List V) (ps : List (Nat × Nat))
  | ld | ldA (n : Nat)
  | st (n : Nat)
  | nilc
  | bin (op : BinOp)
  | eq (neg : Bool) (t : EqT)
  | un (op : UnOp)
  | cvi (k : IntKind) | cvs | b2s | s2b | cvm
  | pan
  | mki (t : Nat)
  | mkf (f nfirst : Nat)
  | mkm
  | mks (sz bytes : Nat) (z : List V)
  | slS (lo hi : Bool)
  | slL (sz : Nat) (lo hi mx : Bool)
  | slA (n sz : Nat) (lo hi : Bool)
  | fa (off : Nat)
  | fld (off n : Nat) (ag : Bool)
  | ixS (sz : Nat) | ixA (n sz : Nat) | ixV (n sz : Nat) (ag : Bool) | ixs
  | lk (t : EqT) (z : V) (ok : Bool)
  | mu (t : EqT)
  | rg | nx | en | ex (i : Nat)
  | len (k : LenK) | capb
  | app (sz bytes : Nat)
  | appz (sz bytes : Nat) (z : List V)
  | cpy (sz : Nat)
  | del (t : EqT)
  | clrM | clrS (z : List V)
  | max | min
  | call (f : Nat) | callv
  | dfr

inductive AOpd where
  | t (i : Nat)
  | c (v : V)

structure AOper where
  dst : Option Nat
  k : OpK
  args : List AOpd
  g : Option (Nat × Bool)

structure DOper where
  o : AOper
  ix : Nat
  fl : Nat

inductive ACode where
  | skip
  | reg (ops : List AOper)
  | dreg (ops : List DOper)
  | seq (a b : ACode)
  | cond (c : AOpd) (a b : ACode)
  | block (id : Nat) (b : ACode)
  | loop (b : ACode)
  | exit (id : Nat)
  | ret

inductive RV where
  | tmp (t : Nat)
  | cell (t : Nat)
  | cellA (t n : Nat)

structure AFunc where
  dep : Nat
  body : ACode
  res : List RV

/- ### the steps -/

def codeK : IntKind → Nat
  | .i8 => 0 | .i16 => 1 | .i32 => 2 | .i64 => 3 | .u8 => 4 | .u16 => 5 | .u32 => 6 | .u64 => 7
def eqK (k k' : IntKind) : Bool := Nat.beq (codeK k) (codeK k')
def eqI : Int → Int → Bool
  | .ofNat a, .ofNat b => Nat.beq a b
  | .negSucc a, .negSucc b => Nat.beq a b
  | _, _ => false
def ltI : Int → Int → Bool
  | .ofNat a, .ofNat b => Nat.blt a b
  | .negSucc _, .ofNat _ => true
  | .ofNat _, .negSucc _ => false
  | .negSucc a, .negSucc b => Nat.blt b a
def leI : Int → Int → Bool
  | .ofNat a, .ofNat b => Nat.ble a b
  | .negSucc _, .ofNat _ => true
  | .ofNat _, .negSucc _ => false
  | .negSucc a, .negSucc b => Nat.ble b a
/-- does a number stand in its kind as it is? -/
def fitsN : IntKind → Nat → Bool
  | .i8, n => Nat.ble n 127
  | .i16, n => Nat.ble n 32767
  | .i32, n => Nat.ble n 2147483647
  | .i64, n => Nat.ble n 9223372036854775807
  | .u8, n => Nat.ble n 255
  | .u16, n => Nat.ble n 65535
  | .u32, n => Nat.ble n 4294967295
  | .u64, n => Nat.ble n 18446744073709551615
def wrapI (k : IntKind) (n : Int) : Int :=
  match n with
  | .ofNat m => bif fitsN k m then .ofNat m else k.wrap n
  | .negSucc _ => k.wrap n
/-- a number as its bits. -/
def bitsOf (k : IntKind) (n : Int) : Nat :=
  match n with
  | .ofNat m => bif fitsN k m then m else (BitVec.ofInt k.bits n).toNat
  | .negSucc _ => (BitVec.ofInt k.bits n).toNat
def allOnes : IntKind → Nat
  | .i8 => 255 | .i16 => 65535 | .i32 => 4294967295 | .i64 => 18446744073709551615 | .u8 => 255 | .u16 => 65535 | .u32 => 4294967295 | .u64 => 18446744073709551615
def widthK : IntKind → Nat
  | .i8 => 8 | .i16 => 16 | .i32 => 32 | .i64 => 64 | .u8 => 8 | .u16 => 16 | .u32 => 32 | .u64 => 64

def eqInt : V → V → Option Bool
  | .int k a, .int k' b => bif eqK k k' then some (eqI a b) else none
  | _, _ => none
def eqBool : V → V → Option Bool
  | .bool a, .bool b => some (a == b)
  | _, _ => none
def eqStr : V → V → Option Bool
  | .str a, .str b => some (a == b)
  | _, _ => none
def eqPtr : V → V → Option Bool
  | .nilp, .nilp => some true
  | .nilp, .ptr _ _ => some false
  | .ptr _ _, .nilp => some false
  | .ptr b o, .ptr b' o' => bif Nat.beq b b' then some (Nat.beq o o') else none
  | _, _ => none
def eqSl : V → V → Option Bool
  | .nils, .nils => some true
  | .nils, .sl .. => some false
  | .sl .., .nils => some false
  | _, _ => none
def eqMap : V → V → Option Bool
  | .nilm, .nilm => some true
  | .nilm, .map _ => some false
  | .map _, .nilm => some false
  | _, _ => none
def eqFn : V → V → Option Bool
  | .nilf, .nilf => some true
  | .nilf, .fn .. => some false
  | .fn .., .nilf => some false
  | _, _ => none
def eqIfc : V → V → Option Bool
  | .nili, .nili => some true
  | .nili, .ifc .. => some false
  | .ifc .., .nili => some false
  | _, _ => none

def partV (ag : Bool) (cs : List V) (off n : Nat) : Option V :=
  bif ag then some (.agg ((cs.drop off).take n)) else cs[off]?

/-- the parts of two arrays, one by one. -/
def eqvArr (f : V → V → Option Bool) (sz : Nat) (ag : Bool) (xs ys : List V) : Nat → Nat → Option Bool
  | 0 => fun _ => some true
  | m + 1 => fun i =>
    match partV ag xs (i * sz) sz, partV ag ys (i * sz) sz with
    | some x, some y => match f x y with
      | some true => eqvArr f sz ag xs ys m (i + 1)
      | r => r
    | _, _ => none

mutual
def eqv : EqT → V → V → Option Bool
  | .int => eqInt
  | .bool => eqBool
  | .str => eqStr
  | .ptr => eqPtr
  | .sl => eqSl
  | .map => eqMap
  | .fn => eqFn
  | .ifc => eqIfc
  | .st fs pl => fun x y => match x, y with
    | .agg xs, .agg ys => eqvs fs pl xs ys
    | _, _ => none
  | .arr n e sz ag => fun x y => match x, y with
    | .agg xs, .agg ys => eqvArr (eqv e) sz ag xs ys n 0
    | _, _ => none
def eqvs : List EqT → List (Nat × Nat × Bool) → List V → List V → Option Bool
  | [] => fun _ _ _ => some true
  | t :: fs => fun pl xs ys => match pl with
    | [] => none
    | (off, n, ag) :: pl => match partV ag xs off n, partV ag ys off n with
      | some x, some y => match eqv t x y with
        | some true => eqvs fs pl xs ys
        | r => r
      | _, _ => none
end

mutual
def V.beq : V → V → Bool
  | .bool a => fun | .bool b => a == b | _ => false
  | .int k a => fun | .int k' b => eqK k k' && eqI a b | _ => false
  | .str a => fun | .str b => a == b | _ => false
  | .nilp => fun | .nilp => true | _ => false
  | .ptr b o => fun | .ptr b' o' => Nat.beq b b' && Nat.beq o o' | _ => false
  | .nils => fun | .nils => true | _ => false
  | .sl b o n c z => fun
    | .sl b' o' n' c' z' => Nat.beq b b' && Nat.beq o o' && Nat.beq n n' && (match c, c' with | .ex i, .ex j => Nat.beq i j | .lo i, .lo j => Nat.beq i j | _, _ => false) && Nat.beq z z'
    | _ => false
  | .nilm => fun | .nilm => true | _ => false
  | .map r => fun | .map r' => Nat.beq r r' | _ => false
  | .nilf => fun | .nilf => true | _ => false
  | .fn f a c => fun | .fn f' a' c' => Nat.beq f f' && V.beqs a a' && V.beqs c c' | _ => false
  | .nili => fun | .nili => true | _ => false
  | .ifc t v => fun | .ifc t' v' => Nat.beq t t' && V.beq v v' | _ => false
  | .agg cs => fun | .agg cs' => V.beqs cs cs' | _ => false
  | .tup cs => fun | .tup cs' => V.beqs cs cs' | _ => false
def V.beqs : List V → List V → Bool
  | [] => fun | [] => true | _ => false
  | v :: vs => fun | [] => false | w :: ws => V.beq v w && V.beqs vs ws
end

abbrev S1 := List V → Hp → Option (V × Hp)
def pureS (f : List V → Option V) : S1 := fun vs h => match f vs with
  | some v => some (v, h)
  | none => none
def readS (f : List V → Hp → Option V) : S1 := fun vs h => match f vs h with
  | some v => some (v, h)
  | none => none

def sMv : List V → Option V
  | [x] => some x
  | _ => none
def sPick : List V → Option V
  | [.bool c, a, b] => some (bif c then a else b)
  | _ => none
def sAlloc (z : List V) : S1 := fun vs h => match vs with
  | [] => some (.ptr h.nx 0, h.new (.cells z false))
  | _ => none
def sBox : S1 := fun vs h => match vs with
  | [x] => some (.ptr h.nx 0, h.new (.cells x.cells false))
  | _ => none
/-- some cells of a list replaced, from a place on. -/
def putAt : List V → Nat → List V → List V
  | cs, 0, vs => vs ++ cs.drop vs.length
  | [], _ + 1, _ => []
  | c :: cs, i + 1, vs => c :: putAt cs i vs
def fillV : List V → List (Nat × Nat) → List V → Option (List V)
  | cs, [], [] => some cs
  | cs, (off, n) :: ps, v :: vs =>
    let x := v.cells
    bif Nat.beq x.length n && Nat.ble (off + n) cs.length then fillV (putAt cs off x) ps vs else none
  | _, _, _ => none
def sBuild (z : List V) (ps : List (Nat × Nat)) : List V → Option V := fun vs =>
  match fillV z ps vs with
  | some cs => some (.agg cs)
  | none => none
def sBsl (sz len : Nat) (z : List V) (ps : List (Nat × Nat)) : S1 := fun vs h =>
  match fillV z ps vs with
  | some cs => some (.sl h.nx 0 len (.ex len) sz, h.new (.cells cs false))
  | none => none
def cellsAt (h : Hp) (b o n : Nat) : Option (List V) :=
  match h.get b with
  | some (.cells cs _) => bif Nat.ble (o + n) cs.length then some ((cs.drop o).take n) else none
  | _ => none
def sLd : List V → Hp → Option V
  | [.ptr b o], h => match h.get b with
    | some (.cells cs _) => cs[o]?
    | _ => none
  | _, _ => none
def sLdA (n : Nat) : List V → Hp → Option V
  | [.ptr b o], h => match cellsAt h b o n with
    | some cs => some (.agg cs)
    | none => none
  | _, _ => none
def storeAt (h : Hp) (b o : Nat) (x : List V) : Option Hp :=
  match h.get b with
  | some (.cells cs false) => bif Nat.ble (o + x.length) cs.length && x.all V.oneCell then some (h.put b (.cells (putAt cs o x) false)) else none
  | _ => none
def sSt (n : Nat) : S1 := fun vs h => match vs with
  | [.ptr b o, v] => bif Nat.beq v.cells.length n then
      match storeAt h b o v.cells with
      | some h' => some (V.undef, h')
      | none => none
    else none
  | _ => none
def sNilc : List V → Option V
  | [.ptr b o] => some (.ptr b o)
  | [.fn f a c] => some (.fn f a c)
  | _ => none

def iAdd (k : IntKind) (a b : Int) : Option V := some (.int k (wrapI k (Int.add a b)))
def iSub (k : IntKind) (a b : Int) : Option V := some (.int k (wrapI k (Int.sub a b)))
def iMul (k : IntKind) (a b : Int) : Option V := some (.int k (wrapI k (Int.mul a b)))
def iQuo (k : IntKind) (a b : Int) : Option V := bif eqI b (.ofNat 0) then none else some (.int k (wrapI k (Int.tdiv a b)))
def iRem (k : IntKind) (a b : Int) : Option V := bif eqI b (.ofNat 0) then none else some (.int k (Int.tmod a b))
def iAnd (k : IntKind) (a b : Int) : Option V := some (.int k (wrapI k (.ofNat (Nat.land (bitsOf k a) (bitsOf k b)))))
def iOr (k : IntKind) (a b : Int) : Option V := some (.int k (wrapI k (.ofNat (Nat.lor (bitsOf k a) (bitsOf k b)))))
def iXor (k : IntKind) (a b : Int) : Option V := some (.int k (wrapI k (.ofNat (Nat.xor (bitsOf k a) (bitsOf k b)))))
def iAndNot (k : IntKind) (a b : Int) : Option V := some (.int k (wrapI k (.ofNat (Nat.land (bitsOf k a) (Nat.sub (allOnes k) (bitsOf k b))))))
def intBin : BinOp → IntKind → Int → Int → Option V
  | .add => iAdd
  | .sub => iSub
  | .mul => iMul
  | .quo => iQuo
  | .rem => iRem
  | .and => iAnd
  | .or => iOr
  | .xor => iXor
  | .andNot => iAndNot
  | .eql => fun _ a b => some (.bool (eqI a b))
  | .neq => fun _ a b => some (.bool (!eqI a b))
  | .lss => fun _ a b => some (.bool (ltI a b))
  | .leq => fun _ a b => some (.bool (leI a b))
  | .gtr => fun _ a b => some (.bool (ltI b a))
  | .geq => fun _ a b => some (.bool (leI b a))
  | .shl => fun _ _ _ => none
  | .shr => fun _ _ _ => none
def iShl (k : IntKind) (a : Int) (b : Nat) : Int := wrapI k (Int.mul a (.ofNat (Nat.pow 2 (bif Nat.ble b (widthK k) then b else widthK k))))
def iShr (k : IntKind) (a : Int) (b : Nat) : Int :=
  match a with
  | .ofNat n => .ofNat (Nat.div n (Nat.pow 2 (bif Nat.ble b (widthK k) then b else widthK k)))
  | .negSucc n => .negSucc (Nat.div n (Nat.pow 2 (bif Nat.ble b (widthK k) then b else widthK k)))
def intShift : BinOp → IntKind → Int → Int → Option V
  | .shl => fun k a b => match b with
    | .ofNat n => some (.int k (iShl k a n))
    | .negSucc _ => none
  | .shr => fun k a b => match b with
    | .ofNat n => some (.int k (iShr k a n))
    | .negSucc _ => none
  | _ => fun _ _ _ => none
def strBin (op : BinOp) (a b : List UInt8) : Option V :=
  match op with
  | .add => if ((a.length + b.length : Nat) : Int) > IntKind.i64.max then none else some (.str (a ++ b))
  | .eql => some (.bool (a == b))
  | .neq => some (.bool (!(a == b)))
  | .lss => some (.bool (Op.bytesLess a b))
  | .leq => some (.bool (Op.bytesLess a b || a == b))
  | .gtr => some (.bool (!(Op.bytesLess a b || a == b)))
  | .geq => some (.bool (!Op.bytesLess a b))
  | _ => none
def isShift : BinOp → Bool
  | .shl => true
  | .shr => true
  | _ => false
def sBin (op : BinOp) : List V → Option V
  | [.int k a, .int k' b] => bif isShift op then intShift op k a b else bif eqK k k' then intBin op k a b else none
  | [.str a, .str b] => strBin op a b
  | _ => none
def sEq (neg : Bool) (t : EqT) : List V → Option V
  | [x, y] => match eqv t x y with
    | some b => some (.bool (bif neg then !b else b))
    | none => none
  | _ => none
def sUn (op : UnOp) : List V → Option V
  | [.int k n] => match op with
    | .neg => some (.int k (wrapI k (Int.sub (.ofNat 0) n)))
    | .xor => some (.int k (wrapI k (.ofNat (Nat.sub (allOnes k) (bitsOf k n)))))
    | _ => none
  | [.bool b] => match op with
    | .not => some (.bool (!b))
    | _ => none
  | _ => none
def sCvi (k : IntKind) : List V → Option V
  | [.int _ n] => some (.int k (wrapI k n))
  | _ => none
def sCvs : List V → Option V
  | [.str s] => some (.str s)
  | _ => none
def bytesOf : List V → Option (List UInt8)
  | [] => some []
  | .int .u8 n :: vs => match bytesOf vs with
    | some l => some (UInt8.ofNat n.toNat :: l)
    | none => none
  | _ => none
def sB2s : List V → Hp → Option V
  | [.nils], _ => some (.str [])
  | [.sl b o len _ _], h => match cellsAt h b o len with
    | some cs => match bytesOf cs with
      | some l => some (.str l)
      | none => none
    | none => bif Nat.beq len 0 then some (.str []) else none
  | _, _ => none
def sS2b : S1 := fun vs h => match vs with
  | [.str s] => some (.sl h.nx 0 s.length (.lo s.length) 1, h.new (.cells (s.map fun c => .int .u8 (.ofNat c.toNat)) false))
  | _ => none
def sMki (t : Nat) : List V → Option V
  | [x] => some (.ifc t x)
  | _ => none
def sMkf (f n : Nat) : List V → Option V := fun vs => some (.fn f (vs.take n) (vs.drop n))
def sMkm : S1 := fun vs h => match vs with
  | [] => some (.map h.nx, h.new (.map [] 0))
  | _ => none
def repl (z : List V) : Nat → List V
  | 0 => []
  | n + 1 => z ++ repl z n
def sMks (sz bytes : Nat) (z : List V) : S1 := fun vs h => match vs with
  | [.int _ (.ofNat l), .int _ (.ofNat c)] =>
    bif Nat.ble l c && Nat.ble (c * bytes) 281474976710656 && Nat.blt c 4611686018427387904 then
      some (.sl h.nx 0 l (.ex c) sz, h.new (.cells (repl z c) false))
    else none
  | _ => none

def bnd (x : V) (y : Nat) : Option Nat :=
  match x with
  | .int _ (.ofNat n) => bif Nat.ble n y then some n else none
  | _ => none

def sSlS (lo hi : Bool) : List V → Option V
  | .str s :: r =>
    match lo, hi, r with
    | false, false, [] => some (.str s)
    | true, false, [a] => match bnd a s.length with
      | some l => some (.str (s.drop l))
      | none => none
    | false, true, [b] => match bnd b s.length with
      | some h => some (.str (s.take h))
      | none => none
    | true, true, [a, b] => match bnd b s.length with
      | some h => match bnd a h with
        | some l => some (.str ((s.take h).drop l))
        | none => none
      | none => none
    | _, _, _ => none
  | _ => none

def Cap.n : Cap → Nat
  | .ex n => n
  | .lo n => n
def Cap.sub : Cap → Nat → Cap
  | .ex n, k => .ex (n - k)
  | .lo n, k => .lo (n - k)
def Cap.isEx : Cap → Bool
  | .ex _ => true
  | .lo _ => false

/-- x[l:h] of a slice, where nothing is asked of the most. -/
def cutSl (b o : Nat) (cap : Cap) (sz l h : Nat) : V :=
  match cap with
  | .ex c => bif Nat.beq c l then .sl b o (h - l) (.ex (c - l)) sz else .sl b (o + l * sz) (h - l) (.ex (c - l)) sz
  | .lo c => .sl b (o + l * sz) (h - l) (.lo (c - l)) sz
def sSlL (sz : Nat) (lo hi mx : Bool) : List V → Option V
  | .nils :: r =>
    match lo, hi, mx, r with
    | false, false, false, [] => some .nils
    | true, false, false, [a] => match bnd a 0 with
      | some _ => some .nils
      | none => none
    | false, true, false, [a] => match bnd a 0 with
      | some _ => some .nils
      | none => none
    | true, true, false, [a, b] => match bnd a 0, bnd b 0 with
      | some _, some _ => some .nils
      | _, _ => none
    | false, true, true, [a, b] => match bnd a 0, bnd b 0 with
      | some _, some _ => some .nils
      | _, _ => none
    | true, true, true, [a, b, c] => match bnd a 0, bnd b 0, bnd c 0 with
      | some _, some _, some _ => some .nils
      | _, _, _ => none
    | _, _, _, _ => none
  | .sl b o len cap z :: r =>
    bif !Nat.beq z sz then none else
    match lo, hi, mx, r with
    | false, false, false, [] => some (.sl b o len cap z)
    | true, false, false, [x] => match bnd x len with
      | some l => some (cutSl b o cap sz l len)
      | none => none
    | false, true, false, [y] => match bnd y cap.n with
      | some h => some (cutSl b o cap sz 0 h)
      | none => none
    | true, true, false, [x, y] => match bnd y cap.n with
      | some h => match bnd x h with
        | some l => some (cutSl b o cap sz l h)
        | none => none
      | none => none
    | false, true, true, [y, w] => match bnd w cap.n with
      | some m => match bnd y m with
        | some h => some (cutSl b o (.ex m) sz 0 h)
        | none => none
      | none => none
    | true, true, true, [x, y, w] => match bnd w cap.n with
      | some m => match bnd y m with
        | some h => match bnd x h with
          | some l => some (cutSl b o (.ex m) sz l h)
          | none => none
        | none => none
      | none => none
    | _, _, _, _ => none
  | _ => none
def sSlA (n sz : Nat) (lo hi : Bool) : List V → Hp → Option V
  | .ptr b o :: r, h => match h.get b with
    | some (.cells cs _) => bif Nat.ble (o + n * sz) cs.length then sSlL sz lo hi false (.sl b o n (.ex n) sz :: r) else none
    | _ => none
  | _, _ => none

def sFa (off : Nat) : List V → Option V
  | [.ptr b o] => some (.ptr b (o + off))
  | _ => none
def sFld (off n : Nat) (ag : Bool) : List V → Option V
  | [.agg cs] => partV ag cs off n
  | _ => none
def sIxS (sz : Nat) : List V → Option V
  | [.sl b o len _ z, .int _ (.ofNat i)] => bif Nat.beq z sz && Nat.blt i len then some (.ptr b (o + i * sz)) else none
  | _ => none
def sIxA (n sz : Nat) : List V → Option V
  | [.ptr b o, .int _ (.ofNat i)] => bif Nat.blt i n then some (.ptr b (o + i * sz)) else none
  | _ => none
def sIxV (n sz : Nat) (ag : Bool) : List V → Option V
  | [.agg cs, .int _ (.ofNat i)] => bif Nat.blt i n then partV ag cs (i * sz) sz else none
  | _ => none
def sIxs : List V → Option V
  | [.str s, .int _ (.ofNat i)] => match s[i]? with
    | some c => some (.int .u8 (.ofNat c.toNat))
    | none => none
  | _ => none

/-- is it a key of the type? -/
def keyOk (t : EqT) (k : V) : Bool :=
  match eqv t k k with
  | some true => true
  | _ => false
/-- the place of a key; none: it can't be told. -/
def idxV (t : EqT) (k : V) : List (V × V × Nat) → Nat → Option (Option Nat)
  | [] => fun _ => some none
  | (k', _, _) :: es => fun i => match eqv t k k' with
    | some true => some (some i)
    | some false => idxV t k es (i + 1)
    | none => none
/-- a value that stands for one value of the model alone. -/
def simple0 : V → Bool
  | .bool _ => true
  | .int _ _ => true
  | .str _ => true
  | .nilp => true
  | .ptr _ _ => true
  | .nils => true
  | .nilm => true
  | .map _ => true
  | .nilf => true
  | .nili => true
  | _ => false
def simpleV : V → Bool
  | .agg cs => cs.all simple0
  | v => simple0 v
def entsV (h : Hp) : V → Option (List (V × V × Nat))
  | .nilm => some []
  | .map r => match h.get r with
    | some (.map es _) => some es
    | _ => none
  | _ => none
def sLk (t : EqT) (z : V) (ok : Bool) : List V → Hp → Option V := fun vs h =>
  match vs with
  | [m, k] => bif keyOk t k then
      match entsV h m with
      | some es => match idxV t k es 0 with
        | some (some i) => match es[i]? with
          | some (_, v, _) => some (bif ok then .tup [v, .bool true] else v)
          | none => none
        | some none => some (bif ok then .tup [z, .bool false] else z)
        | none => none
      | none => none
    else none
  | _ => none
def sMu (t : EqT) : S1 := fun vs h => match vs with
  | [.map r, k, v] => bif keyOk t k then
      match h.get r with
      | some (.map es clk) => match idxV t k es 0 with
        | some (some i) => match es[i]? with
          | some (k', _, s) => bif simpleV k && V.beq k' k then some (V.undef, h.put r (.map (es.set i (k, v, s)) clk)) else none
          | none => none
        | some none => some (V.undef, h.put r (.map (es ++ [(k, v, clk)]) (clk + 1)))
        | none => none
      | _ => none
    else none
  | _ => none
def sRg : S1 := fun vs h => match vs with
  | [.nilm] => some (.ptr h.nx 0, h.new (.iter none 0 [] 0))
  | [.map m] => match h.get m with
    | some (.map _ clk) => some (.ptr h.nx 0, h.new (.iter (some m) clk [] clk))
    | _ => none
  | _ => none
/-- The next entry, where there is no choice: at most one is left. -/
def sNx : S1 := fun vs h => match vs with
  | [.ptr b 0] => match h.get b with
    | some (.iter none _ _ _) => some (.tup [.bool false], h)
    | some (.iter (some m) since seen last) => match h.get m with
      | some (.map es clk) =>
        bif !seen.isEmpty && !es.isEmpty && es.all (fun e => Nat.ble last e.2.2) then none else
        let left := es.filter fun e => !seen.contains e.2.2
        match left with
        | [] => some (.tup [.bool false], h)
        | [(k, v, s)] => bif Nat.blt s since then some (.tup [.bool true, k, v], h.put b (.iter (some m) since (seen ++ [s]) clk)) else none
        | _ => none
      | _ => none
    | _ => none
  | _ => none
def sEn : List V → Hp → Option V
  | [.ptr b 0], h => match h.get b with
    | some (.iter (some m) _ seen stepped) => match seen.getLast? with
      | some s => match h.get m with
        | some (.map es clk) => bif Nat.beq clk stepped then
            match es.find? (fun e => Nat.beq e.2.2 s) with
            | some (k, v, _) => some (.tup [k, v])
            | none => none
          else none
        | _ => none
      | none => none
    | _ => none
  | _, _ => none
def sEx (i : Nat) : List V → Option V
  | [.tup vs] => vs[i]?
  | _ => none
def gi (n : Nat) : V := .int .i64 (.ofNat n)
def sLen (k : LenK) : List V → Hp → Option V := fun vs h =>
  match k, vs with
  | .str, [.str s] => some (gi s.length)
  | .arr n, [_] => some (gi n)
  | .sl, [.sl _ _ n _ _] => some (gi n)
  | .sl, [.nils] => some (gi 0)
  | .map, [.nilm] => some (gi 0)
  | .map, [.map r] => match h.get r with
    | some (.map es _) => some (gi es.length)
    | _ => none
  | _, _ => none
def sCap : List V → Option V
  | [.nils] => some (gi 0)
  | [.sl _ _ _ (.ex c) _] => some (gi c)
  | _ => none
/-- the cells of the first n elements of a slice or string. -/
def firstV (sz : Nat) (x : V) (h : Hp) : Option (Nat × List V) :=
  match x with
  | .nils => some (0, [])
  | .str s => bif Nat.beq sz 1 then some (s.length, s.map fun c => .int .u8 (.ofNat c.toNat)) else none
  | .sl b o n _ z => bif Nat.beq z sz then
      (bif Nat.beq n 0 then some (0, []) else match cellsAt h b o (n * sz) with
        | some cs => some (n, cs)
        | none => none) else none
  | _ => none
def sApp (sz bytes : Nat) : S1 := fun vs h => match vs with
  | [s, x] => match firstV sz x h with
    | none => none
    | some (n, new) => match s with
      | .nils => bif Nat.beq n 0 then some (.nils, h) else
          bif Nat.ble (n * bytes) 140737488355328 && Nat.ble n 4611686018427387904 then some (.sl h.nx 0 n (.lo n) sz, h.new (.cells new false)) else none
      | .sl b o len cap z => bif !Nat.beq z sz then none else
        bif Nat.beq n 0 then some (.sl b o len cap z, h) else
        bif Nat.ble (len + n) cap.n then
          match storeAt h b (o + len * sz) new with
          | some h' => some (.sl b o (len + n) cap z, h')
          | none => none
        else bif Nat.ble ((len + n) * bytes) 140737488355328 && Nat.ble (len + n) 4611686018427387904 then
          match firstV sz s h with
          | none => none
          | some (_, old) =>
            bif cap.isEx then some (.sl h.nx 0 (len + n) (.lo (len + n)) sz, h.new (.cells (old ++ new) false))
            else match h.get b with
              | some (.cells _ false) => bif new.all V.oneCell then some (.sl h.nx 0 (len + n) (.lo (len + n)) sz, (h.del b).new (.cells (old ++ new) false)) else none
              | _ => none
        else none
      | _ => none
  | _ => none
/-- append(s, make([]T, n)...). -/
def sAppz (sz bytes : Nat) (z : List V) : S1 := fun vs h => match vs with
  | [.nils, .int _ (.ofNat n)] =>
    bif Nat.beq n 0 then some (.nils, h) else
    bif Nat.ble n 1073741824 && Nat.ble (n * bytes) 1099511627776 then some (.sl h.nx 0 n (.lo n) sz, h.new (.cells (repl z n) false)) else none
  | _ => none
def sCvm : S1 := fun vs h => match vs with
  | [.sl b o len cap z] => match h.get b with
    | some (.cells _ false) => some (.sl b o len cap z, h)
    | _ => none
  | _ => none
def sCpy (sz : Nat) : S1 := fun vs h => match vs with
  | [d, x] => match firstV sz x h with
    | none => none
    | some (n, new) => match d with
      | .nils => some (gi 0, h)
      | .sl b o len _ z => bif !Nat.beq z sz then none else
        let m := Nat.min n len
        bif Nat.beq m 0 then some (gi 0, h) else
        match storeAt h b o (new.take (m * sz)) with
        | some h' => some (gi m, h')
        | none => none
      | _ => none
  | _ => none
def sDel (t : EqT) : S1 := fun vs h => match vs with
  | [.nilm, k] => bif keyOk t k then some (V.undef, h) else none
  | [.map r, k] => bif keyOk t k then match h.get r with
    | some (.map es clk) => match idxV t k es 0 with
      | some (some i) => some (V.undef, h.put r (.map (es.eraseIdx i) clk))
      | some none => some (V.undef, h.put r (.map es clk))
      | none => none
    | _ => none else none
  | _ => none
def sClrM : S1 := fun vs h => match vs with
  | [.nilm] => some (V.undef, h)
  | [.map r] => match h.get r with
    | some (.map _ clk) => some (V.undef, h.put r (.map [] clk))
    | _ => none
  | _ => none
def sClrS (z : List V) : S1 := fun vs h => match vs with
  | [.nils] => some (V.undef, h)
  | [.sl b o n _ sz] => bif Nat.beq n 0 then some (V.undef, h) else
    bif Nat.beq sz z.length then match storeAt h b o (repl z n) with
      | some h' => some (V.undef, h')
      | none => none else none
  | _ => none
def maxL (k : IntKind) : Int → List V → Option V
  | a, [] => some (.int k a)
  | a, .int _ b :: r => maxL k (bif ltI a b then b else a) r
  | _, _ => none
def minL (k : IntKind) : Int → List V → Option V
  | a, [] => some (.int k a)
  | a, .int _ b :: r => minL k (bif ltI b a then b else a) r
  | _, _ => none
def sMax : List V → Option V
  | .int k a :: r => maxL k a r
  | _ => none
def sMin : List V → Option V
  | .int k a :: r => minL k a r
  | _ => none

inductive Kd where
  | p | l | a | e

def OpK.kd : OpK → Kd
  | .alloc _ | .box | .bsl .. | .s2b | .mkm | .mks .. => .a
  | .ld | .ldA _ | .b2s | .lk .. | .en | .len _ | .slA .. => .l
  | .st _ | .mu _ | .rg | .nx | .app .. | .appz .. | .cvm | .pan | .cpy _ | .del _ | .clrM | .clrS _ | .call _ | .callv | .dfr => .e
  | _ => .p

/-- What a reading operation gives. -/
def readOf : OpK → List V → Hp → Option V
  | .ld => sLd
  | .ldA n => sLdA n
  | .b2s => sB2s
  | .lk t z ok => sLk t z ok
  | .en => sEn
  | .len k => sLen k
  | .slA n sz lo hi => sSlA n sz lo hi
  | _ => fun _ _ => none

abbrev CF := Nat → List V → Hp → Option (V × Hp)

/-- An operation that calls nothing. -/
def step : OpK → S1
  | .mv => pureS sMv
  | .pick => pureS sPick
  | .alloc z => sAlloc z
  | .box => sBox
  | .build z ps => pureS (sBuild z ps)
  | .bsl sz len z ps => sBsl sz len z ps
  | .ld => readS sLd
  | .ldA n => readS (sLdA n)
  | .st n => sSt n
  | .nilc => pureS sNilc
  | .bin op => pureS (sBin op)
  | .eq neg t => pureS (sEq neg t)
  | .un op => pureS (sUn op)
  | .cvi k => pureS (sCvi k)
  | .cvs => pureS sCvs
  | .b2s => readS sB2s
  | .s2b => sS2b
  | .mki t => pureS (sMki t)
  | .mkf f n => pureS (sMkf f n)
  | .mkm => sMkm
  | .mks sz bytes z => sMks sz bytes z
  | .slS lo hi => pureS (sSlS lo hi)
  | .slL sz lo hi mx => pureS (sSlL sz lo hi mx)
  | .slA n sz lo hi => readS (sSlA n sz lo hi)
  | .fa off => pureS (sFa off)
  | .fld off n ag => pureS (sFld off n ag)
  | .ixS sz => pureS (sIxS sz)
  | .ixA n sz => pureS (sIxA n sz)
  | .ixV n sz ag => pureS (sIxV n sz ag)
  | .ixs => pureS sIxs
  | .lk t z ok => readS (sLk t z ok)
  | .mu t => sMu t
  | .rg => sRg
  | .nx => sNx
  | .en => readS sEn
  | .ex i => pureS (sEx i)
  | .len k => readS (sLen k)
  | .capb => pureS sCap
  | .app sz bytes => sApp sz bytes
  | .appz sz bytes z => sAppz sz bytes z
  | .cvm => sCvm
  | .pan => fun _ _ => none
  | .cpy sz => sCpy sz
  | .del t => sDel t
  | .clrM => sClrM
  | .clrS z => sClrS z
  | .max => pureS sMax
  | .min => pureS sMin
  | .call _ => fun _ _ => none
  | .callv => fun _ _ => none
  | .dfr => fun _ _ => none

/- ### the evaluation -/

structure St where
  fr : Fr
  h : Hp
  ds : List (Nat × List V)

def evOpd (fr : Fr) : AOpd → V
  | .t i => getF fr i
  | .c v => v
def evArgs (fr : Fr) : List AOpd → List V
  | [] => []
  | a :: r => evOpd fr a :: evArgs fr r

def evOpdF (f : Nat → V) : AOpd → V
  | .t i => f i
  | .c v => v
def evArgsF (f : Nat → V) : List AOpd → List V
  | [] => []
  | a :: r => evOpdF f a :: evArgsF f r

def wantedA (fr : Fr) : Option (Nat × Bool) → Bool
  | none => true
  | some (t, w) => match getF fr t with
    | .bool b => b == w
    | _ => false

def stepC (cf : CF) (k : OpK) (vs : List V) (h : Hp) : Option (V × Hp) :=
  match k with
  | .call f => cf f vs h
  | .callv => match vs with
    | .fn f first caps :: args => cf f (first ++ (args ++ caps)) h
    | _ => none
  | k => step k vs h

def putSt (s : St) (d : Option Nat) (v : V) : St := ⟨putF s.fr d v, s.h, s.ds⟩

def evOper (cf : CF) (o : AOper) (s : St) : Option St :=
  bif wantedA s.fr o.g then
    match o.k with
    | .dfr => match evArgs s.fr o.args with
      | .fn f first caps :: args => some ⟨putF s.fr o.dst V.undef, s.h, (f, first ++ (args ++ caps)) :: s.ds⟩
      | _ => none
    | k => match stepC cf k (evArgs s.fr o.args) s.h with
      | some (v, h') => some ⟨putF s.fr o.dst v, h', s.ds⟩
      | none => none
  else some (putSt s o.dst V.undef)

def evOps (cf : CF) : List AOper → St → Option St
  | [] => fun s => some s
  | o :: os => fun s => match evOper cf o s with
    | some s' => evOps cf os s'
    | none => none

structure Pend where
  k : OpK
  vs : List V
  v : V
  fl : Nat

def checkPend (h : Hp) : List Pend → Option (List Pend)
  | [] => some []
  | p :: ps => match readOf p.k p.vs h with
    | some v => bif V.beq p.v v then
        match checkPend h ps with
        | some r => match p.fl with
          | 0 => some r
          | 1 => some r
          | n + 2 => some (⟨p.k, p.vs, p.v, n + 1⟩ :: r)
        | none => none
      else none
    | none => none

def isE : Kd → Bool
  | .e => true
  | _ => false
def isL : Kd → Bool
  | .l => true
  | _ => false

def addPend (o : DOper) (s : St) (s' : St) (pd : List Pend) : List Pend :=
  bif isL o.o.k.kd && wantedA s.fr o.o.g && !Nat.beq o.fl 0 then
    match o.o.dst with
    | some d => ⟨o.o.k, evArgs s.fr o.o.args, getF s'.fr d, o.fl⟩ :: pd
    | none => pd
  else pd

def evDOps (cf : CF) : List DOper → St → List Pend → Option St
  | [] => fun s _ => some s
  | o :: os => fun s pd => match evOper cf o.o s with
    | some s' => bif isE o.o.k.kd then
        match checkPend s'.h pd with
        | some pd' => evDOps cf os s' pd'
        | none => none
      else evDOps cf os s' (addPend o s s' pd)
    | none => none

inductive X where
  | n
  | x (id : Nat)
  | r

inductive R where
  | ok (x : X) (s : St)
  | bad

def exec (cf : CF) (lf : ACode → St → R) : ACode → St → R
  | .skip => fun s => .ok .n s
  | .reg ops => fun s => match evOps cf ops s with
    | some s' => .ok .n s'
    | none => .bad
  | .dreg ops => fun s => match evDOps cf ops s [] with
    | some s' => .ok .n s'
    | none => .bad
  | .seq a b => fun s => match exec cf lf a s with
    | .ok .n s' => exec cf lf b s'
    | r => r
  | .cond c a b => fun s => match evOpd s.fr c with
    | .bool t => bif t then exec cf lf a s else exec cf lf b s
    | _ => .bad
  | .block id b => fun s => match exec cf lf b s with
    | .ok (.x i) s' => bif Nat.beq i id then .ok .n s' else .ok (.x i) s'
    | r => r
  | .loop b => fun s => lf b s
  | .exit id => fun s => .ok (.x id) s
  | .ret => fun s => .ok .r s

def initFr : List V → Nat → Fr → Fr
  | [] => fun _ fr => fr
  | v :: vs => fun i fr => initFr vs (i + 1) (fr.set i (some v))

def runBody (ex : ACode → St → R) (af : AFunc) (args : List V) (h : Hp) : Option St :=
  bif Nat.ble (2 ^ af.dep) args.length then none else
  match ex af.body ⟨initFr args 0 (Tr.full af.dep), h, []⟩ with
  | .ok .n s => some s
  | .ok .r s => some s
  | _ => none

def resOne (fr : Fr) (h : Hp) : RV → Option V
  | .tmp t => some (getF fr t)
  | .cell t => sLd [getF fr t] h
  | .cellA t n => sLdA n [getF fr t] h
def resAll (fr : Fr) (h : Hp) : List RV → Option (List V)
  | [] => some []
  | r :: rs => match resOne fr h r with
    | some v => match resAll fr h rs with
      | some vs => some (v :: vs)
      | none => none
    | none => none
def resV (fr : Fr) (h : Hp) (rs : List RV) : Option V :=
  match resAll fr h rs with
  | some [v] => some v
  | some vs => some (.tup vs)
  | none => none

structure Env where
  tbl : Nat → Option AFunc
  nat : Nat → Option (List V → Hp → Option (V × Hp))

def runDefs (E : Env) (ex : ACode → St → R) : List (Nat × List V) → Hp → Option Hp
  | [] => fun h => some h
  | (f, args) :: ds => fun h => match E.tbl f with
    | some af => match runBody ex af args h with
      | some s => match s.ds with
        | [] => match resV s.fr s.h af.res with
          | some _ => runDefs E ex ds s.h
          | none => none
        | _ => none
      | none => none
    | none => none

def callF (E : Env) (ex : ACode → St → R) : CF := fun f args h =>
  match E.nat f with
  | some g => g args h
  | none => match E.tbl f with
    | none => none
    | some af => match runBody ex af args h with
      | none => none
      | some s => match runDefs E ex s.ds s.h with
        | none => none
        | some h' => match resV s.fr h' af.res with
          | some v => some (v, h')
          | none => none

def execN (E : Env) : Nat → ACode → St → R
  | 0 => fun _ _ => .bad
  | n + 1 => exec (callF E (execN E n)) fun b s => match execN E n b s with
    | .ok .n s' => execN E n (.loop b) s'
    | r => r

def callN (E : Env) (n : Nat) : CF := callF E (execN E n)

/- ### the translation -/

def ofVal0 : Value → Option V
  | .bool b => some (.bool b)
  | .int k n => some (.int k n)
  | .string s => some (.str s.data.toList)
  | .pointer none => some .nilp
  | .slice none 0 0 => some .nils
  | .map none => some .nilm
  | .nilFunc => some .nilf
  | .func (.func f) a c => bif a.isEmpty && c.isEmpty then some (.fn f [] []) else none
  | .nilIface => some .nili
  | _ => none
def ofVal1 : Value → Option V
  | .agg cs => (cs.toList.mapM ofVal0).map .agg
  | v => ofVal0 v
def ofVal : Value → Option V
  | .tuple vs => (vs.toList.mapM ofVal1).map .tup
  | v => ofVal1 v

def trOpd (_P : Program) : Operand → Option AOpd
  | .tmp t => some (.t t)
  | .const v => (ofVal v).map .c
  | .global _ => none
  | .func f => some (.c (.fn f [] []))

def zCells (P : Program) (t : TypeId) : Option (List V) := (((P.info? t).bind (·.zero)).bind ofVal1).map V.cells
def zVal (P : Program) (t : TypeId) : Option V := ((P.info? t).bind (·.zero)).bind ofVal1
def tSize (P : Program) (t : TypeId) : Option Nat := (P.info? t).map (·.size)
def tBytes (P : Program) (t : TypeId) : Option Nat := (P.info? t).map (·.bytes)
def tAgg (P : Program) (t : TypeId) : Option Bool :=
  match P.underlying t with
  | some (.struct _) => some true
  | some (.array _ _) => some true
  | some _ => some false
  | none => none

def trEq (P : Program) : Nat → TypeId → Option EqT
  | 0, _ => none
  | d + 1, t =>
    match P.underlying t with
    | some (.int _) => some .int
    | some .bool => some .bool
    | some .string => some .str
    | some (.pointer e) => match tSize P e with
      | some n => bif Nat.beq n 0 then none else some .ptr
      | none => none
    | some (.slice _) => some .sl
    | some (.map _ _) => some .map
    | some (.func ..) => some .fn
    | some (.struct fs) => bif P.stoodInHeld t then none else
        match fs.toList.mapM (fun f => bif f.name == "_" then none else
          match trEq P d f.type, tSize P f.type, tAgg P f.type with
          | some e, some n, some ag => some (e, (f.offset, n, ag))
          | _, _, _ => none) with
        | some l => some (.st (l.map (·.1)) (l.map (·.2)))
        | none => none
    | some (.array n e) => match trEq P d e, tSize P e, tAgg P e with
      | some t, some sz, some ag => some (.arr n t sz ag)
      | _, _, _ => none
    | _ => none

def isConstO : Operand → Bool
  | .const _ => true
  | _ => false

def trOpds (P : Program) : List Operand → Option (List AOpd)
  | [] => some []
  | x :: xs => match trOpd P x, trOpds P xs with
    | some a, some as => some (a :: as)
    | _, _ => none

def trParts (P : Program) (places : Nat → Option (Nat × Nat)) : List (Nat × Operand) → Option (List (Nat × Nat) × List AOpd)
  | [] => some ([], [])
  | (i, x) :: r => match places i, trOpd P x, trParts P places r with
    | some p, some a, some (ps, as) => some (p :: ps, a :: as)
    | _, _, _ => none

def with1 (k : OpK) (x : Option AOpd) : Option (OpK × List AOpd) := x.map fun a => (k, [a])
def withL (k : OpK) (x : Option (List AOpd)) : Option (OpK × List AOpd) := x.map fun a => (k, a)

def trBuiltin (P : Program) (b : Builtin) (ats : Array TypeId) : Option OpK :=
  match b with
  | .len => match ats[0]?.bind P.underlying with
    | some .string => some (.len .str)
    | some (.array n _) => some (.len (.arr n))
    | some (.slice _) => some (.len .sl)
    | some (.map _ _) => some (.len .map)
    | _ => none
  | .cap => match ats[0]?.bind P.underlying with
    | some (.slice _) => some .capb
    | _ => none
  | .append => match ats[0]?.bind P.underlying, ats[1]?.bind P.underlying with
    | some (.slice e), some (.slice _) => match tSize P e, tBytes P e, zCells P e with
      | some n, some m, some z => bif Nat.beq n 0 || !Nat.beq z.length n then none else some (.app n m)
      | _, _, _ => none
    | some (.slice e), some .string => match tSize P e, tBytes P e, zCells P e with
      | some n, some m, some z => bif Nat.beq n 1 && Nat.beq z.length n then some (.app n m) else none
      | _, _, _ => none
    | some (.slice e), some (.int _) => match tSize P e, tBytes P e, zCells P e with
      | some n, some m, some z => bif Nat.beq n 0 || !Nat.beq z.length n then none else some (.appz n m z)
      | _, _, _ => none
    | _, _ => none
  | .copy => match ats[0]?.bind P.underlying with
    | some (.slice e) => match tSize P e with
      | some n => bif Nat.beq n 0 then none else some (.cpy n)
      | none => none
    | _ => none
  | .delete => match ats[0]?.bind P.underlying with
    | some (.map k _) => (trEq P 50 k).map .del
    | _ => none
  | .clear => match ats[0]?.bind P.underlying with
    | some (.map _ _) => some .clrM
    | some (.slice e) => (zCells P e).map .clrS
    | _ => none
  | .max => some .max
  | .min => some .min
  | _ => none

def trOp (P : Program) (o : Op) : Option (OpK × List AOpd) :=
  match o with
  | .move x => with1 .mv (trOpd P x)
  | .assign x => with1 .mv (trOpd P x)
  | .pick c a b => withL .pick (trOpds P [c, a, b])
  | .alloc t => (zCells P t).map fun z => (.alloc z, [])
  | .box _ x => with1 .box (trOpd P x)
  | .build t parts => match P.underlying t, zCells P t with
    | some (.struct fs), some z => match fs.toList.mapM (fun f => (tSize P f.type).map fun n => (f.offset, n)) with
      | some pl => match trParts P (pl[·]?) parts.toList with
        | some (ps, as) => some (.build z ps, as)
        | none => none
      | none => none
    | some (.array _ e), some z => match tSize P e with
      | some sz => match trParts P (fun i => some (i * sz, sz)) parts.toList with
        | some (ps, as) => some (.build z ps, as)
        | none => none
      | none => none
    | _, _ => none
  | .buildSlice t len parts => match P.underlying t with
    | some (.slice e) => match tSize P e, zCells P e with
      | some sz, some z => bif Nat.ble (len * sz) 16777216 && !Nat.beq sz 0 && Nat.beq z.length sz then
          match trParts P (fun i => some (i * sz, sz)) parts.toList with
          | some (ps, as) => some (.bsl sz len (repl z len) ps, as)
          | none => none
        else none
      | _, _ => none
    | _ => none
  | .load t a => match tAgg P t, tSize P t with
    | some true, some n => with1 (.ldA n) (trOpd P a)
    | some false, _ => with1 .ld (trOpd P a)
    | _, _ => none
  | .store t a x => match tSize P t with
    | some n => withL (.st n) (trOpds P [a, x])
    | none => none
  | .nilCheck x => with1 .nilc (trOpd P x)
  | .binOp op t x y _ => match op with
    | .eql | .neq => match P.underlying t with
      | some (.int _) => withL (.bin op) (trOpds P [x, y])
      | some .string => withL (.bin op) (trOpds P [x, y])
      | some (.interface _) => bif isConstO x || isConstO y then withL (.eq (op matches .neq) .ifc) (trOpds P [x, y]) else none
      | some (.struct _) | some (.array _ _) => bif P.eqGuardType P.depth t then none else
          (trEq P 50 t).bind fun e => withL (.eq (op matches .neq) e) (trOpds P [x, y])
      | some _ => (trEq P 50 t).bind fun e => withL (.eq (op matches .neq) e) (trOpds P [x, y])
      | none => none
    | _ => withL (.bin op) (trOpds P [x, y])
  | .unOp op _ x => with1 (.un op) (trOpd P x)
  | .convert s d x => match P.underlying s, P.underlying d with
    | some _, some (.int k) => with1 (.cvi k) (trOpd P x)
    | some .string, some .string => with1 .cvs (trOpd P x)
    | some .string, some (.slice e) => match P.underlying e with
      | some (.int .u8) => with1 .s2b (trOpd P x)
      | _ => none
    | some (.slice e), some .string => match P.underlying e with
      | some (.int .u8) => with1 .b2s (trOpd P x)
      | _ => none
    | some (.slice _), some (.slice e) => match P.underlying e with
      | some (.int .u8) => bif Nat.beq s d then with1 .cvm (trOpd P x) else none
      | _ => none
    | _, _ => none
  | .makeInterface t x => match P.underlying t with
    | some (.interface _) => none
    | some _ => with1 (.mki t) (trOpd P x)
    | none => none
  | .makeFunc (.func f) a c => withL (.mkf f a.size) (trOpds P (a.toList ++ c.toList))
  | .makeMap _ none => some (.mkm, [])
  | .makeSlice t l c => match P.underlying t with
    | some (.slice e) => match tSize P e, tBytes P e, zCells P e with
      | some sz, some b, some z => bif Nat.beq sz 0 || !Nat.beq z.length sz then none else withL (.mks sz b z) (trOpds P [l, c])
      | _, _, _ => none
    | _ => none
  | .slice t x lo hi mx => match P.underlying t with
    | some .string => bif mx.isSome then none else withL (.slS lo.isSome hi.isSome) (trOpds P (x :: (lo.toList ++ hi.toList)))
    | some (.slice e) => match tSize P e with
      | some sz => withL (.slL sz lo.isSome hi.isSome mx.isSome) (trOpds P (x :: (lo.toList ++ (hi.toList ++ mx.toList))))
      | none => none
    | some (.array n e) => match tSize P e with
      | some sz => bif mx.isSome then none else withL (.slA n sz lo.isSome hi.isSome) (trOpds P (x :: (lo.toList ++ hi.toList)))
      | none => none
    | _ => none
  | .fieldAddr s x f => match P.underlying s with
    | some (.struct fs) => match fs[f]? with
      | some fd => match tSize P fd.type with
        | some n => bif Nat.beq n 0 then none else with1 (.fa fd.offset) (trOpd P x)
        | none => none
      | none => none
    | _ => none
  | .field s x f => match P.underlying s with
    | some (.struct fs) => match fs[f]? with
      | some fd => match tSize P fd.type, tAgg P fd.type with
        | some n, some ag => with1 (.fld fd.offset n ag) (trOpd P x)
        | _, _ => none
      | none => none
    | _ => none
  | .indexAddr t x i => match P.underlying t with
    | some (.slice e) => match tSize P e with
      | some sz => withL (.ixS sz) (trOpds P [x, i])
      | none => none
    | some (.array n e) => match tSize P e with
      | some sz => withL (.ixA n sz) (trOpds P [x, i])
      | none => none
    | _ => none
  | .index t x i => match P.underlying t with
    | some .string => withL .ixs (trOpds P [x, i])
    | some (.array n e) => match tSize P e, tAgg P e with
      | some sz, some ag => withL (.ixV n sz ag) (trOpds P [x, i])
      | _, _ => none
    | _ => none
  | .lookup t m k ok => match P.underlying t with
    | some (.map kt et) => match trEq P 50 kt, zVal P et with
      | some e, some z => withL (.lk e z ok) (trOpds P [m, k])
      | _, _ => none
    | _ => none
  | .mapUpdate t m k v => match P.underlying t with
    | some (.map kt _) => (trEq P 50 kt).bind fun e => withL (.mu e) (trOpds P [m, k, v])
    | _ => none
  | .insert t m k v => match P.underlying t with
    | some (.map kt _) => (trEq P 50 kt).bind fun e => withL (.mu e) (trOpds P [m, k, v])
    | _ => none
  | .range t x => match P.underlying t with
    | some (.map _ _) => with1 .rg (trOpd P x)
    | _ => none
  | .next it false => with1 .nx (trOpd P it)
  | .entry it => with1 .en (trOpd P it)
  | .extract t i => with1 (.ex i) (trOpd P t)
  | .call c => match c.callee with
    | .value (.func f) => withL (.call f) (trOpds P c.args.toList)
    | .value x => withL .callv (trOpds P (x :: c.args.toList))
    | .builtin b => (trBuiltin P b c.argTypes).bind fun k => withL k (trOpds P c.args.toList)
    | _ => none
  | .panic x => with1 .pan (trOpd P x)
  | .defer c => match c.callee with
    | .value x => withL .dfr (trOpds P (x :: c.args.toList))
    | _ => none
  | _ => none

def trGuard (ops : Array Oper) (g : Option (Nat × Bool)) : Option (Option (Nat × Bool)) :=
  match g with
  | none => some none
  | some (j, w) => match (ops[j]?).bind (·.dst) with
    | some t => some (some (t, w))
    | none => none

def trOper (P : Program) (nt : Nat) (ops : Array Oper) (o : Oper) : Option AOper :=
  match trOp P o.op, trGuard ops o.guard with
  | some (k, as), some g =>
    bif (match o.dst with | some d => Nat.blt d nt | none => true) then some ⟨o.dst, k, as, g⟩ else none
  | _, _ => none

/- ### regions that draw their order -/

/-- the places that an operation waits for, whatever the mode; none: one isn't ahead. -/
def predsOf (i : Nat) (o : Oper) : Option (List Nat) :=
  (o.after.toList.filter (Region.binds .any)).mapM fun e => bif Nat.blt e.on i then some e.on else none
def orMasks (ms : List Nat) : List Nat → Nat
  | [] => 0
  | e :: es => (2 ^ e ||| (ms.getD e 0)) ||| orMasks ms es
/-- for each operation all those that it waits for, as a number's bits. -/
def masksFrom : List Oper → Nat → List Nat → Option (List Nat)
  | [], _, ms => some ms
  | o :: os, i, ms => match predsOf i o with
    | some ps => masksFrom os (i + 1) (ms ++ [orMasks ms ps])
    | none => none

def kdOf (l : List AOper) (i : Nat) : Kd := match l[i]? with
  | some o => o.k.kd
  | none => .p
def maskOf (ms : List Nat) (i : Nat) : Nat := ms.getD i 0
/-- the acts, in their order. -/
def esOf (l : List AOper) : List Nat := (List.range l.length).filter fun i => isE (kdOf l i)
def stageOf (ms es : List Nat) (i : Nat) : Nat := (es.filter fun e => (maskOf ms i).testBit e).length
def flOf (ms es : List Nat) (i : Nat) : Nat :=
  ((es.drop (stageOf ms es i)).takeWhile fun e => !(maskOf ms e).testBit i).length
def orderAt (l : List AOper) (ms es : List Nat) (k : Nat) : List Nat :=
  ((List.range l.length).filter fun i => !isE (kdOf l i) && Nat.beq (stageOf ms es i) k) ++ (es.drop k).take 1
def orderOf (l : List AOper) (ms es : List Nat) : List Nat := (List.range (es.length + 1)).flatMap (orderAt l ms es)

def opdTmps : List AOpd → List Nat
  | [] => []
  | .t i :: r => i :: opdTmps r
  | .c _ :: r => opdTmps r
/-- the slots that an operation looks at or writes. -/
def namesOf (o : AOper) : List Nat :=
  opdTmps o.args ++ ((match o.dst with | some d => [d] | none => []) ++ (match o.g with | some (t, _) => [t] | none => []))

/-- are two operations that name a slot which one of them writes in an order? -/
def tmpsOk (l : List AOper) (ms : List Nat) : Bool :=
  l.zipIdx.all fun (o, i) => match o.dst with
    | none => true
    | some d => l.zipIdx.all fun (o', j) => Nat.beq i j || !(namesOf o').contains d || (maskOf ms j).testBit i || (maskOf ms i).testBit j

/-- The laid order, looked through: each operation once, after all that it waits for and after no act that it doesn't wait for; a reading that isn't held anew is done before the next act. -/
def dOk (n : Nat) (ms : List Nat) : List DOper → Nat → Nat → List (Nat × Nat) → Bool
  | [] => fun dn _ _ => (List.range n).all fun i => dn.testBit i
  | o :: os => fun dn de pl =>
    !dn.testBit o.ix && Nat.blt o.ix n && Nat.beq (maskOf ms o.ix &&& dn) (maskOf ms o.ix) && Nat.beq (maskOf ms o.ix &&& de) de &&
    bif isE o.o.k.kd then
      pl.all (fun p => !Nat.beq p.2 0 || (maskOf ms o.ix).testBit p.1) &&
        dOk n ms os (dn ||| 2 ^ o.ix) (de ||| 2 ^ o.ix) ((pl.filter fun p => !Nat.beq p.2 0).map fun p => (p.1, p.2 - 1))
    else bif isL o.o.k.kd then (o.o.dst.isSome || Nat.beq o.fl 0) && dOk n ms os (dn ||| 2 ^ o.ix) de ((o.ix, o.fl) :: pl)
    else dOk n ms os (dn ||| 2 ^ o.ix) de pl

def notDfr (o : AOper) : Bool := match o.k with | .dfr => false | _ => true

def dOpers (l : List AOper) (ms es : List Nat) : List Nat → Option (List DOper)
  | [] => some []
  | i :: r => match l[i]?, dOpers l ms es r with
    | some o, some t => some (⟨o, i, bif isL o.k.kd then flOf ms es i else 0⟩ :: t)
    | _, _ => none

def trDraw (l : List AOper) (ops : List Oper) : Option (List DOper) :=
  match masksFrom ops 0 [] with
  | none => none
  | some ms =>
    match dOpers l ms (esOf l) (orderOf l ms (esOf l)) with
    | none => none
    | some ds => bif tmpsOk l ms && l.all notDfr && dOk l.length ms ds 0 0 [] then some ds else none

def trRegion (P : Program) (nt : Nat) (ops : Array Oper) (draw : Bool) : Option ACode :=
  match ops.toList.mapM (trOper P nt ops) with
  | none => none
  | some l => bif draw then (trDraw l ops.toList).map .dreg else some (.reg l)

def trCode (P : Program) (nt : Nat) : Code → Option ACode
  | .skip => some .skip
  | .region _ ops draw => trRegion P nt ops draw
  | .seq a b => match trCode P nt a, trCode P nt b with
    | some x, some y => some (.seq x y)
    | _, _ => none
  | .cond c a b => match trOpd P c, trCode P nt a, trCode P nt b with
    | some z, some x, some y => some (.cond z x y)
    | _, _, _ => none
  | .block id b => (trCode P nt b).map (.block id)
  | .loop b => (trCode P nt b).map .loop
  | .exit id => some (.exit id)
  | .scope b => trCode P nt b
  | .label _ => some .skip
  | .ret => some .ret
  | _ => none

def trRes (P : Program) : List ResultVar → Option (List RV)
  | [] => some []
  | r :: rs => match (match r with
      | .tmp t => some (RV.tmp t)
      | .cell a t => match tAgg P t, tSize P t with
        | some true, some n => some (.cellA a n)
        | some false, _ => some (.cell a)
        | _, _ => none : Option RV), trRes P rs with
    | some x, some xs => some (x :: xs)
    | _, _ => none

/-- a depth whose tree has so many places. -/
def depthOf (n : Nat) : Nat := Nat.log2 (n + 1) + 1

def trFunc (P : Program) (fn : Func) : Option AFunc :=
  bif fn.name == "runtime.NumGoroutine" then none else
  match fn.body with
  | none => none
  | some c => match trCode P fn.ntmps c, trRes P fn.results.toList with
    | some b, some r => some ⟨depthOf fn.ntmps, b, r⟩
    | _, _ => none

end Go.Aev
