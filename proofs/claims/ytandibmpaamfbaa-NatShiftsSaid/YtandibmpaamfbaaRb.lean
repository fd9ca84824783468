/- What each operation does to values as they are told: a function, without memory. -/
import Derived.Test.YtandibmpaamfbaaRa
set_option linter.unusedVariables false
namespace Go.RX

/-! ### numbers -/
def addI (k : IntKind) (a b : Int) : Int := k.wrap (a + b)
def subI (k : IntKind) (a b : Int) : Int := k.wrap (a - b)
def mulI (k : IntKind) (a b : Int) : Int := k.wrap (a * b)
def divI (k : IntKind) (a b : Int) : Int := k.wrap (a.tdiv b)
def remI (a b : Int) : Int := a.tmod b
def andI (k : IntKind) (x y : Int) : Int := k.wrap (BitVec.ofInt k.bits x &&& BitVec.ofInt k.bits y).toNat
def orI (k : IntKind) (x y : Int) : Int := k.wrap (BitVec.ofInt k.bits x ||| BitVec.ofInt k.bits y).toNat
def xorI (k : IntKind) (x y : Int) : Int := k.wrap (BitVec.ofInt k.bits x ^^^ BitVec.ofInt k.bits y).toNat
def andNotI (k : IntKind) (x y : Int) : Int := k.wrap (BitVec.ofInt k.bits x &&& ~~~ (BitVec.ofInt k.bits y)).toNat
def shlI (k : IntKind) (x n : Int) : Int := k.wrap (x * 2 ^ (min n.toNat k.bits))
def shrI (k : IntKind) (x n : Int) : Int := x.fdiv (2 ^ (min n.toNat k.bits))
def notI (k : IntKind) (n : Int) : Int := xorI k (if k.signed then -1 else k.max) n
def cvI (k : IntKind) (n : Int) : Int := k.wrap n
def maxI (x y : Int) : Int := if y > x then y else x
def minI (x y : Int) : Int := if y < x then y else x
def rdI (l : List Int) (i : Int) : Int := l.getD i.toNat 0
def wrI (l : List Int) (i : Nat) (v : Int) : List Int := l.set i v
def byteAt (s : ByteArray) (i : Int) : Int := ((s.data.toList.getD i.toNat 0).toNat : Int)
def strOfI (l : List Int) : ByteArray := ⟨(l.map fun n => UInt8.ofNat n.toNat).toArray⟩
def splice (l : List Int) (off : Nat) (xs : List Int) : List Int := l.take off ++ xs ++ l.drop (off + xs.length)
def spliceA (l : List AV) (off : Nat) (xs : List AV) : List AV := l.take off ++ xs ++ l.drop (off + xs.length)

/-! ### types -/
inductive TK
  | int (k : IntKind)
  | bool
  | str
  | slice (e : TypeId)
  | arr (n : Nat) (e : TypeId)
  | st (fs : List (TypeId × Nat))
  | ptr
  | fn
  | iface
  | other
structure TyD where
  tk : TK
  sz : Nat
  bytes : Nat
  ety : ETy
  zero : AV
def TK.isAgg : TK → Bool
  | .arr _ _ | .st _ => true
  | _ => false
abbrev Tab := TypeId → Option TyD
def tabOf : List (Nat × TyD) → Nat → Option TyD
  | [], _ => none
  | (n, d) :: r, t => cond (Nat.beq n t) (some d) (tabOf r t)

/-! ### blocks -/
inductive Blk
  | dead
  | I (ty : TypeId) (k : IntKind) (l : List Int)
  | A (ty : TypeId) (e : ETy) (l : List AV)
instance : Inhabited Blk := ⟨.dead⟩
def Blk.len : Blk → Nat
  | .dead => 0
  | .I _ _ l => l.length
  | .A _ _ l => l.length
def Blk.live : Blk → Bool
  | .dead => false
  | _ => true
def hget : List Blk → Nat → Blk
  | [], _ => .dead
  | x :: _, 0 => x
  | _ :: xs, n + 1 => hget xs n
def hset : List Blk → Nat → Blk → List Blk
  | [], _, _ => []
  | _ :: xs, 0, b => b :: xs
  | x :: xs, n + 1, b => x :: hset xs n b

/-- A slice, as it may be looked at. -/
def view (H : List Blk) : AV → AV
  | .vec b _ => match hget H b with
    | .I _ k l => .ints k l
    | .A _ e l => .list e l
    | .dead => .dead
  | .ref b sz off len _ => match hget H b with
    | .I _ k l => cond (Nat.beq sz 1) (.ints k ((l.drop off).take len)) .dead
    | .A _ e l => cond (Nat.beq sz e.sz) (.list e ((l.drop off).take len)) .dead
    | .dead => .dead
  | x => x

mutual
/-- As an element or an argument of a kind: a nil slice is an empty one. -/
def fitE : ETy → AV → AV
  | .sl e, x => match x with
    | .nilS => match e with
      | .int k => .ints k []
      | e => .list e []
    | x => x
  | .st fs, x => match x with
    | .agg l => .agg (fitL fs l)
    | x => x
  | _, x => x
def fitL : List ETy → List AV → List AV
  | e :: es, x :: xs => fitE e x :: fitL es xs
  | _, xs => xs
end
/-- A value made ready to be held in memory or handed on: slices as what they hold, nil as empty. -/
def pureV (H : List Blk) (e : ETy) (x : AV) : AV := fitE e (match x with | .agg l => .agg (l.map (view H)) | x => view H x)

def isRef : AV → Bool
  | .vec _ _ | .ref _ _ _ _ _ | .ptr _ _ _ _ => true
  | _ => false
def refOf : AV → List Nat
  | .vec b _ | .ref b _ _ _ _ | .ptr b _ _ _ => [b]
  | .agg l => (l.map fun | .vec b _ | .ref b _ _ _ _ | .ptr b _ _ _ => [b] | _ => []).flatten
  | _ => []

/-! ### contracts -/
structure Ctr where
  ps : List ETy
  T : Type
  f : List AV → Option T
  res : T → Nat → AV
  new : T → List Blk
  scal : Bool

/-! ### operations that make no memory -/
def lenAV (H : List Blk) : AV → Option Nat
  | .ints _ l => some l.length
  | .list _ l => some l.length
  | .nilS => some 0
  | .vec b _ => some (hget H b).len
  | .ref _ _ _ len _ => some len
  | .str s => some s.size
  | _ => none

def pvBin (tab : Tab) (op : BinOp) (t : TypeId) (x y : AV) : Option (Bool × AV) :=
  match x, y with
  | .int k a, .int k' b => match op with
    | .shl => some (decide (0 ≤ b), .int k (shlI k a b))
    | .shr => some (decide (0 ≤ b), .int k (shrI k a b))
    | op => cond (ksame k k') (match op with
      | .add => some (true, .int k (addI k a b))
      | .sub => some (true, .int k (subI k a b))
      | .mul => some (true, .int k (mulI k a b))
      | .quo => some (b != 0, .int k (divI k a b))
      | .rem => some (b != 0, .int k (remI a b))
      | .and => some (true, .int k (andI k a b))
      | .or => some (true, .int k (orI k a b))
      | .xor => some (true, .int k (xorI k a b))
      | .andNot => some (true, .int k (andNotI k a b))
      | .eql => some (true, .bool (a == b))
      | .neq => some (true, .bool (a != b))
      | .lss => some (true, .bool (decide (a < b)))
      | .leq => some (true, .bool (decide (a ≤ b)))
      | .gtr => some (true, .bool (decide (a > b)))
      | .geq => some (true, .bool (decide (a ≥ b)))
      | _ => none) none
  | .bool a, .bool b => match tab t with
    | some { tk := .bool, .. } => match op with
      | .eql => some (true, .bool (a == b))
      | .neq => some (true, .bool (a != b))
      | _ => none
    | _ => none
  | .str a, .str b => match op with
    | .add => some (decide (a.size + b.size ≤ 9223372036854775807), .str (a ++ b))
    | .eql => some (true, .bool (a.toList == b.toList))
    | .neq => some (true, .bool (a.toList != b.toList))
    | .lss => some (true, .bool (Op.bytesLess a.toList b.toList))
    | .leq => some (true, .bool (Op.bytesLess a.toList b.toList || a.toList == b.toList))
    | .gtr => some (true, .bool !(Op.bytesLess a.toList b.toList || a.toList == b.toList))
    | .geq => some (true, .bool !(Op.bytesLess a.toList b.toList))
    | _ => none
  | _, _ => none

def pvUn (op : UnOp) (x : AV) : Option AV :=
  match op, x with
  | .neg, .int k n => some (.int k (subI k 0 n))
  | .xor, .int k n => some (.int k (notI k n))
  | .not, .bool b => some (.bool !b)
  | _, _ => none

def pvConv (tab : Tab) (src dst : TypeId) (x : AV) : Option AV :=
  match tab src, tab dst, x with
  | some _, some { tk := .int k, .. }, .int _ n => some (.int k (cvI k n))
  | some _, some { tk := .str, .. }, .str s => some (.str s)
  | _, _, _ => none

def pvField (tab : Tab) (t : TypeId) (x : AV) (f : Nat) : Option AV :=
  match tab t, x with
  | some { tk := .st fs, .. }, .agg l => match fs[f]? with
    | some (ft, off) => match tab ft with
      | some d => cond d.tk.isAgg (cond (Nat.ble (off + d.sz) l.length) (some (.agg ((l.drop off).take d.sz))) none) (cond (Nat.blt off l.length && !(aget l off).isAgg) (some (aget l off)) none)
      | none => none
    | none => none
  | _, _ => none

def inRange (i : Int) (n : Nat) : Bool := decide (0 ≤ i) && decide (i < (n : Int))

def allInt (k : IntKind) : List AV → Bool
  | [] => true
  | .int k' _ :: xs => ksame k k' && allInt k xs
  | _ => false

def pvIndex (tab : Tab) (t : TypeId) (x ix : AV) : Option (Bool × AV) :=
  match ix with
  | .int _ i => match tab t, x with
    | some { tk := .str, .. }, .str s => some (inRange i s.size, .int .u8 (byteAt s i))
    | some { tk := .arr n e, .. }, .agg l => match tab e with
      | some { tk := .int k, sz := 1, .. } => cond (allInt k l && Nat.beq l.length n) (some (inRange i n, .int k (aget l i.toNat).toInt)) none
      | _ => none
    | _, _ => none
  | _ => none

def pvIndexAddr (tab : Tab) (H : List Blk) (t : TypeId) (x ix : AV) : Option (Bool × AV) :=
  match ix with
  | .int _ i => match tab t with
    | some { tk := .slice e, .. } => match tab e with
      | some d => match x with
        | .ints k l => cond (Nat.beq d.sz 1) (some (inRange i l.length, .elem (.int k (rdI l i)))) none
        | .list et l => cond (Nat.beq d.sz et.sz) (some (inRange i l.length, .elem (eta et (aget l i.toNat)))) none
        | .vec b sz => cond (Nat.beq d.sz sz) (some (inRange i (hget H b).len, .ptr b sz i.toNat 0)) none
        | .ref b sz off len _ => cond (Nat.beq d.sz sz) (some (inRange i len, .ptr b sz (off + i.toNat) 0)) none
        | _ => none
      | none => none
    | some { tk := .arr n e, .. } => match tab e with
      | some d => match x with
        | .ptr b sz 0 0 => cond (Nat.beq d.sz 1 && Nat.beq sz 1) (some (inRange i n && decide ((hget H b).len = n), .ptr b 1 i.toNat 0)) none
        | _ => none
      | none => none
    | _ => none
  | _ => none

def pvFieldAddr (tab : Tab) (t : TypeId) (x : AV) (f : Nat) : Option AV :=
  match tab t with
  | some { tk := .st fs, .. } => match fs[f]? with
    | some (ft, off) => match tab ft with
      | some d => match x with
        | .ptr b sz i o => cond (Nat.ble (o + off + d.sz) sz) (some (.ptr b sz i (o + off))) none
        | .elem (.agg l) => cond d.tk.isAgg none (cond (Nat.blt off l.length && !(aget l off).isAgg) (some (.elem (aget l off))) none)
        | _ => none
      | none => none
    | none => none
  | _ => none

def optInt (ev : Operand → AV) : Option Operand → Option (Option Int)
  | none => some none
  | some o => match ev o with
    | .int _ n => some (some n)
    | _ => none

/-- 0 <= lo <= hi <= m <= n, as far as they are given. -/
def cutOk (lo hi mx : Option Int) (n : Nat) : Bool :=
  match lo, hi, mx with
  | none, none, none => true
  | some l, none, none => decide (0 ≤ l) && decide (l ≤ (n : Int))
  | none, some h, none => decide (0 ≤ h) && decide (h ≤ (n : Int))
  | some l, some h, none => decide (0 ≤ l) && decide (l ≤ h) && decide (h ≤ (n : Int))
  | none, some h, some m => decide (0 ≤ h) && decide (h ≤ m) && decide (m ≤ (n : Int))
  | some l, some h, some m => decide (0 ≤ l) && decide (l ≤ h) && decide (h ≤ m) && decide (m ≤ (n : Int))
  | _, none, some _ => false

def cutL {α : Type} (l : List α) (lo hi : Option Int) : List α :=
  let l1 := match hi with
    | some h => l.take h.toNat
    | none => l
  match lo with
  | some a => l1.drop a.toNat
  | none => l1

def pvSlice (tab : Tab) (ev : Operand → AV) (H : List Blk) (t : TypeId) (x : AV) (lo hi mx : Option Operand) : Option (Bool × AV) :=
  match optInt ev lo, optInt ev hi, optInt ev mx with
  | some a, some b, some m => match tab t with
    | some { tk := .slice e, .. } => match tab e with
      | some d => match x with
        | .ints k l => cond (Nat.beq d.sz 1) (some (cutOk a b m l.length, .ints k (cutL l a b))) none
        | .list et l => cond (Nat.beq d.sz et.sz) (some (cutOk a b m l.length, .list et (cutL l a b))) none
        | .nilS => some (cutOk a b m 0, .nilS)
        | .vec bl sz => cond (Nat.beq d.sz sz) (some (cutOk a b m (hget H bl).len, .ref bl sz (a.getD 0).toNat ((b.getD ((hget H bl).len : Int)) - a.getD 0).toNat (m.map fun m => (m - a.getD 0).toNat))) none
        | .ref bl sz off len cap => cond (Nat.beq d.sz sz) (some (cutOk a b m len, .ref bl sz (off + (a.getD 0).toNat) ((b.getD (len : Int)) - a.getD 0).toNat (match m with | some m => some (m - a.getD 0).toNat | none => cap.map fun c => c - (a.getD 0).toNat))) none
        | _ => none
      | none => none
    | some { tk := .str, .. } => match x, m with
      | .str s, none => some (cutOk a b none s.size, .str (s.extract (a.getD 0).toNat (b.getD (s.size : Int)).toNat))
      | _, _ => none
    | _ => none
  | _, _, _ => none

def pvMM (mx : Bool) : List AV → Option AV
  | [] => none
  | .int k a :: r => go k a r
  | _ => none
where go (k : IntKind) (a : Int) : List AV → Option AV
  | [] => some (.int k a)
  | .int _ b :: r => go k (cond mx (maxI a b) (minI a b)) r
  | _ => none

def asetL : List AV → Nat → List AV → List AV
  | l, off, vs => l.take off ++ vs ++ l.drop (off + vs.length)

def cellsAV : AV → Option (List AV)
  | .agg l => some l
  | .dead => none
  | .tup _ => none
  | x => some [x]

/-- The parts of a struct or an array that is built. -/
def pvFill (place : Nat → Option (Nat × Nat)) : List AV → List (Nat × AV) → Option (List AV)
  | l, [] => some l
  | l, (i, v) :: r => match place i with
    | some (off, size) =>
      match cellsAV v with
      | some vs => cond (Nat.beq vs.length size && Nat.ble (off + size) l.length) (pvFill place (asetL l off vs) r) none
      | none => none
    | none => none

def pvBuild (tab : Tab) (ev : Operand → AV) (t : TypeId) (parts : List (Nat × Operand)) : Option AV :=
  match tab t with
  | some { tk := .st fs, zero := .agg z, .. } =>
    cond (fs.all fun p => (tab p.1).isSome) ((pvFill (fun i => (fs.map fun p => (p.2, ((tab p.1).map (·.sz)).getD 0))[i]?) z (parts.map fun p => (p.1, ev p.2))).map .agg) none
  | some { tk := .arr _ e, zero := .agg z, .. } => match tab e with
    | some d => (pvFill (fun i => some (i * d.sz, d.sz)) z (parts.map fun p => (p.1, ev p.2))).map .agg
    | none => none
  | _ => none

def always : Option AV → Option (Bool × AV)
  | some v => some (true, v)
  | none => none

/-- An operation that makes no memory and writes none: what it needs, and its value. -/
def pv (tab : Tab) (ev : Operand → AV) (H : List Blk) : Op → Option (Bool × AV)
  | .move x | .assign x => some (true, ev x)
  | .binOp op t x y _ => pvBin tab op t (ev x) (ev y)
  | .unOp op _ x => always (pvUn op (ev x))
  | .convert src dst x => always (pvConv tab src dst (ev x))
  | .extract x i => match ev x with
    | .tup l => cond (Nat.blt i l.length) (some (true, aget l i)) none
    | _ => none
  | .field t x f => always (pvField tab t (ev x) f)
  | .index t x i => pvIndex tab t (ev x) (ev i)
  | .indexAddr t x i => pvIndexAddr tab H t (ev x) (ev i)
  | .fieldAddr t x f => always (pvFieldAddr tab t (ev x) f)
  | .slice t x lo hi mx => pvSlice tab ev H t (ev x) lo hi mx
  | .build t parts => always (pvBuild tab ev t parts.toList)
  | .nilCheck x => match ev x with
    | .ptr b sz i o => some (true, .ptr b sz i o)
    | .elem x => some (true, .elem x)
    | _ => none
  | .call { callee := .builtin b, args, argTypes } => match b with
    | .len => match args.toList, argTypes.toList with
      | [x], [t] => match tab t with
        | some { tk := .slice _, .. } => match ev x with
          | .str _ => none
          | v => match lenAV H v with
            | some n => some (true, .int .i64 (n : Int))
            | none => none
        | some { tk := .str, .. } => match ev x with
          | .str s => some (true, .int .i64 s.size)
          | _ => none
        | some { tk := .arr n _, .. } => some (true, .int .i64 n)
        | _ => none
      | _, _ => none
    | .max => always (pvMM true (args.toList.map ev))
    | .min => always (pvMM false (args.toList.map ev))
    | _ => none
  | _ => none

end Go.RX
