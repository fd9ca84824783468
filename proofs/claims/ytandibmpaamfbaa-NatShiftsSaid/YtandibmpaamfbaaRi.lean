/- The operations that make or write memory, regions, and a whole function: as a function on what is told. -/
import Derived.Test.YtandibmpaamfbaaRb
set_option linter.unusedVariables false
namespace Go.RX

/-- What an operation does to all other values: nothing; a block is grown (who leads there else is lost); blocks are frozen (who leads there holds what they hold). -/
inductive Tr
  | id
  | kill (b : Nat)
  | fz (H : List Blk) (bs : List Nat)

def hasN : List Nat → Nat → Bool
  | [], _ => false
  | x :: xs, n => cond (Nat.beq x n) true (hasN xs n)

mutual
def mentions (b : Nat) : AV → Bool
  | .vec b' _ => Nat.beq b b'
  | .ref b' _ _ _ _ => Nat.beq b b'
  | .ptr b' _ _ _ => Nat.beq b b'
  | .agg l => mentionsL b l
  | .tup l => mentionsL b l
  | .iface _ x => mentions b x
  | _ => false
def mentionsL (b : Nat) : List AV → Bool
  | [] => false
  | x :: xs => mentions b x || mentionsL b xs
end

mutual
def frz (H : List Blk) (bs : List Nat) : AV → AV
  | .vec b sz => cond (hasN bs b) (view H (.vec b sz)) (.vec b sz)
  | .ref b sz off len cap => cond (hasN bs b) (view H (.ref b sz off len cap)) (.ref b sz off len cap)
  | .ptr b sz i o => cond (hasN bs b) .dead (.ptr b sz i o)
  | .agg l => .agg (frzL H bs l)
  | .tup l => .tup (frzL H bs l)
  | .iface t x => .iface t (frz H bs x)
  | x => x
def frzL (H : List Blk) (bs : List Nat) : List AV → List AV
  | [] => []
  | x :: xs => frz H bs x :: frzL H bs xs
end

def Tr.app : Tr → AV → AV
  | .id, x => x
  | .kill b, x => cond (mentions b x) .dead x
  | .fz H bs, x => frz H bs x
def Tr.isId : Tr → Bool
  | .id => true
  | _ => false

abbrev Tm := List (Nat × AV)
def tget : Tm → Nat → AV
  | [], _ => .dead
  | (n, x) :: r, t => cond (Nat.beq n t) x (tget r t)
def Tr.appT : Tr → Tm → Tm
  | .id, T => T
  | τ, T => T.map fun p => (p.1, τ.app p.2)

def constOf1 : Value → AV
  | .int k n => .int k n
  | .bool b => .bool b
  | .string s => .str s
  | .slice none 0 0 => .nilS
  | .nilIface => .nilI
  | .pointer none => .nilP
  | .nilFunc => .nilF
  | _ => .dead
def constOf : Value → AV
  | .agg cs => .agg (cs.toList.map constOf1)
  | v => constOf1 v
def opnd (T : Tm) : Operand → AV
  | .tmp t => tget T t
  | .const v => constOf v
  | .global _ => .dead
  | .func f => .fn f

section
variable {X : Type}
abbrev KK (X : Type) := Nat → Tr → AV → List Blk → Option X

def guardc (c : Bool) (x : Option X) : Option X := cond c x none

def rdN (l : List Int) (i : Nat) : Int := l.getD i 0

/-- An array's cells, element by element. -/
def chunks (H : List Blk) (et : ETy) (l : List AV) : List AV :=
  match et with
  | .st fs => (List.range (l.length / fs.length)).map fun j => pureV H et (.agg ((l.drop (j * fs.length)).take fs.length))
  | e => l.map (pureV H e)

def mkVar (tab : Tab) (H : List Blk) (t : TypeId) (x : AV) : Option (Nat × Blk) :=
  match tab t with
  | some d => match d.tk with
    | .int k => match x with
      | .int k' n => cond (ksame k k') (some (1, .I t k [n])) none
      | _ => none
    | .arr n e => match tab e, x with
      | some { tk := .int k, .. }, .agg l => cond (allInt k l && Nat.beq l.length n && Nat.blt 0 n) (some (1, .I t k (l.map AV.toInt))) none
      | some de, .agg l => cond (Nat.blt 0 n && Nat.beq (chunks H de.ety l).length n && Nat.beq (n * de.ety.sz) l.length && (chunks H de.ety l).all (wt de.ety)) (some (de.sz, .A t de.ety (chunks H de.ety l))) none
      | _, _ => none
    | _ => cond (wt d.ety (pureV H d.ety x)) (some (d.sz, .A t d.ety [pureV H d.ety x])) none
  | none => none

def ldVal (tab : Tab) (H : List Blk) (t : TypeId) (x : AV) : Option (Bool × AV) :=
  match tab t with
  | some d => match x with
    | .elem (.agg l) => cond (d.tk.isAgg && Nat.beq l.length d.sz) (some (true, .agg l)) none
    | .elem .dead => none
    | .elem (.tup _) => none
    | .elem x => cond d.tk.isAgg none (some (true, x))
    | .ptr b sz i o => match hget H b with
      | .dead => none
      | .I _ k l => cond (Nat.beq sz 1 && Nat.beq o 0) (cond d.tk.isAgg (cond (Nat.beq i 0) (some (decide (l.length = d.sz), .agg (l.map (.int k)))) none) (some (true, .int k (rdN l i)))) none
      | .A _ e l => cond (Nat.beq sz e.sz) (match eta e (aget l i) with
        | .agg fs => cond d.tk.isAgg (cond (Nat.ble (o + d.sz) fs.length) (some (true, .agg ((fs.drop o).take d.sz))) none) (match aget fs o with
          | .dead => none
          | .tup _ => none
          | .agg _ => none
          | y => some (true, y))
        | .dead => none
        | .tup _ => none
        | y => cond (d.tk.isAgg || !(Nat.beq o 0)) none (some (true, y))) none
    | _ => none
  | none => none

def asetN : List AV → Nat → AV → List AV
  | [], _, _ => []
  | _ :: xs, 0, y => y :: xs
  | x :: xs, n + 1, y => x :: asetN xs n y

/-- A store through an address: what it needs, the blocks behind it. -/
def stVal (tab : Tab) (H : List Blk) (t : TypeId) (a x : AV) : Option (Bool × List Blk) :=
  match tab t, a with
  | some d, .ptr b sz i o => match hget H b with
    | .dead => none
    | .I ty k l => cond (Nat.beq sz 1 && Nat.beq o 0) (match x with
      | .int k' n => cond (ksame k k' && Nat.beq d.sz 1) (some (true, hset H b (.I ty k (wrI l i n)))) none
      | .agg vs => cond (allInt k vs && Nat.beq i 0 && Nat.beq d.sz vs.length) (some (decide (l.length = vs.length), hset H b (.I ty k (vs.map AV.toInt)))) none
      | _ => none) none
    | .A ty e l => cond (Nat.beq sz e.sz) (match d.tk with
      | .arr _ _ => match x with
        | .agg vs => cond (Nat.beq i 0 && Nat.beq o 0 && Nat.beq d.sz vs.length && Nat.beq ((chunks H e vs).length * e.sz) vs.length && (chunks H e vs).all (wt e)) (some (decide (l.length = (chunks H e vs).length), hset H b (.A ty e (chunks H e vs)))) none
        | _ => none
      | .st _ => cond (Nat.beq o 0 && Nat.beq d.sz e.sz && wt e (pureV H e x)) (some (true, hset H b (.A ty e (l.set i (pureV H e x))))) none
      | _ => match e with
        | .st fs => match fs[o]? with
          | some fe => cond (wt fe (pureV H fe x) && Nat.beq d.sz 1 && Nat.beq fe.sz 1) (some (true, hset H b (.A ty e (l.set i (.agg (asetN (etaL fs 0 (aget l i).flds) o (pureV H fe x))))))) none
          | none => none
        | e => cond (Nat.beq o 0 && Nat.beq d.sz e.sz && wt e (pureV H e x)) (some (true, hset H b (.A ty e (l.set i (pureV H e x))))) none) none
  | _, _ => none

def killH (H : List Blk) : List Nat → List Blk
  | [] => H
  | b :: bs => killH (hset H b .dead) bs
def trOf (H : List Blk) : List Nat → Tr
  | [] => .id
  | bs => .fz H bs

/-- The cells of a literal: zeros where nothing is said. -/
def fillS (z : AV) (n : Nat) : List (Nat × AV) → List AV
  | [] => List.replicate n z
  | (i, x) :: r => asetN (fillS z n r) i x

def mkRow (e : TypeId) (d : TyD) (l : List AV) : Option Blk :=
  match d.tk with
  | .int k => cond (allInt k l) (some (.I e k (l.map AV.toInt))) none
  | _ => cond (l.all (wt d.ety)) (some (.A e d.ety l)) none

def ascP : Nat → List (Nat × AV) → Bool
  | _, [] => true
  | n, (i, _) :: r => Nat.beq i n && ascP (n + 1) r

/-- What is appended or copied: integers, or other elements. -/
inductive Els
  | I (k : IntKind) (l : List Int)
  | A (e : ETy) (l : List AV)
  | nil
def elsOf (H : List Blk) (x : AV) : Option Els :=
  match view H x with
  | .ints k l => some (.I k l)
  | .list e l => some (.A e l)
  | .nilS => some .nil
  | _ => none

def limE (d : TyD) (n : Nat) : Bool := Nat.blt 0 d.bytes && decide ((n : Int) * (d.bytes : Int) ≤ 140737488355328)

def rowBlk (e : TypeId) (d : TyD) (x : Els) : Option Blk :=
  match mkRow e d [], x with
  | some (.I _ k _), .I k' l => cond (ksame k k' && Nat.beq d.sz 1) (some (.I e k l)) none
  | some (.A _ et _), .A et' l => cond (ETy.same et et' && Nat.beq d.sz et.sz) (some (.A e et l)) none
  | some (.I _ k _), .nil => cond (Nat.beq d.sz 1) (some (.I e k [])) none
  | some (.A _ et _), .nil => cond (Nat.beq d.sz et.sz) (some (.A e et [])) none
  | _, _ => none
def growB (b : Blk) (e : TypeId) (d : TyD) (x : Els) : Option Blk :=
  match b, x with
  | .I ty k l, .I k' l' => cond (ksame k k' && Nat.beq ty e && Nat.beq d.sz 1) (some (.I ty k (l ++ l'))) none
  | .A ty et l, .A et' l' => cond (ETy.same et et' && Nat.beq ty e && Nat.beq d.sz et.sz) (some (.A ty et (l ++ l'))) none
  | _, _ => none

def sameOp (l c : Operand) (n m : Int) : Bool :=
  match l, c with
  | .tmp i, .tmp j => Nat.beq i j
  | .const _, .const _ => decide (n = m)
  | _, _ => false

/-- Operations that look at no memory. -/
def stillOp : Op → Bool
  | .move _ | .assign _ | .binOp .. | .unOp .. | .convert .. | .extract .. => true
  | _ => false

/-- One operation: K is handed what it touches (0 nothing, 1 it reads a block of the call's own, 2 it makes or writes one, 3 it turns other values), what it does to other values, its value, the blocks. -/
def evOp (tab : Tab) (ct : FuncId → Option Ctr) (ev : Operand → AV) (H : List Blk) (o : Oper) (K : KK X) : Option X :=
  match o.op with
  | .pick c a b => match ev c with
    | .bool t => cond t (K 0 .id (ev a) H) (K 0 .id (ev b) H)
    | _ => none
  | .load t a => match ldVal tab H t (ev a) with
    | some (c, v) => guardc c (K (cond (isRef (ev a)) 1 0) .id v H)
    | none => none
  | .store t a x => match stVal tab H t (ev a) (ev x) with
    | some (c, H') => cond (isRef (ev a)) (match refOf (ev x) with
      | [] => guardc c (K 2 .id (.tup []) H')
      | bs => cond (hasN bs (match ev a with | .ptr b _ _ _ => b | _ => 0)) none (guardc c (K 3 (.fz H bs) (.tup []) (killH H' bs)))) none
    | none => none
  | .alloc t => match tab t with
    | some d => match refOf d.zero, mkVar tab H t d.zero with
      | [], some (sz, blk) => K 2 .id (.ptr H.length sz 0 0) (H ++ [blk])
      | _, _ => none
    | none => none
  | .box t x => match refOf (ev x), mkVar tab H t (ev x) with
    | [], some (sz, blk) => K 2 .id (.ptr H.length sz 0 0) (H ++ [blk])
    | _, _ => none
  | .makeSlice t l c => match tab t, ev l, ev c with
    | some { tk := .slice e, .. }, .int .i64 n, .int .i64 m => match tab e with
      | some d => cond (Nat.blt 0 d.bytes) (match mkRow e d [fitE d.ety d.zero] with
        | some (.I _ k [z]) => guardc (decide (0 ≤ n) && decide (n * d.bytes ≤ 281474976710656)) (cond (sameOp l c n m) (K 2 .id (.vec H.length 1) (H ++ [.I e k (List.replicate n.toNat z)])) none)
        | some (.A _ et [z]) => guardc (decide (0 ≤ n) && decide (n * d.bytes ≤ 281474976710656)) (cond (sameOp l c n m) (K 2 .id (.vec H.length et.sz) (H ++ [.A e et (List.replicate n.toNat z)])) none)
        | _ => none) none
      | none => none
    | _, _, _ => none
  | .buildSlice t len parts => match tab t with
    | some { tk := .slice e, .. } => match tab e with
      | some d =>
        let ps := parts.toList.map fun p => (p.1, pureV H d.ety (ev p.2))
        let bs := (parts.toList.map fun p => refOf (ev p.2)).flatten
        cond (ascP 0 ps && Nat.beq ps.length len && Nat.ble (len * d.sz) 16777216) (match mkRow e d (ps.map (·.2)) with
          | some blk => match bs with
            | [] => K 2 .id (.vec H.length d.sz) (H ++ [blk])
            | bs => K 3 (.fz H bs) (.vec H.length d.sz) (killH H bs ++ [blk])
          | none => none) none
      | none => none
    | _ => none
  | .call { callee := .builtin .append, args, argTypes } => match args.toList, argTypes.toList with
    | [s, x], [t, t2] => match tab t with
      | some { tk := .slice e, .. } => match tab e, elsOf H (ev x) with
        | some d, some els => cond (Nat.beq t t2) (match ev s with
          | .nilS => match rowBlk e d els with
            | some blk => guardc (limE d blk.len) (K 2 .id (.vec H.length d.sz) (H ++ [blk]))
            | none => none
          | .vec b sz => match growB (hget H b) e d els with
            | some blk => cond (Nat.beq sz d.sz) (guardc (limE d blk.len) (K 3 (.kill b) (.vec b sz) (hset H b blk))) none
            | none => none
          | _ => none) none
        | _, _ => none
      | _ => none
    | _, _ => none
  | .call { callee := .builtin .copy, args, argTypes } => match args.toList, argTypes.toList with
    | [s, x], [t, t2] => match tab t with
      | some { tk := .slice e, .. } => match tab e, elsOf H (ev x) with
        | some d, some (.I k l') => match ev s with
          | .vec b sz => match hget H b with
            | .I ty k' l => cond (ksame k k' && Nat.beq sz 1 && Nat.beq d.sz 1) (K 2 .id (.int .i64 (min l'.length l.length : Nat)) (hset H b (.I ty k (splice l 0 (l'.take l.length))))) none
            | _ => none
          | .ref b sz off len _ => match hget H b with
            | .I ty k' l => cond (ksame k k' && Nat.beq sz 1 && Nat.beq d.sz 1) (guardc (decide (off + len ≤ l.length)) (K 2 .id (.int .i64 (min l'.length len : Nat)) (hset H b (.I ty k (splice l off (l'.take len)))))) none
            | _ => none
          | _ => none
        | _, _ => none
      | _ => none
    | _, _ => none
  | .call { callee := .value f, args, .. } => match ev f with
    | .fn g => match ct g with
      | some C =>
        let xs := args.toList.map ev
        let ys := (C.ps.zip xs).map fun p => pureV H p.1 p.2
        let bs := (xs.map refOf).flatten
        cond (Nat.beq xs.length C.ps.length && ((C.ps.zip ys).all fun p => wt p.1 p.2))
          ((C.f ys).bind fun t => match C.scal, bs with
            | true, [] => K (match C.new t with | [] => 0 | _ => 2) .id (C.res t H.length) (H ++ C.new t)
            | true, _ => K (match C.new t with | [] => 1 | _ => 2) .id (C.res t H.length) (H ++ C.new t)
            | false, [] => K (match C.new t with | [] => 0 | _ => 2) .id (C.res t H.length) (H ++ C.new t)
            | false, bs => K 3 (.fz H bs) (C.res t H.length) (killH H bs ++ C.new t)) none
      | none => none
    | _ => none
  | op => match pv tab ev H op with
    | some (c, v) => guardc c (match stillOp op with | true => K 0 .id v H | false => K 1 .id v H)
    | none => none

/-! ### regions -/
def dstOf (ops : List Oper) (j : Nat) : Option Nat := (ops[j]?).bind (·.dst)

def tput (N : Nat) (T : Tm) (d : Option Nat) (v : AV) : Option Tm :=
  match d with
  | none => some T
  | some d => cond (Nat.blt d N) (some ((d, v) :: T)) none

structure Env (X : Type) where
  tab : Tab
  ct : FuncId → Option Ctr
  N : Nat
  res : List Nat
  fin : AV → List Blk → Option X

def optC {α : Type} (x : Option α) (K : α → Option X) : Option X :=
  match x with
  | some a => K a
  | none => none

def evOps (E : Env X) (all : List Oper) : List Oper → Tm → List Blk → List Nat → (Tm → List Blk → List Nat → Option X) → Option X
  | [], T, H, ks, K => K T H ks
  | o :: rest, T, H, ks, K =>
    let exec := fun (T : Tm) => evOp E.tab E.ct (opnd T) H o fun kd τ v H' => optC (tput E.N (τ.appT T) o.dst v) fun T' => evOps E all rest T' H' (ks ++ [kd]) K
    let skip := fun (T : Tm) => optC (tput E.N T o.dst (.tup [])) fun T' => evOps E all rest T' H (ks ++ [0]) K
    match o.guard with
    | none => exec T
    | some (j, b) => match dstOf all j with
      | none => none
      | some d => match tget T d with
        | .bool c => match b with
          | true => cond c (exec ((d, .bool true) :: T)) (skip ((d, .bool false) :: T))
          | false => cond c (skip ((d, .bool true) :: T)) (exec ((d, .bool false) :: T))
        | .tup [] => skip T
        | _ => none

/-! ### what may be done in any order -/
def befOf (acc : List (List Nat)) (o : Option Oper) : List Nat :=
  match o with
  | some o => (o.after.toList.filter (Region.binds .any)).flatMap fun e => e.on :: (acc[e.on]?).getD []
  | none => []
def befN (ops : List Oper) : Nat → List (List Nat)
  | 0 => []
  | n + 1 => befN ops n ++ [befOf (befN ops n) ops[n]?]
def bef (ops : List Oper) : List (List Nat) := befN ops ops.length
def readsOf (all : List Oper) (o : Oper) : List Nat :=
  (o.op.operands.toList.filterMap fun | .tmp t => some t | _ => none) ++ (match o.guard with | some (j, _) => (dstOf all j).toList | none => [])
def apartD (d : Option Nat) (l : List Nat) : Bool :=
  match d with
  | none => true
  | some d => !(hasN l d)
def clashK (a b : Nat) : Bool := (Nat.beq a 2 && !(Nat.beq b 0)) || (Nat.beq b 2 && !(Nat.beq a 0)) || Nat.blt 2 a || Nat.blt 2 b
def pairsOk (all : List Oper) (bs : List (List Nat)) (ks : List Nat) : Bool :=
  (List.range all.length).all fun j => (List.range j).all fun i =>
    hasN ((bs[j]?).getD []) i || (match all[i]?, all[j]? with
      | some a, some b => apartD a.dst (readsOf all b ++ b.dst.toList) && apartD b.dst (readsOf all a) && !(clashK ((ks[i]?).getD 3) ((ks[j]?).getD 3))
      | _, _ => false)
def edgesOk (ops : List Oper) : Bool :=
  (List.range ops.length).all fun j => match ops[j]? with
    | some o => o.after.toList.all fun e => !(Region.binds .any e) || Nat.blt e.on j
    | none => false
def noSel (ops : List Oper) : Bool := ops.all fun o => match o.op with | .select .. => false | _ => true
def orderOk (ops : List Oper) (ks : List Nat) : Bool :=
  Nat.beq ks.length ops.length && edgesOk ops && noSel ops && pairsOk ops (bef ops) ks

/-! ### the whole -/
inductive Form
  | same
  | view
  | fit (e : ETy)
  | vec (e : TypeId)
structure Head where
  live : List (Nat × Form)
  keep : Nat

def mentionsAny : List Nat → AV → Bool
  | [], _ => false
  | b :: bs, x => mentions b x || mentionsAny bs x

def normF (tab : Tab) : List (Nat × Form) → Tm → List Blk → Option (Tm × List Blk)
  | [], T, H => some (T, H)
  | (t, f) :: r, T, H => match f with
    | .same => normF tab r T H
    | .view => match refOf (tget T t) with
      | [] => normF tab r T H
      | bs => normF tab r ((Tr.fz H bs).appT T) (killH H bs)
    | .fit e => match refOf (tget T t) with
      | [] => normF tab r ((t, fitE e (tget T t)) :: T) H
      | bs => normF tab r ((t, fitE e (tget ((Tr.fz H bs).appT T) t)) :: (Tr.fz H bs).appT T) (killH H bs)
    | .vec e => match tget T t with
      | .nilS => match tab e with
        | some d => match mkRow e d [] with
          | some blk => normF tab r ((t, .vec H.length d.sz) :: T) (H ++ [blk])
          | none => none
        | none => none
      | _ => normF tab r T H

def norm (tab : Tab) (h : Head) (T : Tm) (H : List Blk) (K : Tm → List Blk → Option X) : Option X :=
  match normF tab h.live T H with
  | none => none
  | some (T, H) =>
    let T' := h.live.map fun p => (p.1, tget T p.1)
    cond (T'.all fun p => !(mentionsAny ((List.range (H.length - h.keep)).map (· + h.keep)) p.2)) (K T' (H.take h.keep)) none

def firstId : Code → Nat
  | .region id _ _ => id
  | .seq a _ => firstId a
  | .block _ c => firstId c
  | .loop c => firstId c
  | .scope c => firstId c
  | _ => 999999

abbrev Rec (X : Type) := List Item → Tm → List Blk → Option X

def notTup : AV → Bool
  | .tup _ => false
  | _ => true
def fini (E : Env X) (T : Tm) (H : List Blk) : Option X :=
  match E.res with
  | [t] => E.fin (tget T t) H
  | ts => cond (ts.all fun t => notTup (tget T t)) (E.fin (.tup (ts.map (tget T))) H) none

def evT (E : Env X) (hint : Nat → Option Head) (rec : Rec X) : Nat → Bool → Rec X
  | 0, _, _, _, _ => none
  | n + 1, sk, todo, T, H =>
    match todo with
    | [] => fini E T H
    | .code .ret :: _ => fini E T H
    | .code .skip :: k => evT E hint rec n false k T H
    | .code (.label l) :: k => match cond sk none (hint (1000000 + l)) with
      | some h => norm E.tab h T H fun T H => rec (.code (.label l) :: k) T H
      | none => evT E hint rec n false k T H
    | .code (.seq a b) :: k => evT E hint rec n false (.code a :: .code b :: k) T H
    | .code (.cond c a b) :: k => match opnd T c with
      | .bool t => match c with
        | .tmp d => cond t (evT E hint rec n false (.code a :: k) ((d, .bool true) :: T) H) (evT E hint rec n false (.code b :: k) ((d, .bool false) :: T) H)
        | _ => cond t (evT E hint rec n false (.code a :: k) T H) (evT E hint rec n false (.code b :: k) T H)
      | _ => none
    | .code (.block id c) :: k => evT E hint rec n false (.code c :: .inBlock id :: k) T H
    | .code (.loop c) :: k => match hint (2 * firstId c) with
      | some h => norm E.tab h T H fun T H => rec (.code c :: .inLoop c :: k) T H
      | none => evT E hint rec n false (.code c :: .inLoop c :: k) T H
    | .inLoop c :: k => match hint (2 * firstId c) with
      | some h => norm E.tab h T H fun T H => rec (.code c :: .inLoop c :: k) T H
      | none => evT E hint rec n false (.code c :: .inLoop c :: k) T H
    | .code (.exit id) :: k => match exitTo id k with
      | some k' => evT E hint rec n false k' T H
      | none => none
    | .code (.goto l) :: k => match gotoIn l k with
      | some k' => evT E hint rec n false k' T H
      | none => none
    | .code (.region id ops draw) :: k => match cond sk none (hint (2 * id + 1)) with
      | some h => norm E.tab h T H fun T H => rec (.code (.region id ops draw) :: k) T H
      | none => evOps E ops.toList ops.toList T H [] fun T H ks => cond (!draw || orderOk ops.toList ks) (evT E hint rec n false k T H) none
    | .inBlock _ :: k => evT E hint rec n false k T H
    | _ => none

/-- Behind a head: k rounds more. -/
def evK (E : Env X) (hint : Nat → Option Head) (n : Nat) : Nat → Rec X
  | 0 => fun _ _ _ => none
  | k + 1 => evT E hint (evK E hint n k) n true
def evM (E : Env X) (hint : Nat → Option Head) (n k : Nat) : Rec X := evT E hint (evK E hint n k) n false
end
end Go.RX
