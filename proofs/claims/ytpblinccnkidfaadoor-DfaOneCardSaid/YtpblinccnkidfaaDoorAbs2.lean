/-
  An abstract machine of pure values: its states, its operations, and what holds behind a piece of code ('W'). No condition.
-/
import Derived.Test.YtpblinccnkidfaaDoorAbs1
set_option linter.unusedVariables false
namespace Go.Abs

/-- A cell of a map's key. -/
inductive KK where
  | i (k : IntKind)
  | b
  | s
  deriving DecidableEq, Inhabited
/-- A map's key: is it of cells, and of which. -/
structure KT where
  agg : Bool
  ks : List KK
  deriving DecidableEq, Inhabited
def kOf : V → Option KK
  | .int k _ => some (.i k)
  | .bool _ => some .b
  | .str _ => some .s
  | _ => none
def kOfs : List V → List (Option KK)
  | [] => []
  | v :: vs => kOf v :: kOfs vs
def somes : List KK → List (Option KK)
  | [] => []
  | k :: ks => some k :: somes ks
def aggV : V → Bool
  | .strct _ => true
  | _ => false
/-- Is a value a key? -/
def fitsK (kt : KT) (v : V) : Bool := decide (aggV v = kt.agg) && decide (kOfs (cl v) = somes kt.ks)
def eqC : V → V → Bool
  | .int _ a, .int _ b => decide (a = b)
  | .bool a, .bool b => a == b
  | .str a, .str b => decide (a = b)
  | _, _ => false
def eqCs : List V → List V → Bool
  | [], [] => true
  | u :: us, v :: vs => eqC u v && eqCs us vs
  | _, _ => false
def eqK (u v : V) : Bool := eqCs (cl u) (cl v)
def mget (k : V) : List (V × V) → Option V
  | [] => none
  | (k', v) :: l => if eqK k k' = true then some v else mget k l
def mput (k u : V) : List (V × V) → List (V × V)
  | [] => [(k, u)]
  | (k', v) :: l => if eqK k k' = true then (k, u) :: l else (k', v) :: mput k u l

/-- What is the call's own: a variable (its cells), a row that it appends to or writes, a row of rows (none: a row that has been taken out). -/
inductive Ob where
  | box (cs : List V)
  | arr (e sz : Nat) (l : List V)
  | mat (e e2 sz : Nat) (rows : List (Option (List V)))
  | mp (kt : KT) (l : List (V × V))
  deriving Inhabited

structure St where
  r : List (Nat × V)
  h : List (Option Ob)

inductive AO where
  | t (n : Nat)
  | v (x : V)
  deriving Inhabited

inductive Act' where
  | mov (x : AO)
  | pick (c a b : AO)
  | fld (x : AO) (off n : Nat) (agg : Bool)
  | fa (x : AO) (off : Nat)
  | ia (x i : AO) (sz : Nat)
  | iaa (x i : AO) (len sz : Nat)
  | ld (x : AO) (n : Nat) (agg : Bool)
  | ixs (x i : AO)
  | ixa (x i : AO) (len sz : Nat) (agg : Bool)
  | bin (op : BinOp) (x y : AO)
  | un (op : UnOp) (x : AO)
  | cii (k : IntKind) (x : AO)
  | s2b (x : AO)
  | b2s (x : AO)
  | sls (x : AO) (lo hi : Option AO)
  | slq (x : AO) (lo hi : Option AO) (sz : Nat)
  | lens (x : AO)
  | lenq (x : AO)
  | beq (neg : Bool) (x y : AO)
  | ext (x : AO) (i : Nat)
  | bld (z : List V) (parts : List (Nat × Nat × AO))
  | lit (e sz : Nat) (xs : List AO)
  | ltr (e sz : Nat) (xs : List AO)
  | mkf (f : Fn) (first cap : List AO)
  | nlc (x : AO)
  | alc (z : List V)
  | box (x : AO)
  | st (n : Nat) (a x : AO)
  | app (x y : AO) (e sz by' : Nat)
  | mks (e sz by' : Nat) (z : V) (n : AO)
  | mkm (e by' e2 sz : Nat) (n : AO)
  | call (f : FuncId) (xs : List AO)
  | callv (g : AO) (xs : List AO)
  | callH (f : FuncId) (xs : List AO)
  | mki (t : TypeId) (x : AO)
  | aeq (neg : Bool) (kt : KT) (x y : AO)
  | mkp (kt : KT)
  | lkp (kt : KT) (z : V) (ok : Bool) (x k : AO)
  | mup (kt : KT) (x k v : AO)
  | inv (tbl : List (Nat × FuncId)) (x : AO) (xs : List AO)
  | mm (mx : Bool) (x y : AO)
  | trc (x hi : AO) (sz : Nat)
  | nlq (k : Nat) (neg : Bool) (x : AO)
  | bad
  deriving Inhabited

structure AOp where
  d : Option Nat
  a : Act'
  g : Option (Nat × Bool)
  deriving Inhabited

/-- Orders of operations: some of them are all one way so far. -/
inductive OT where
  | nil
  | op (x : AOp) (t : OT)
  | both (a b : OT)
  deriving Inhabited

inductive AC where
  | skip
  | reg (ops : List AOp) (ks : List Nat)
  | regD (ops : List AOp) (ks : List Nat)
  | regE (alts : List (List AOp)) (ks : List Nat)
  | regF (t : OT) (ks : List Nat)
  | scope (l : Nat) (ks : List Nat) (a b : AC)
  | label (l : Nat)
  | goto (l : Nat)
  | bad
  | seq (a b : AC)
  | cond (c : AO) (a b : AC)
  | block (id : Nat) (c : AC)
  | loop (ks : List Nat) (c : AC)
  | exit (id : Nat)
  | ret
  deriving Inhabited

/-! ### Registers -/
def lk : List (Nat × V) → Nat → Option V
  | [], _ => none
  | (k, v) :: r, t => if k = t then some v else lk r t

def memb : Nat → List Nat → Bool
  | _, [] => false
  | n, k :: ks => if n = k then true else memb n ks

def drp : List (Nat × V) → List Nat → List (Nat × V)
  | [], _ => []
  | (k, v) :: r, ks => if memb k ks = true then drp r ks else (k, v) :: drp r ks

def pk (r : List (Nat × V)) : List Nat → List (Nat × V)
  | [] => []
  | k :: ks => match lk r k with
    | some v => (k, v) :: pk r ks
    | none => pk r ks

namespace St
def ev (σ : St) : AO → Option V
  | .t n => lk σ.r n
  | .v x => some x
def evs (σ : St) : List AO → Option (List V)
  | [] => some []
  | x :: xs => match σ.ev x, σ.evs xs with
    | some v, some vs => some (v :: vs)
    | _, _ => none
def evo (σ : St) (d : V) : Option AO → Option V
  | none => some d
  | some x => σ.ev x
def put (σ : St) (d : Option Nat) (v : V) : St :=
  match d with
  | none => σ
  | some t => { σ with r := (t, v) :: σ.r }
/-- The end of a region: 'ks' are kept. -/
def cls (old σ : St) (ks : List Nat) : St := { σ with r := pk σ.r ks }
end St

def cut (cs : List V) (off n : Nat) : Option (List V) := if off + n ≤ cs.length then some ((cs.drop off).take n) else none
def splice (cs : List V) (off : Nat) (us : List V) : Option (List V) := if off + us.length ≤ cs.length then some (cs.take off ++ us ++ cs.drop (off + us.length)) else none

def St.box? (σ : St) (id : Nat) : Option (List V) :=
  match σ.h[id]? with
  | some (some (.box cs)) => some cs
  | _ => none
def St.arr? (σ : St) (id : Nat) : Option (Nat × Nat × List V) :=
  match σ.h[id]? with
  | some (some (.arr e sz l)) => some (e, sz, l)
  | _ => none

def St.rws? (σ : St) (id : Nat) : Option (Nat × Nat × Nat × List (Option (List V))) :=
  match σ.h[id]? with
  | some (some (.mat e e2 sz rows)) => some (e, e2, sz, rows)
  | _ => none
/-- A row of rows, as it lies. -/
def St.mp? (σ : St) (id : Nat) : Option (KT × List (V × V)) :=
  match σ.h[id]? with
  | some (some (.mp kt l)) => some (kt, l)
  | _ => none
def rowAt (rows : List (Option (List V))) (i : Nat) : Option (List V) := match rows[i]? with
  | some (some r) => some r
  | _ => none

def St.fetch (σ : St) : V → Nat → Option (List V)
  | .ptr id off, n => match σ.box? id with
    | some cs => cut cs off n
    | none => none
  | .eptr id m i off, n => match σ.arr? id with
    | some (_, _, l) => if m = l.length then (match l[i]? with
      | some v => cut (cl v) off n
      | none => none) else none
    | none => match σ.rws? id with
      | some (_, _, _, rows) => if m = rows.length ∧ off = 0 ∧ n = 1 then (match rowAt rows i with
        | some r => some [.mref id i r.length]
        | none => none) else none
      | none => none
  | .mptr id i m k off, n => match σ.rws? id with
    | some (_, _, _, rows) => match rowAt rows i with
      | some r => if m = r.length then (match r[k]? with
        | some v => cut (cl v) off n
        | none => none) else none
      | none => none
    | none => none
  | .sptr x off, n => cut (cl x) off n
  | _, _ => none

/-- All rows, none of which has been taken out. -/
def allRows (sz : Nat) : List (Option (List V)) → Option (List V)
  | [] => some []
  | some r :: l => match allRows sz l with
    | some vs => some (.seq sz r :: vs)
    | none => none
  | none :: _ => none
/-- A value without what is the call's own: how it is handed on, and handed back. -/
def pur1 (h : List (Option Ob)) (id n : Nat) : Option V :=
  match h[id]? with
  | some (some (.arr _ sz l)) => if n = l.length then some (.seq sz l) else none
  | some (some (.mat _ _ sz rows)) => if n = rows.length then (allRows sz rows).map (.seq 1) else none
  | _ => none
def pur2 (h : List (Option Ob)) (id i n : Nat) : Option V :=
  match h[id]? with
  | some (some (.mat _ _ sz rows)) => match rowAt rows i with
    | some r => if n = r.length then some (.seq sz r) else none
    | none => none
  | _ => none
mutual
def pur (h : List (Option Ob)) : V → Option V
  | .nil sz => some (.seq sz [])
  | .ref id n => pur1 h id n
  | .mref id i n => pur2 h id i n
  | .fseq sz l => some (.seq sz l)
  | .mptr _ _ _ _ _ => none
  | .strct cs => (purs h cs).map .strct
  | .tup vs => (purs h vs).map .tup
  | .fn f a b => match purs h a, purs h b with
    | some a', some b' => some (.fn f a' b')
    | _, _ => none
  | .iface t x => (pur h x).map (.iface t)
  | .ptr _ _ => none
  | .eptr _ _ _ _ => none
  | .int k n => some (.int k n)
  | .bool b => some (.bool b)
  | .str s => some (.str s)
  | .seq sz l => some (.seq sz l)
  | .sptr x off => some (.sptr x off)
  | .nilptr => some .nilptr
  | .nilfn => some .nilfn
  | .niliface => some .niliface
  | .junk => some .junk
def purs (h : List (Option Ob)) : List V → Option (List V)
  | [] => some []
  | v :: vs => match pur h v, purs h vs with
    | some u, some us => some (u :: us)
    | _, _ => none
end

/-- A row's elements, none of which lies in what is the call's own. -/
def src (h : List (Option Ob)) : V → Option V
  | .ref id n => match h[id]? with
    | some (some (.arr _ sz l)) => if n = l.length then some (.seq sz l) else none
    | _ => none
  | v => pur h v

mutual
/-- Does a value lie in no memory at all? -/
def flat : V → Bool
  | .int _ _ => true
  | .bool _ => true
  | .str _ => true
  | .strct cs => flats cs
  | .tup vs => flats vs
  | .nilptr => true
  | .nilfn => true
  | .niliface => true
  | .junk => true
  | .fn _ a b => flats a && flats b
  | .seq _ l => l.isEmpty
  | .iface _ x => flat x
  | .nil _ => true
  | .ref _ _ => false
  | .ptr _ _ => false
  | .eptr _ _ _ _ => false
  | .mref _ _ _ => false
  | .fseq _ _ => false
  | .mptr _ _ _ _ _ => false
  | .sptr _ _ => false
def flats : List V → Bool
  | [] => true
  | v :: vs => flat v && flats vs
end

mutual
/-- What is the call's own and named by a value. -/
def vids : V → List Nat
  | .ref id _ => [id]
  | .ptr id _ => [id]
  | .eptr id _ _ _ => [id]
  | .mref id _ _ => [id]
  | .fseq _ _ => []
  | .mptr id _ _ _ _ => [id]
  | .strct cs => vidss cs
  | .tup vs => vidss vs
  | .fn _ a b => vidss a ++ vidss b
  | .iface _ x => vids x
  | .int _ _ => []
  | .bool _ => []
  | .str _ => []
  | .nil _ => []
  | .seq _ _ => []
  | .sptr _ _ => []
  | .nilptr => []
  | .nilfn => []
  | .niliface => []
  | .junk => []
def vidss : List V → List Nat
  | [] => []
  | v :: vs => vids v ++ vidss vs
end

def idx : Nat → List Nat → Option Nat
  | _, [] => none
  | n, k :: ks => if n = k then some 0 else (idx n ks).map (· + 1)

mutual
def ren (m : List Nat) : V → V
  | .ref id n => match idx id m with
    | some j => .ref j n
    | none => .junk
  | .ptr id off => match idx id m with
    | some j => .ptr j off
    | none => .junk
  | .eptr id n i off => match idx id m with
    | some j => .eptr j n i off
    | none => .junk
  | .fseq sz l => .fseq sz l
  | .mref id i n => match idx id m with
    | some j => .mref j i n
    | none => .junk
  | .mptr id i n k off => match idx id m with
    | some j => .mptr j i n k off
    | none => .junk
  | .strct cs => .strct (rens m cs)
  | .tup vs => .tup (rens m vs)
  | .fn f a b => .fn f (rens m a) (rens m b)
  | .iface t x => .iface t (ren m x)
  | .int k n => .int k n
  | .bool b => .bool b
  | .str s => .str s
  | .nil sz => .nil sz
  | .seq sz l => .seq sz l
  | .sptr x off => .sptr x off
  | .nilptr => .nilptr
  | .nilfn => .nilfn
  | .niliface => .niliface
  | .junk => .junk
def rens (m : List Nat) : List V → List V
  | [] => []
  | v :: vs => ren m v :: rens m vs
end

def uniq : List Nat → List Nat → List Nat
  | acc, [] => acc
  | acc, k :: ks => if memb k acc = true then uniq acc ks else uniq (acc ++ [k]) ks

def rids : List (Nat × V) → List Nat
  | [] => []
  | (_, v) :: r => vids v ++ rids r
def hids (h : List (Option Ob)) : List Nat → List Nat
  | [] => []
  | id :: ids => (match h[id]? with
    | some (some (.box cs)) => vidss cs
    | _ => []) ++ hids h ids
def renR (m : List Nat) : List (Nat × V) → List (Nat × V)
  | [] => []
  | (k, v) :: r => (k, ren m v) :: renR m r
def renO (m : List Nat) : Option Ob → Option Ob
  | some (Ob.box cs) => some (.box (rens m cs))
  | some (Ob.arr e sz l) => some (Ob.arr e sz l)
  | some (Ob.mat e e2 sz rows) => some (Ob.mat e e2 sz rows)
  | some (Ob.mp kt l) => some (Ob.mp kt l)
  | none => none
def renH (h : List (Option Ob)) (m : List Nat) : List Nat → List (Option Ob)
  | [] => []
  | id :: ids => renO m (h.getD id none) :: renH h m ids

/-- A state's normal form at a loop's head: some registers, what they reach, numbered anew. -/
def St.nrm (σ : St) (ks : List Nat) : St :=
  let r := pk σ.r ks
  let a := uniq [] (rids r)
  let b := uniq a (hids σ.h a)
  let c := uniq b (hids σ.h b)
  { r := renR c r, h := renH σ.h c c }

/-- A nil slice that will be appended to becomes a row of its own. -/
inductive Mat where
  | r (t e sz : Nat)
  | b (id off e sz : Nat)

def St.mat (σ : St) : Mat → Option St
  | .r t e sz => match lk σ.r t with
    | some (.nil _) => if 0 < sz then some { r := (t, .ref σ.h.length 0) :: σ.r, h := σ.h ++ [some (Ob.arr e sz [])] } else none
    | _ => none
  | .b id off e sz => match σ.box? id with
    | some cs => match cs[off]? with
      | some (.nil _) => if 0 < sz then some { σ with h := σ.h.set id (some (.box (cs.set off (.ref σ.h.length 0)))) ++ [some (Ob.arr e sz [])] } else none
      | _ => none
    | none => none
def St.mats (σ : St) : List Mat → Option St
  | [] => some σ
  | m :: ms => match σ.mat m with
    | some σ' => σ'.mats ms
    | none => none

/-! ### Operations -/
def vshift (op : BinOp) (k : IntKind) (a b : Int) : Option V :=
  if b < 0 then none else
  match op with
  | .shl => some (.int k (k.wrap (a * 2 ^ (min b.toNat k.bits))))
  | .shr => some (.int k (a.fdiv (2 ^ (min b.toNat k.bits))))
  | _ => none
def vbits (op : BinOp) (k : IntKind) (x y : Int) : Option V :=
  let a := BitVec.ofInt k.bits x
  let b := BitVec.ofInt k.bits y
  match op with
  | .and => some (.int k (k.wrap (a &&& b).toNat))
  | .or => some (.int k (k.wrap (a ||| b).toNat))
  | .xor => some (.int k (k.wrap (a ^^^ b).toNat))
  | .andNot => some (.int k (k.wrap (a &&& ~~~b).toNat))
  | _ => none
def vint (op : BinOp) (k : IntKind) (a b : Int) : Option V :=
  match op with
  | .add => some (.int k (k.wrap (a + b)))
  | .sub => some (.int k (k.wrap (a - b)))
  | .mul => some (.int k (k.wrap (a * b)))
  | .quo => if b = 0 then none else some (.int k (k.wrap (a.tdiv b)))
  | .rem => if b = 0 then none else some (.int k (a.tmod b))
  | .eql => some (.bool (decide (a = b)))
  | .neq => some (.bool (!decide (a = b)))
  | .lss => some (.bool (decide (a < b)))
  | .leq => some (.bool (decide (a ≤ b)))
  | .gtr => some (.bool (decide (b < a)))
  | .geq => some (.bool (decide (b ≤ a)))
  | _ => none
def vstr (op : BinOp) (a b : List UInt8) : Option V :=
  match op with
  | .add => if a.length + b.length ≤ 4611686018427387904 then some (.str (a ++ b)) else none
  | .eql => some (.bool (decide (a = b)))
  | .neq => some (.bool (!decide (a = b)))
  | .lss => some (.bool (Op.bytesLess a b))
  | .leq => some (.bool (Op.bytesLess a b || decide (a = b)))
  | .gtr => some (.bool (!(Op.bytesLess a b || decide (a = b))))
  | .geq => some (.bool (!Op.bytesLess a b))
  | _ => none
def vbin (op : BinOp) : V → V → Option V
  | .int k a, .int k' b => match op with
    | .shl => vshift .shl k a b
    | .shr => vshift .shr k a b
    | .and => if k = k' then vbits .and k a b else none
    | .or => if k = k' then vbits .or k a b else none
    | .xor => if k = k' then vbits .xor k a b else none
    | .andNot => if k = k' then vbits .andNot k a b else none
    | .add => if k = k' then vint .add k a b else none
    | .sub => if k = k' then vint .sub k a b else none
    | .mul => if k = k' then vint .mul k a b else none
    | .quo => if k = k' then vint .quo k a b else none
    | .rem => if k = k' then vint .rem k a b else none
    | .eql => if k = k' then vint .eql k a b else none
    | .neq => if k = k' then vint .neq k a b else none
    | .lss => if k = k' then vint .lss k a b else none
    | .leq => if k = k' then vint .leq k a b else none
    | .gtr => if k = k' then vint .gtr k a b else none
    | .geq => if k = k' then vint .geq k a b else none
  | .str a, .str b => vstr op a b
  | _, _ => none
def vcii (k : IntKind) (n : Int) : Option V := some (.int k (k.wrap n))
def vun (op : UnOp) : V → Option V
  | .int k n => match op with
    | .neg => some (.int k (k.wrap (0 - n)))
    | _ => none
  | .bool b => match op with
    | .not => some (.bool !b)
    | _ => none
  | _ => none

def bytesV : List UInt8 → List V
  | [] => []
  | b :: s => .int .u8 b.toNat :: bytesV s
def ofBytesV : List V → Option (List UInt8)
  | [] => some []
  | .int .u8 n :: l => (ofBytesV l).map (UInt8.ofNat n.toNat :: ·)
  | _ :: _ => none

def isS : V → Bool
  | .strct _ => true
  | _ => false
def nt : V → Bool
  | .tup _ => false
  | _ => true
def sameLen (sz : Nat) : List V → Bool
  | [] => true
  | v :: vs => decide ((cl v).length = sz) && nt v && sameLen sz vs

def bldV (σ : St) : List V → List (Nat × Nat × AO) → Option (List V)
  | cs, [] => some cs
  | cs, (off, n, x) :: ps => match σ.ev x with
    | some v => if (cl v).length = n ∧ nt v = true then (match splice cs off (cl v) with
      | some cs' => bldV σ cs' ps
      | none => none) else none
    | none => none

def sliceV (s : List V) (lo hi : Int) : Option (List V) := if 0 ≤ lo ∧ lo ≤ hi ∧ hi ≤ s.length then some ((s.drop lo.toNat).take (hi.toNat - lo.toNat)) else none

namespace St
/-- Is an address of the call's own one of something that is there? -/
def live (σ : St) : V → Bool
  | .ptr id _ => (σ.box? id).isSome
  | .eptr id n i _ => match σ.arr? id with
    | some (_, _, l) => decide (n = l.length) && decide (i < n)
    | none => false
  | .mptr id i n k _ => match σ.rws? id with
    | some (_, _, _, rows) => match rowAt rows i with
      | some r => decide (n = r.length) && decide (k < n)
      | none => false
    | none => false
  | .sptr _ _ => true
  | .fn (.func _) _ _ => true
  | _ => false
/-- An address, so much on. -/
def fwd (k : Nat) : V → Option V
  | .ptr id o => some (.ptr id (o + k))
  | .eptr id n i o => some (.eptr id n i (o + k))
  | .mptr id i n j o => some (.mptr id i n j (o + k))
  | .sptr y o => some (.sptr y (o + k))
  | _ => none
/-- Is a pointer (0), an interface's value (1), a function (2) nil? -/
def isNil (k : Nat) (lv : Bool) : V → Option Bool
  | .nilptr => if k = 0 then some true else none
  | .sptr _ _ => if k = 0 then some false else none
  | .ptr _ _ => if k = 0 ∧ lv = true then some false else none
  | .eptr _ _ _ _ => if k = 0 ∧ lv = true then some false else none
  | .mptr _ _ _ _ _ => if k = 0 ∧ lv = true then some false else none
  | .niliface => if k = 1 then some true else none
  | .iface _ _ => if k = 1 then some false else none
  | .nilfn => if k = 2 then some true else none
  | .fn _ _ _ => if k = 2 then some false else none
  | _ => none
/-- The value of an operation that turns nothing. -/
def val (σ : St) : Act' → Option V
  | .mov x => σ.ev x
  | .pick c a b => match σ.ev c with
    | some (.bool t) => if t = true then σ.ev a else σ.ev b
    | _ => none
  | .fld x off n agg => match σ.ev x with
    | some (.strct cs) => match cut cs off n with
      | some us => mkc agg us
      | none => none
    | _ => none
  | .fa x off => match σ.ev x with
    | some v => if σ.live v = true then fwd off v else none
    | none => none
  | .ia x i sz => match σ.ev x, σ.ev i with
    | some (.seq sz' l), some (.int _ n) => if sz = sz' ∧ 0 ≤ n then (match l[n.toNat]? with
      | some v => some (.sptr v 0)
      | none => none) else none
    | some (.fseq sz' l), some (.int _ n) => if sz = sz' ∧ 0 ≤ n then (match l[n.toNat]? with
      | some v => some (.sptr v 0)
      | none => none) else none
    | some (.ref id m), some (.int _ n) => match σ.arr? id with
      | some (_, sz', l) => if sz = sz' ∧ m = l.length ∧ 0 ≤ n ∧ n < m then some (.eptr id m n.toNat 0) else none
      | none => match σ.rws? id with
        | some (_, _, _, rows) => if sz = 1 ∧ m = rows.length ∧ 0 ≤ n ∧ n < m then some (.eptr id m n.toNat 0) else none
        | none => none
    | some (.mref id i m), some (.int _ n) => match σ.rws? id with
      | some (_, _, sz', rows) => match rowAt rows i with
        | some r => if sz = sz' ∧ m = r.length ∧ 0 ≤ n ∧ n < m then some (.mptr id i m n.toNat 0) else none
        | none => none
      | none => none
    | _, _ => none
  | .iaa x i len sz => match σ.ev x, σ.ev i with
    | some v, some (.int _ n) => if σ.live v = true ∧ 0 ≤ n ∧ n < len then fwd (n.toNat * sz) v else none
    | _, _ => none
  | .ld x n agg => match σ.ev x with
    | some p => match σ.fetch p n with
      | some us => mkc agg us
      | none => none
    | none => none
  | .ixs x i => match σ.ev x, σ.ev i with
    | some (.str s), some (.int _ n) => if 0 ≤ n then (match s[n.toNat]? with
      | some b => some (.int .u8 b.toNat)
      | none => none) else none
    | _, _ => none
  | .ixa x i len sz agg => match σ.ev x, σ.ev i with
    | some (.strct cs), some (.int _ n) => if 0 ≤ n ∧ n < len then (match cut cs (n.toNat * sz) sz with
      | some us => mkc agg us
      | none => none) else none
    | _, _ => none
  | .bin op x y => match σ.ev x, σ.ev y with
    | some a, some b => vbin op a b
    | _, _ => none
  | .un op x => match σ.ev x with
    | some a => vun op a
    | _ => none
  | .cii k x => match σ.ev x with
    | some (.int _ n) => vcii k n
    | _ => none
  | .b2s x => match σ.ev x with
    | some v => match pur σ.h v with
      | some (.seq 1 l) => (ofBytesV l).map .str
      | _ => none
    | none => none
  | .sls x lo hi => match σ.ev x with
    | some (.str s) => match σ.evo (.int .i64 0) lo, σ.evo (.int .i64 s.length) hi with
      | some (.int _ a), some (.int _ b) => if 0 ≤ a ∧ a ≤ b ∧ b ≤ s.length then some (.str ((s.drop a.toNat).take (b.toNat - a.toNat))) else none
      | _, _ => none
    | _ => none
  | .slq x lo hi sz => match σ.ev x with
    | some (.seq sz' l) => match σ.evo (.int .i64 0) lo, σ.evo (.int .i64 l.length) hi with
      | some (.int _ a), some (.int _ b) => if sz = sz' then (sliceV l a b).map (.seq sz) else none
      | _, _ => none
    | _ => none
  | .beq neg x y => match σ.ev x, σ.ev y with
    | some (.bool a), some (.bool b) => if neg = true then some (.bool (!(a == b))) else some (.bool (a == b))
    | _, _ => none
  | .lens x => match σ.ev x with
    | some (.str s) => some (.int .i64 s.length)
    | _ => none
  | .lenq x => match σ.ev x with
    | some (.seq _ l) => some (.int .i64 l.length)
    | some (.fseq _ l) => some (.int .i64 l.length)
    | some (.nil _) => some (.int .i64 0)
    | some (.ref id n) => match σ.arr? id with
      | some (_, _, l) => if n = l.length then some (.int .i64 n) else none
      | none => match σ.rws? id with
        | some (_, _, _, rows) => if n = rows.length then some (.int .i64 n) else none
        | none => none
    | some (.mref id i n) => match σ.rws? id with
      | some (_, _, _, rows) => match rowAt rows i with
        | some r => if n = r.length then some (.int .i64 n) else none
        | none => none
      | none => none
    | _ => none
  | .ext x i => match σ.ev x with
    | some (.tup vs) => vs[i]?
    | _ => none
  | .bld z ps => (bldV σ z ps).map .strct
  | .mkf f a b => match σ.evs a, σ.evs b with
    | some a', some b' => some (.fn f a' b')
    | _, _ => none
  | .nlc x => match σ.ev x with
    | some v => if σ.live v = true then some v else none
    | none => none
  | .mki t x => match σ.ev x with
    | some v => if nt v = true then some (.iface t v) else none
    | none => none
  | .aeq neg kt x y => match σ.ev x, σ.ev y with
    | some u, some v => if fitsK kt u = true ∧ fitsK kt v = true then some (.bool (xor neg (eqK u v))) else none
    | _, _ => none
  | .lkp kt z okk x k => match σ.ev x, σ.ev k with
    | some (.ref id _), some kv => match σ.mp? id with
      | some (kt', l) => if kt' = kt ∧ fitsK kt kv = true then (match mget kv l with
        | some v => some (if okk = true then .tup [v, .bool true] else v)
        | none => some (if okk = true then .tup [z, .bool false] else z)) else none
      | none => none
    | _, _ => none
  | .mm mx x y => match σ.ev x, σ.ev y with
    | some (.int k a), some (.int k' b) => if k = k' then some (.int k (if mx = true then (if b > a then b else a) else (if b < a then b else a))) else none
    | _, _ => none
  | .nlq k neg x => match σ.ev x with
    | some v => match isNil k (σ.live v) v with
      | some b => some (.bool (xor neg b))
      | none => none
    | none => none
  | _ => none
def kill : St → List Nat → St
  | σ, [] => σ
  | σ, id :: ids => { σ with h := σ.h.set id none }.kill ids
/-- A row is put into a row of rows: a longer one than lies there. -/
def storM (σ : St) (n id m i off : Nat) : List V → Option St
  | [.ref id2 n2] => match σ.rws? id, σ.arr? id2 with
    | some (e, e2, sz, rows), some (e2', sz', l) => match rowAt rows i with
      | some r => if n = 1 ∧ off = 0 ∧ m = rows.length ∧ e2' = e2 ∧ sz' = sz ∧ n2 = l.length ∧ r.length < l.length then some { σ with h := (σ.h.set id2 none).set id (some (Ob.mat e e2 sz (rows.set i (some l)))) } else none
      | none => none
    | _, _ => none
  | _ => none
/-- A store. -/
def stor (σ : St) (n : Nat) : V → List V → Option St
  | .ptr id off, us => match σ.box? id with
    | some cs => if us.length = n then (match splice cs off us with
      | some cs' => some { σ with h := σ.h.set id (some (Ob.box cs')) }
      | none => none) else none
    | none => none
  | .eptr id m i off, us => match purs σ.h us with
    | some us' => match (σ.kill (vidss us)).arr? id with
      | some (e, sz, l) => if us.length = n ∧ m = l.length then (match l[i]? with
        | some v => match splice (cl v) off us' with
          | some cs' => match mkc (isS v) cs' with
            | some v' => some { (σ.kill (vidss us)) with h := (σ.kill (vidss us)).h.set id (some (Ob.arr e sz (l.set i v'))) }
            | none => none
          | none => none
        | none => none) else none
      | none => σ.storM n id m i off us
    | none => none
  | .mptr id i m k off, us => match purs σ.h us with
    | some us' => match (σ.kill (vidss us)).rws? id with
      | some (e, e2, sz, rows) => match rowAt rows i with
        | some r => if us.length = n ∧ m = r.length then (match r[k]? with
          | some v => match splice (cl v) off us' with
            | some cs' => match mkc (isS v) cs' with
              | some v' => some { (σ.kill (vidss us)) with h := (σ.kill (vidss us)).h.set id (some (Ob.mat e e2 sz (rows.set i (some (r.set k v'))))) }
              | none => none
            | none => none
          | none => none) else none
        | none => none
      | none => none
    | none => none
  | _, _ => none
end St

mutual
/-- What is known of the sizes in a value. -/
def ok : V → Prop
  | .int k n => k.min ≤ n ∧ n ≤ k.max
  | .str s => s.length ≤ 4611686018427387904
  | .seq _ l => l.length ≤ 140737488355328 ∧ oks l
  | .strct cs => oks cs
  | .tup vs => oks vs
  | .sptr x _ => ok x
  | .iface _ x => ok x
  | .fn _ a b => oks a ∧ oks b
  | .bool _ => True
  | .nil _ => True
  | .ref _ _ => True
  | .ptr _ _ => True
  | .eptr _ _ _ _ => True
  | .mref _ _ _ => True
  | .fseq _ _ => True
  | .mptr _ _ _ _ _ => True
  | .nilptr => True
  | .nilfn => True
  | .niliface => True
  | .junk => True
def oks : List V → Prop
  | [] => True
  | v :: vs => ok v ∧ oks vs
end

/-- Contracts: of a call that turns nothing of the caller's; of one that hands back new memory alone; and of one that turns what is lent to it: the places of what it turns, its arguments, what they name; what it hands back, and what there is then. -/
structure Ctr where
  p : FuncId → List V → V → Prop
  n : FuncId → List V → V → Prop
  e : FuncId → List Nat → List V → List (Option Ob) → V → List (Option Ob) → Prop
def pickV (vs : List V) : List Nat → List V
  | [] => []
  | i :: is => match vs[i]? with
    | some v => v :: pickV vs is
    | none => pickV vs is
/-- Is a value a whole variable, or the whole of a row? -/
def St.cur0 (σ : St) : V → Bool
  | .ptr id off => (σ.box? id).isSome && decide (off = 0)
  | .ref id n => match σ.arr? id with
    | some (_, _, l) => decide (n = l.length)
    | none => false
  | .eptr id n i _ => match σ.arr? id with
    | some (_, _, l) => decide (n = l.length) && decide (i < n)
    | none => false
  | _ => false
mutual
/-- Is all that a value names named so? -/
def St.cur (σ : St) : V → Bool
  | .fn _ a b => σ.curA a && σ.curA b
  | .strct cs => σ.curA cs
  | .tup cs => σ.curA cs
  | .iface _ x => σ.cur x
  | v => σ.cur0 v || (vids v).isEmpty
def St.curA (σ : St) : List V → Bool
  | [] => true
  | v :: vs => σ.cur v && σ.curA vs
end
def St.curs (σ : St) : List V → Bool
  | [] => true
  | v :: vs => σ.cur v && σ.curs vs
/-- How many are turned; and what a call is lent, those ahead. -/
def lent (h : List (Option Ob)) (pvs vs : List V) : Nat × List Nat :=
  let a := uniq [] (vidss pvs)
  let b := uniq a (vidss vs)
  let c := uniq b (hids h b)
  (a.length, uniq c (hids h c))
mutual
/-- What a call's own numbers are for its caller. -/
def bck (m : List Nat) : V → V
  | .ref j n => match m[j]? with
    | some id => .ref id n
    | none => .junk
  | .ptr j off => match m[j]? with
    | some id => .ptr id off
    | none => .junk
  | .eptr j n i off => match m[j]? with
    | some id => .eptr id n i off
    | none => .junk
  | .fseq sz l => .seq sz l
  | .mref j i n => match m[j]? with
    | some id => .mref id i n
    | none => .junk
  | .mptr j i n k off => match m[j]? with
    | some id => .mptr id i n k off
    | none => .junk
  | .strct cs => .strct (bcks m cs)
  | .tup vs => .tup (bcks m vs)
  | .fn f a b => .fn f (bcks m a) (bcks m b)
  | .iface t x => .iface t (bck m x)
  | .int k n => .int k n
  | .bool b => .bool b
  | .str s => .str s
  | .nil sz => .nil sz
  | .seq sz l => .seq sz l
  | .sptr x off => .sptr x off
  | .nilptr => .nilptr
  | .nilfn => .nilfn
  | .niliface => .niliface
  | .junk => .junk
def bcks (m : List Nat) : List V → List V
  | [] => []
  | v :: vs => bck m v :: bcks m vs
end
def bckO (m : List Nat) : Option Ob → Option Ob
  | some (Ob.box cs) => some (.box (bcks m cs))
  | some (Ob.arr e sz l) => some (Ob.arr e sz l)
  | some (Ob.mat e e2 sz rows) => some (Ob.mat e e2 sz rows)
  | some (Ob.mp kt l) => some (Ob.mp kt l)
  | none => none
def bckH (m : List Nat) : List (Option Ob) → List (Option Ob)
  | [] => []
  | ob :: obs => bckO m ob :: bckH m obs
def wr (h : List (Option Ob)) : List Nat → List (Option Ob) → List (Option Ob)
  | [], _ => h
  | _, [] => h
  | id :: ids, ob :: obs => wr (h.set id ob) ids obs
/-- Where what a call leaves lies for its caller: 'q' in their old places, the rest behind all. -/
def dest (q : Nat) (m : List Nat) (n k : Nat) : List Nat := m.take q ++ List.range' n (k - q)
def St.back (σ : St) (q : Nat) (m : List Nat) (H' : List (Option Ob)) : List (Option Ob) :=
  wr ((σ.kill m).h ++ List.replicate (H'.length - q) none) (dest q m σ.h.length H'.length) (bckH (dest q m σ.h.length H'.length) H')
/-- What is known of the sizes in what lies in memory. -/
def okH : List (Option Ob) → Prop
  | [] => True
  | some (.box cs) :: h => oks cs ∧ okH h
  | some (.arr _ _ l) :: h => (l.length ≤ 140737488355328 ∧ oks l) ∧ okH h
  | some (.mat _ _ _ rows) :: h => rows.length ≤ 140737488355328 ∧ okH h
  | some (.mp _ _) :: h => okH h
  | none :: h => okH h
/-- What is turned stays of its kind. -/
def kin : Nat → List (Option Ob) → List (Option Ob) → Bool
  | 0, _, _ => true
  | q + 1, some (.box _) :: H, some (.box _) :: H' => kin q H H'
  | q + 1, some (.arr e sz _) :: H, some (.arr e' sz' _) :: H' => decide (e = e') && decide (sz = sz') && kin q H H'
  | _, _, _ => false
def wcallHK (Φ : Ctr) (d : Option Nat) (f : FuncId) (vs : List V) (ps : List Nat) (K : St → Prop) (σ : St) (q : Nat) (m : List Nat) : Prop :=
  ∃ r H', kin q (renH σ.h m m) H' = true ∧ Φ.e f ps (rens m vs) (renH σ.h m m) r H' ∧ (ok r → okH H' → K (St.put ⟨σ.r, σ.back q m H'⟩ d (bck (dest q m σ.h.length H'.length) r)))
/-- A call that turns what is lent to it. -/
def wcallH (Φ : Ctr) (d : Option Nat) (f : FuncId) (vs : List V) (K : St → Prop) (σ : St) : Prop :=
  ∃ ps, σ.curs (pickV vs ps) = true ∧ wcallHK Φ d f vs ps K σ (lent σ.h (pickV vs ps) vs).1 (lent σ.h (pickV vs ps) vs).2

/-- A call: 'flat' what comes back lies in no memory; else what was handed on is the call's own no more. -/
def wret (Φ : Ctr) (f : FuncId) (vs us : List V) (r : V) : Prop := (Φ.p f us r ∧ (flat r = true ∨ vidss vs = [])) ∨ Φ.n f us r
mutual
/-- What comes back, in new memory alone. -/
def fz : V → V
  | .seq sz l => .fseq sz l
  | .strct cs => .strct (fzs cs)
  | .tup vs => .tup (fzs vs)
  | v => v
def fzs : List V → List V
  | [] => []
  | v :: vs => fz v :: fzs vs
end
def wcall (Φ : Ctr) (d : Option Nat) (f : FuncId) (vs us : List V) (K : St → Prop) (σ : St) : Prop :=
  ∃ r, (wret Φ f vs us r ∧ (ok r → K (σ.put d r))) ∨ (Φ.p f us r ∧ (ok r → K ((σ.kill (vidss vs)).put d r))) ∨ (Φ.n f us r ∧ (ok r → K (σ.put d (fz r))))

def lkF : List (Nat × FuncId) → Nat → Option FuncId
  | [], _ => none
  | (t, f) :: l, u => if t = u then some f else lkF l u
def wact (Φ : Ctr) (d : Option Nat) (a : Act') (K : St → Prop) (σ : St) : Prop :=
  match a with
  | .alc z => K ({ σ with h := σ.h ++ [some (Ob.box z)] }.put d (.ptr σ.h.length 0))
  | .box x => match σ.ev x with
    | some v => if nt v = true then K ({ σ with h := σ.h ++ [some (Ob.box (cl v))] }.put d (.ptr σ.h.length 0)) else False
    | none => False
  | .st n p x => match σ.ev p, σ.ev x with
    | some a, some v => if nt v = true then (match σ.stor n a (cl v) with
      | some σ' => K (σ'.put d (.tup []))
      | none => False) else False
    | _, _ => False
  | .s2b x => match σ.ev x with
    | some (.str s) => s.length ≤ 140737488355328 ∧ K (σ.put d (.seq 1 (bytesV s)))
    | _ => False
  | .lit _ sz xs => match σ.evs xs with
    | some vs => match purs σ.h vs with
      | some us => sameLen sz us = true ∧ us.length ≤ 16777216 ∧ K ((σ.kill (vidss vs)).put d (.seq sz us))
      | none => False
    | none => False
  | .app x y e sz by' => match σ.ev x, σ.ev y with
    | some u, some v => match src σ.h v with
      | some (.seq sz' l) => sz' = sz ∧
        (match u with
        | .nil _ => l.length * by' ≤ 140737488355328 ∧ K ({ σ with h := σ.h ++ [some (Ob.arr e sz l)] }.put d (.ref σ.h.length l.length))
        | .ref id n => match σ.arr? id with
          | some (e', sz', l0) => e' = e ∧ sz' = sz ∧ n = l0.length ∧ (n + l.length) * by' ≤ 140737488355328 ∧
            K ({ σ with h := σ.h.set id (some (Ob.arr e sz (l0 ++ l))) }.put d (.ref id (n + l.length)))
          | none => False
        | .mref id i n => match σ.rws? id with
          | some (e1, e2, sz2, rows) => match rowAt rows i with
            | some r => e2 = e ∧ sz2 = sz ∧ n = r.length ∧ (n + l.length) * by' ≤ 140737488355328 ∧
              K ({ σ with h := σ.h.set id (some (Ob.mat e1 e2 sz2 (rows.set i none))) ++ [some (Ob.arr e sz (r ++ l))] }.put d (.ref σ.h.length (n + l.length)))
            | none => False
          | none => False
        | _ => False)
      | _ => False
    | _, _ => False
  | .mks e sz by' z n => match σ.ev n with
    | some (.int _ m) => 0 ≤ m ∧ m * by' ≤ 140737488355328 ∧
      K ({ σ with h := σ.h ++ [some (Ob.arr e sz (List.replicate m.toNat z))] }.put d (.ref σ.h.length m.toNat))
    | _ => False
  | .mkm e by' e2 sz n => match σ.ev n with
    | some (.int _ m) => 0 ≤ m ∧ m * by' ≤ 140737488355328 ∧
      K ({ σ with h := σ.h ++ [some (Ob.mat e e2 sz (List.replicate m.toNat (some [])))] }.put d (.ref σ.h.length m.toNat))
    | _ => False
  | .call f xs => match σ.evs xs with
    | some vs => match purs σ.h vs with
      | some us => wcall Φ d f vs us K σ
      | none => wcallH Φ d f vs K σ
    | none => False
  | .callv g xs => match σ.ev g, σ.evs xs with
    | some (.fn (.func f) a b), some vs => match purs σ.h (a ++ vs ++ b) with
      | some us => wcall Φ d f (a ++ vs ++ b) us K σ
      | none => wcallH Φ d f (a ++ vs ++ b) K σ
    | _, _ => False
  | .callH f xs => match σ.evs xs with
    | some vs => wcallH Φ d f vs K σ
    | none => False
  | .mkp kt => K ({ σ with h := σ.h ++ [some (Ob.mp kt [])] }.put d (.ref σ.h.length 0))
  | .mup kt x k v => match σ.ev x, σ.ev k, σ.ev v with
    | some (.ref id _), some kv, some u => match σ.mp? id, pur σ.h u with
      | some (kt', l), some u' => kt' = kt ∧ fitsK kt kv = true ∧ vids u = [] ∧ nt u' = true ∧ K ({ σ with h := σ.h.set id (some (Ob.mp kt (mput kv u' l))) }.put d (.tup []))
      | _, _ => False
    | _, _, _ => False
  | .inv tbl x xs => match σ.ev x, σ.evs xs with
    | some (.iface t v), some vs => match lkF tbl t with
      | some f => (match purs σ.h (v :: vs) with
        | some us => wcall Φ d f (v :: vs) us K σ
        | none => wcallH Φ d f (v :: vs) K σ)
      | none => False
    | _, _ => False
  | .ltr e sz xs => match σ.evs xs with
    | some vs => match purs σ.h vs with
      | some us => sameLen sz us = true ∧ us.length ≤ 16777216 ∧ K (St.put ⟨(σ.kill (vidss vs)).r, (σ.kill (vidss vs)).h ++ [some (Ob.arr e sz us)]⟩ d (.ref (σ.kill (vidss vs)).h.length us.length))
      | none => False
    | none => False
  | .trc x hi sz => match σ.ev x, σ.ev hi with
    | some (.ref id n), some (.int _ b) => match σ.arr? id with
      | some (e, sz', l) => sz' = sz ∧ n = l.length ∧ 0 ≤ b ∧ b ≤ n ∧ K ({ σ with h := σ.h.set id none ++ [some (Ob.arr e sz (l.take b.toNat))] }.put d (.ref σ.h.length b.toNat))
      | none => False
    | _, _ => False
  | a => match σ.val a with
    | some v => K (σ.put d v)
    | none => False

/-- Two ways on: each under what the test told. -/
def Br (t : Bool) (A B : Prop) : Prop := (t = true → A) ∧ (t = false → B)
theorem Br.mk {t : Bool} {A B : Prop} (h : t = true → A) (h' : t = false → B) : Br t A B := ⟨h, h'⟩
theorem Br_true {A B : Prop} : Br true A B = A := by simp [Br]
theorem Br_false {A B : Prop} : Br false A B = B := by simp [Br]

def wop (Φ : Ctr) (o : AOp) (K : St → Prop) (σ : St) : Prop :=
  match o.g with
  | none => wact Φ o.d o.a K σ
  | some (t, b) => match lk σ.r t with
    | some (.bool y) => if b = true then Br y (wact Φ o.d o.a K σ) (K (σ.put o.d (.tup []))) else Br y (K (σ.put o.d (.tup []))) (wact Φ o.d o.a K σ)
    | some (.tup []) => K (σ.put o.d (.tup []))
    | _ => False

def wops (Φ : Ctr) : List AOp → (St → Prop) → St → Prop
  | [], K, σ => K σ
  | o :: os, K, σ => wop Φ o (wops Φ os K) σ

def wcallHD (Φ : Ctr) (d : Option Nat) (f : FuncId) (vs : List V) (K : St → Prop) (σ : St) : Prop :=
  ∃ ps, σ.curs (pickV vs ps) = true ∧ ∃ r H', kin (lent σ.h (pickV vs ps) vs).1 (renH σ.h (lent σ.h (pickV vs ps) vs).2 (lent σ.h (pickV vs ps) vs).2) H' = true ∧
    Φ.e f ps (rens (lent σ.h (pickV vs ps) vs).2 vs) (renH σ.h (lent σ.h (pickV vs ps) vs).2 (lent σ.h (pickV vs ps) vs).2) r H' ∧
    K (St.put ⟨σ.r, σ.back (lent σ.h (pickV vs ps) vs).1 (lent σ.h (pickV vs ps) vs).2 H'⟩ d (bck (dest (lent σ.h (pickV vs ps) vs).1 (lent σ.h (pickV vs ps) vs).2 σ.h.length H'.length) r))
def wcallD (Φ : Ctr) (d : Option Nat) (f : FuncId) (vs us : List V) (K : St → Prop) (σ : St) : Prop := ∃ r, wret Φ f vs us r ∧ K (σ.put d r)
/-- As 'wact', for a region whose order is drawn: what is made lies in no memory of the call's own, and what comes back lies in none at all. -/
def wactD (Φ : Ctr) (d : Option Nat) (a : Act') (K : St → Prop) (σ : St) : Prop :=
  match a with
  | .lit _ sz xs => match σ.evs xs with
    | some vs => match purs [] vs with
      | some us => sameLen sz us = true ∧ us.length ≤ 16777216 ∧ K (σ.put d (.seq sz us))
      | none => False
    | none => False
  | .call f xs => match σ.evs xs with
    | some vs => match purs σ.h vs with
      | some us => wcallD Φ d f vs us K σ
      | none => False
    | none => False
  | .callv g xs => match σ.ev g, σ.evs xs with
    | some (.fn (.func f) a b), some vs => match purs σ.h (a ++ vs ++ b) with
      | some us => wcallD Φ d f (a ++ vs ++ b) us K σ
      | none => False
    | _, _ => False
  | .callH f xs => match σ.evs xs with
    | some vs => wcallHD Φ d f vs K σ
    | none => False
  | .inv _ _ _ => False
  | .trc _ _ _ => False
  | a => wact Φ d a K σ

def wopD (Φ : Ctr) (o : AOp) (K : St → Prop) (σ : St) : Prop :=
  match o.g with
  | none => wactD Φ o.d o.a K σ
  | some (t, b) => match lk σ.r t with
    | some (.bool y) => if b = true then Br y (wactD Φ o.d o.a K σ) (K (σ.put o.d (.tup []))) else Br y (K (σ.put o.d (.tup []))) (wactD Φ o.d o.a K σ)
    | some (.tup []) => K (σ.put o.d (.tup []))
    | _ => False

def wopsD (Φ : Ctr) : List AOp → (St → Prop) → St → Prop
  | [], K, σ => K σ
  | o :: os, K, σ => wopD Φ o (wopsD Φ os K) σ

def wall (Φ : Ctr) : List (List AOp) → (St → Prop) → St → Prop
  | [], K, σ => True
  | os :: l, K, σ => wops Φ os K σ ∧ wall Φ l K σ
def wtree (Φ : Ctr) : OT → (St → Prop) → St → Prop
  | .nil, K, σ => K σ
  | .op x t, K, σ => wopD Φ x (wtree Φ t K) σ
  | .both a b, K, σ => wtree Φ a K σ ∧ wtree Φ b K σ

inductive Ex where
  | norm
  | exit (id : Nat)
  | goto (l : Nat)
  | ret

def Ex.then (N : St → Prop) (Q : Ex → St → Prop) : Ex → St → Prop
  | .norm, σ => N σ
  | e, σ => Q e σ
def Ex.inBlock (id : Nat) (Q : Ex → St → Prop) : Ex → St → Prop
  | .exit id', σ => if id' = id then Q .norm σ else Q (.exit id') σ
  | e, σ => Q e σ

/-- By a jump to 'l': J; by no other jump. -/
def Ex.jump (l : Nat) (J : St → Prop) (Q : Ex → St → Prop) : Ex → St → Prop
  | .goto l', σ => l' = l ∧ J σ
  | e, σ => Q e σ
/-- What must hold ahead of a piece of code for Q to hold behind it. -/
def W (Φ : Ctr) : AC → (Ex → St → Prop) → St → Prop
  | .skip, Q, σ => Q .norm σ
  | .reg ops ks, Q, σ => wops Φ ops (fun σ' => Q .norm (σ.cls σ' ks)) σ
  | .regD ops ks, Q, σ => wopsD Φ ops (fun σ' => Q .norm (σ.cls σ' ks)) σ
  | .regE alts ks, Q, σ => wall Φ alts (fun σ' => Q .norm (σ.cls σ' ks)) σ
  | .regF t ks, Q, σ => wtree Φ t (fun σ' => Q .norm (σ'.nrm ks)) σ
  | .scope l ks a b, Q, σ => ∃ I : Nat → St → Prop, W Φ a (Ex.jump l (fun τ' => ∃ n ms τ'', τ'.mats ms = some τ'' ∧ I n (τ''.nrm ks)) Q) σ ∧
      ∀ n τ, I n τ → W Φ b (Ex.jump l (fun τ' => ∃ m ms τ'', τ'.mats ms = some τ'' ∧ I m (τ''.nrm ks) ∧ m < n) Q) τ
  | .label l, Q, σ => Q .norm σ
  | .goto l, Q, σ => Q (.goto l) σ
  | .bad, _, _ => False
  | .seq a b, Q, σ => W Φ a (Ex.then (W Φ b Q) Q) σ
  | .cond c a b, Q, σ => match σ.ev c with
    | some (.bool t) => Br t (W Φ a Q σ) (W Φ b Q σ)
    | _ => False
  | .block id c, Q, σ => W Φ c (Ex.inBlock id Q) σ
  | .loop ks c, Q, σ => ∃ I : Nat → St → Prop, (∃ n ms σ', σ.mats ms = some σ' ∧ I n (σ'.nrm ks)) ∧
      ∀ n τ, I n τ → W Φ c (Ex.then (fun τ' => ∃ m ms τ'', τ'.mats ms = some τ'' ∧ I m (τ''.nrm ks) ∧ m < n) Q) τ
  | .exit id, Q, σ => Q (.exit id) σ
  | .ret, Q, σ => Q .ret σ

section rules
variable {Φ : Ctr} {Q : Ex → St → Prop} {σ : St}
theorem W_skip : W Φ .skip Q σ = Q .norm σ := propext Iff.rfl
theorem W_reg {ops ks} : W Φ (.reg ops ks) Q σ = wops Φ ops (fun σ' => Q .norm (σ.cls σ' ks)) σ := propext Iff.rfl
theorem W_regD {ops ks} : W Φ (.regD ops ks) Q σ = wopsD Φ ops (fun σ' => Q .norm (σ.cls σ' ks)) σ := propext Iff.rfl
theorem W_regE {alts ks} : W Φ (.regE alts ks) Q σ = wall Φ alts (fun σ' => Q .norm (σ.cls σ' ks)) σ := propext Iff.rfl
theorem W_regF {t ks} : W Φ (.regF t ks) Q σ = wtree Φ t (fun σ' => Q .norm (σ'.nrm ks)) σ := propext Iff.rfl
theorem W_label {l} : W Φ (.label l) Q σ = Q .norm σ := propext Iff.rfl
theorem W_goto {l} : W Φ (.goto l) Q σ = Q (.goto l) σ := propext Iff.rfl
theorem then_goto {N : St → Prop} {l} : Ex.then N Q (.goto l) σ = Q (.goto l) σ := propext Iff.rfl
theorem inBlock_goto {id l} : Ex.inBlock id Q (.goto l) σ = Q (.goto l) σ := propext Iff.rfl
theorem jump_norm {l} {J : St → Prop} : Ex.jump l J Q .norm σ = Q .norm σ := propext Iff.rfl
theorem jump_ret {l} {J : St → Prop} : Ex.jump l J Q .ret σ = Q .ret σ := propext Iff.rfl
theorem jump_exit {l id} {J : St → Prop} : Ex.jump l J Q (.exit id) σ = Q (.exit id) σ := propext Iff.rfl
theorem jump_goto {l l'} {J : St → Prop} : Ex.jump l J Q (.goto l') σ = (l' = l ∧ J σ) := propext Iff.rfl
theorem W_seq {a b} : W Φ (.seq a b) Q σ = W Φ a (Ex.then (W Φ b Q) Q) σ := propext Iff.rfl
theorem W_block {id c} : W Φ (.block id c) Q σ = W Φ c (Ex.inBlock id Q) σ := propext Iff.rfl
theorem W_exit {id} : W Φ (.exit id) Q σ = Q (.exit id) σ := propext Iff.rfl
theorem W_ret : W Φ .ret Q σ = Q .ret σ := propext Iff.rfl
theorem W_cond {c a b} : W Φ (.cond c a b) Q σ = match σ.ev c with
    | some (.bool t) => Br t (W Φ a Q σ) (W Φ b Q σ)
    | _ => False := propext Iff.rfl
theorem then_norm {N : St → Prop} : Ex.then N Q .norm σ = N σ := propext Iff.rfl
theorem then_exit {N : St → Prop} {id} : Ex.then N Q (.exit id) σ = Q (.exit id) σ := propext Iff.rfl
theorem then_ret {N : St → Prop} : Ex.then N Q .ret σ = Q .ret σ := propext Iff.rfl
theorem inBlock_norm {id} : Ex.inBlock id Q .norm σ = Q .norm σ := propext Iff.rfl
theorem inBlock_ret {id} : Ex.inBlock id Q .ret σ = Q .ret σ := propext Iff.rfl
theorem inBlock_exit {id id'} : Ex.inBlock id Q (.exit id') σ = if id' = id then Q .norm σ else Q (.exit id') σ := propext Iff.rfl

/-- A round's end: the state, in its normal form, is again one of the loop's. -/
def Nx {ι : Type} (st : ι → St) (inv : ι → Prop) (μ : ι → Nat) (ks : List Nat) (n : Nat) (τ : St) : Prop :=
  ∃ ms τ' j, τ.mats ms = some τ' ∧ τ'.nrm ks = st j ∧ inv j ∧ μ j < n
theorem Nx.mk {ι : Type} {st : ι → St} {inv : ι → Prop} {μ : ι → Nat} {ks : List Nat} {n : Nat} {τ : St} (j : ι) (h : τ.nrm ks = st j) (hi : inv j) (hm : μ j < n) : Nx st inv μ ks n τ :=
  ⟨[], τ, j, rfl, h, hi, hm⟩
/-- What is not looked at. -/
def Kept (p : Prop) : Prop := p
theorem Kept.out {p : Prop} (h : Kept p) : p := h
theorem W_loop {ks : List Nat} {c : AC} {ι : Type} (st : ι → St) (inv : ι → Prop) (μ : ι → Nat) (ms : List Mat) (σ' : St) (i0 : ι) (hms : σ.mats ms = some σ') (h0 : σ'.nrm ks = st i0) (hi : inv i0)
    (round : ∀ i, inv i → ∀ N : St → Prop, Kept (∀ τ, Nx st inv μ ks (μ i) τ → N τ) → W Φ c (Ex.then N Q) (st i)) : W Φ (.loop ks c) Q σ := by
  refine ⟨fun n τ => ∃ i, inv i ∧ μ i = n ∧ τ = st i, ⟨μ i0, ms, σ', hms, i0, hi, rfl, h0⟩, ?_⟩
  rintro n τ ⟨i, hi, rfl, rfl⟩
  have e : Ex.then (Nx st inv μ ks (μ i)) Q = Ex.then (fun τ' => ∃ m ms τ'', τ'.mats ms = some τ'' ∧ (∃ j, inv j ∧ μ j = m ∧ τ''.nrm ks = st j) ∧ m < μ i) Q := by
    funext x τ'
    cases x with
    | norm =>
      simp only [then_norm, eq_iff_iff]
      constructor
      · rintro ⟨ms, τ', j, h1, h2, h3, h4⟩; exact ⟨μ j, ms, τ', h1, ⟨j, h3, rfl, h2⟩, h4⟩
      · rintro ⟨_, ms, τ', h1, ⟨j, h3, rfl, h2⟩, h4⟩; exact ⟨ms, τ', j, h1, h2, h3, h4⟩
    | _ => rfl
  rw [← e]
  exact round i hi _ (fun _ h => h)
theorem wcallD_flat {d f vs us} {K : St → Prop} {r : V} (h : Φ.p f us r) (hf : flat r = true) (k : K (σ.put d r)) : wcallD Φ d f vs us K σ := ⟨r, .inl ⟨h, .inl hf⟩, k⟩
theorem wcallD_pure {d f vs us} {K : St → Prop} {r : V} (h : Φ.p f us r) (hf : vidss vs = []) (k : K (σ.put d r)) : wcallD Φ d f vs us K σ := ⟨r, .inl ⟨h, .inr hf⟩, k⟩
theorem wcallD_new {d f vs us} {K : St → Prop} {r : V} (h : Φ.n f us r) (k : K (σ.put d r)) : wcallD Φ d f vs us K σ := ⟨r, .inr h, k⟩
theorem wcall_new {d f vs us} {K : St → Prop} {r : V} (h : Φ.n f us r) (k : ok r → K (σ.put d r)) : wcall Φ d f vs us K σ := ⟨r, .inl ⟨.inr h, k⟩⟩
theorem wcall_pure {d f vs us} {K : St → Prop} {r : V} (h : Φ.p f us r) (hf : vidss vs = []) (k : ok r → K (σ.put d r)) : wcall Φ d f vs us K σ := ⟨r, .inl ⟨.inl ⟨h, .inr hf⟩, k⟩⟩
theorem wcall_flat {d f vs us} {K : St → Prop} {r : V} (h : Φ.p f us r) (hf : flat r = true) (k : ok r → K (σ.put d r)) : wcall Φ d f vs us K σ := ⟨r, .inl ⟨.inl ⟨h, .inl hf⟩, k⟩⟩
theorem wcall_kill {d f vs us} {K : St → Prop} {r : V} (h : Φ.p f us r) (k : ok r → K ((σ.kill (vidss vs)).put d r)) : wcall Φ d f vs us K σ := ⟨r, .inr (.inl ⟨h, k⟩)⟩
theorem wcall_fresh {d f vs us} {K : St → Prop} {r : V} (h : Φ.n f us r) (k : ok r → K (σ.put d (fz r))) : wcall Φ d f vs us K σ := ⟨r, .inr (.inr ⟨h, k⟩)⟩
end rules
end Go.Abs
