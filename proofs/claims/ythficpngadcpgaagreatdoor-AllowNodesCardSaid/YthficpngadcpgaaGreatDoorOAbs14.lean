/-
  Short words for the abstract machine's code. No condition.
  A program that goes through images: what it tells is so. For calls whose arguments are all known. No condition.
  A call that hands back the address of a variable that it made, as a call that hands back plain data. No condition.
  A range over a function: what holds behind the iterator, by its contract, and behind the rounds, by their image. No condition.
  A range over a function, whole: the iterator's contract and the rounds' images, tied. No condition.
  A function that goes through a range over a function: its contract, from its images. No condition.
-/
import Derived.Test.YthficpngadcpgaaGreatDoorOAbs8
import Derived.RangeFuncRecord
set_option linter.unusedVariables false
set_option linter.unusedSimpArgs false
set_option linter.unusedSectionVars false
section
namespace Go.Abs
theorem Cn_p {P:Program}:(Cn P).p=Fn P:=rfl
theorem Cn_n {P:Program}:(Cn P).n=FnN P:=rfl
theorem Cn_e {P:Program}:(Cn P).e=FnH P:=rfl
def o1 (d:Nat) (a:Act'):AOp:=⟨some d,a,none⟩
def o0 (a:Act'):AOp:=⟨none,a,none⟩
def gt (t:Nat) (o:AOp):AOp:=⟨o.d,o.a,some (t,true)⟩
def gf (t:Nat) (o:AOp):AOp:=⟨o.d,o.a,some (t,false)⟩
def ts:List Nat→List AO
 | []=>[]
 | t::l=>.t t::ts l
def m (d x:Nat):AOp:=⟨some d,.mov (.t x),none⟩
def mv (d:Nat) (v:V):AOp:=⟨some d,.mov (.v v),none⟩
def mi (d:Nat) (n:Int):AOp:=⟨some d,.mov (.v (.int .i64 n)),none⟩
def mb (d:Nat) (b:Bool):AOp:=⟨some d,.mov (.v (.bool b)),none⟩
def bt (d:Nat) (op:BinOp) (x y:Nat):AOp:=⟨some d,.bin op (.t x) (.t y),none⟩
def bi (d:Nat) (op:BinOp) (x:Nat) (n:Int):AOp:=⟨some d,.bin op (.t x) (.v (.int .i64 n)),none⟩
def bu (d:Nat) (op:BinOp) (x:Nat) (n:Int):AOp:=⟨some d,.bin op (.t x) (.v (.int .u8 n)),none⟩
def bs (d:Nat) (op:BinOp) (x:Nat) (s:List UInt8):AOp:=⟨some d,.bin op (.t x) (.v (.str s)),none⟩
def nt' (d x:Nat):AOp:=⟨some d,.un .not (.t x),none⟩
def ls (d x:Nat):AOp:=⟨some d,.lens (.t x),none⟩
def lq (d x:Nat):AOp:=⟨some d,.lenq (.t x),none⟩
def fa (d x o:Nat):AOp:=⟨some d,.fa (.t x) o,none⟩
def fl (d x o:Nat):AOp:=⟨some d,.fld (.t x) o 1 false,none⟩
def l1 (d x:Nat):AOp:=⟨some d,.ld (.t x) 1 false,none⟩
def la (d x n:Nat):AOp:=⟨some d,.ld (.t x) n true,none⟩
def ia (d x i s:Nat):AOp:=⟨some d,.ia (.t x) (.t i) s,none⟩
def ix (d x i:Nat):AOp:=⟨some d,.ixs (.t x) (.t i),none⟩
def pa (d x y:Nat):AOp:=⟨some d,.pick (.t x) (.t y) (.v (.bool false)),none⟩
def po (d x y:Nat):AOp:=⟨some d,.pick (.t x) (.v (.bool true)) (.t y),none⟩
def ex (d x i:Nat):AOp:=⟨some d,.ext (.t x) i,none⟩
def bx (d x:Nat):AOp:=⟨some d,.box (.t x),none⟩
def st (n x y:Nat):AOp:=⟨none,.st n (.t x) (.t y),none⟩
def ca (d f:Nat) (l:List Nat):AOp:=⟨some d,.call f (ts l),none⟩
def ch (d f:Nat) (l:List Nat):AOp:=⟨some d,.callH f (ts l),none⟩
def cv (d g:Nat) (l:List Nat):AOp:=⟨some d,.callv (.t g) (ts l),none⟩
def Q:List AC→AC
 | []=>.skip
 | [a]=>a
 | a::l=>.seq a (Q l)
def OQ:List AOp→OT→OT
 | [],t=>t
 | x::xs,t=>.op x (OQ xs t)
def C (c:Nat) (a b:AC):AC:=.cond (.t c) a b
theorem OQ0 {t:OT}:OQ [] t=t:=rfl
theorem OQ1 {x:AOp} {xs:List AOp} {t:OT}:OQ (x::xs) t=.op x (OQ xs t):=rfl
attribute [simp] OQ0 OQ1
section
variable {Φ:Ctr} {K:St→Prop} {σ:St} {Q':Ex→St→Prop}
theorem Q8 {d:Nat} {a:Act'}:wop Φ (o1 d a) K σ=af Φ (some d) (a) K σ:=propext Iff.rfl
theorem O4 {d:Nat} {a:Act'}:aC Φ (o1 d a) K σ=ag Φ (some d) (a) K σ:=propext Iff.rfl
theorem Q9 {a:Act'}:wop Φ (o0 a) K σ=af Φ (none) (a) K σ:=propext Iff.rfl
theorem O5 {a:Act'}:aC Φ (o0 a) K σ=ag Φ (none) (a) K σ:=propext Iff.rfl
theorem wop_m {d x:Nat}:wop Φ (m d x) K σ=af Φ (some d) (.mov (.t x)) K σ:=propext Iff.rfl
theorem RA {d x:Nat}:aC Φ (m d x) K σ=ag Φ (some d) (.mov (.t x)) K σ:=propext Iff.rfl
theorem Ra {d:Nat} {v:V}:wop Φ (mv d v) K σ=af Φ (some d) (.mov (.v v)) K σ:=propext Iff.rfl
theorem O6 {d:Nat} {v:V}:aC Φ (mv d v) K σ=ag Φ (some d) (.mov (.v v)) K σ:=propext Iff.rfl
theorem Rb {d:Nat} {n:Int}:wop Φ (mi d n) K σ=af Φ (some d) (.mov (.v (.int .i64 n))) K σ:=propext Iff.rfl
theorem O7 {d:Nat} {n:Int}:aC Φ (mi d n) K σ=ag Φ (some d) (.mov (.v (.int .i64 n))) K σ:=propext Iff.rfl
theorem Rc {d:Nat} {b:Bool}:wop Φ (mb d b) K σ=af Φ (some d) (.mov (.v (.bool b))) K σ:=propext Iff.rfl
theorem O8 {d:Nat} {b:Bool}:aC Φ (mb d b) K σ=ag Φ (some d) (.mov (.v (.bool b))) K σ:=propext Iff.rfl
theorem Ru {d:Nat} {op:BinOp} {x y:Nat}:wop Φ (bt d op x y) K σ=af Φ (some d) (.bin op (.t x) (.t y)) K σ:=propext Iff.rfl
theorem Pq {d:Nat} {op:BinOp} {x y:Nat}:aC Φ (bt d op x y) K σ=ag Φ (some d) (.bin op (.t x) (.t y)) K σ:=propext Iff.rfl
theorem Ry {d:Nat} {op:BinOp} {x:Nat} {n:Int}:wop Φ (bi d op x n) K σ=af Φ (some d) (.bin op (.t x) (.v (.int .i64 n))) K σ:=propext Iff.rfl
theorem Ps {d:Nat} {op:BinOp} {x:Nat} {n:Int}:aC Φ (bi d op x n) K σ=ag Φ (some d) (.bin op (.t x) (.v (.int .i64 n))) K σ:=propext Iff.rfl
theorem Rt {d:Nat} {op:BinOp} {x:Nat} {n:Int}:wop Φ (bu d op x n) K σ=af Φ (some d) (.bin op (.t x) (.v (.int .u8 n))) K σ:=propext Iff.rfl
theorem Pp {d:Nat} {op:BinOp} {x:Nat} {n:Int}:aC Φ (bu d op x n) K σ=ag Φ (some d) (.bin op (.t x) (.v (.int .u8 n))) K σ:=propext Iff.rfl
theorem Rv {d:Nat} {op:BinOp} {x:Nat} {s:List UInt8}:wop Φ (bs d op x s) K σ=af Φ (some d) (.bin op (.t x) (.v (.str s))) K σ:=propext Iff.rfl
theorem Pr {d:Nat} {op:BinOp} {x:Nat} {s:List UInt8}:aC Φ (bs d op x s) K σ=ag Φ (some d) (.bin op (.t x) (.v (.str s))) K σ:=propext Iff.rfl
theorem OZ {d x:Nat}:wop Φ (nt' d x) K σ=af Φ (some d) (.un .not (.t x)) K σ:=propext Iff.rfl
theorem L2 {d x:Nat}:aC Φ (nt' d x) K σ=ag Φ (some d) (.un .not (.t x)) K σ:=propext Iff.rfl
theorem Rd {d x:Nat}:wop Φ (ls d x) K σ=af Φ (some d) (.lens (.t x)) K σ:=propext Iff.rfl
theorem O9 {d x:Nat}:aC Φ (ls d x) K σ=ag Φ (some d) (.lens (.t x)) K σ:=propext Iff.rfl
theorem Re {d x:Nat}:wop Φ (lq d x) K σ=af Φ (some d) (.lenq (.t x)) K σ:=propext Iff.rfl
theorem Pa {d x:Nat}:aC Φ (lq d x) K σ=ag Φ (some d) (.lenq (.t x)) K σ:=propext Iff.rfl
theorem Rn {d x o:Nat}:wop Φ (fa d x o) K σ=af Φ (some d) (.fa (.t x) o) K σ:=propext Iff.rfl
theorem Pi {d x o:Nat}:aC Φ (fa d x o) K σ=ag Φ (some d) (.fa (.t x) o) K σ:=propext Iff.rfl
theorem Rm {d x o:Nat}:wop Φ (fl d x o) K σ=af Φ (some d) (.fld (.t x) o 1 false) K σ:=propext Iff.rfl
theorem Ph {d x o:Nat}:aC Φ (fl d x o) K σ=ag Φ (some d) (.fld (.t x) o 1 false) K σ:=propext Iff.rfl
theorem Rh {d x:Nat}:wop Φ (l1 d x) K σ=af Φ (some d) (.ld (.t x) 1 false) K σ:=propext Iff.rfl
theorem Pc {d x:Nat}:aC Φ (l1 d x) K σ=ag Φ (some d) (.ld (.t x) 1 false) K σ:=propext Iff.rfl
theorem Rf {d x n:Nat}:wop Φ (la d x n) K σ=af Φ (some d) (.ld (.t x) n true) K σ:=propext Iff.rfl
theorem Pb {d x n:Nat}:aC Φ (la d x n) K σ=ag Φ (some d) (.ld (.t x) n true) K σ:=propext Iff.rfl
theorem Rj {d x i s:Nat}:wop Φ (ia d x i s) K σ=af Φ (some d) (.ia (.t x) (.t i) s) K σ:=propext Iff.rfl
theorem Pe {d x i s:Nat}:aC Φ (ia d x i s) K σ=ag Φ (some d) (.ia (.t x) (.t i) s) K σ:=propext Iff.rfl
theorem Ri {d x i:Nat}:wop Φ (ix d x i) K σ=af Φ (some d) (.ixs (.t x) (.t i)) K σ:=propext Iff.rfl
theorem Pd {d x i:Nat}:aC Φ (ix d x i) K σ=ag Φ (some d) (.ixs (.t x) (.t i)) K σ:=propext Iff.rfl
theorem Q7 {d x y:Nat}:wop Φ (pa d x y) K σ=af Φ (some d) (.pick (.t x) (.t y) (.v (.bool false))) K σ:=propext Iff.rfl
theorem O3 {d x y:Nat}:aC Φ (pa d x y) K σ=ag Φ (some d) (.pick (.t x) (.t y) (.v (.bool false))) K σ:=propext Iff.rfl
theorem Q6 {d x y:Nat}:wop Φ (po d x y) K σ=af Φ (some d) (.pick (.t x) (.v (.bool true)) (.t y)) K σ:=propext Iff.rfl
theorem O2 {d x y:Nat}:aC Φ (po d x y) K σ=ag Φ (some d) (.pick (.t x) (.v (.bool true)) (.t y)) K σ:=propext Iff.rfl
theorem Ro {d x i:Nat}:wop Φ (ex d x i) K σ=af Φ (some d) (.ext (.t x) i) K σ:=propext Iff.rfl
theorem Pj {d x i:Nat}:aC Φ (ex d x i) K σ=ag Φ (some d) (.ext (.t x) i) K σ:=propext Iff.rfl
theorem Rs {d x:Nat}:wop Φ (bx d x) K σ=af Φ (some d) (.box (.t x)) K σ:=propext Iff.rfl
theorem Po {d x:Nat}:aC Φ (bx d x) K σ=ag Φ (some d) (.box (.t x)) K σ:=propext Iff.rfl
theorem Q5 {n x y:Nat}:wop Φ (st n x y) K σ=af Φ (none) (.st n (.t x) (.t y)) K σ:=propext Iff.rfl
theorem O1 {n x y:Nat}:aC Φ (st n x y) K σ=ag Φ (none) (.st n (.t x) (.t y)) K σ:=propext Iff.rfl
theorem Rr {d f:Nat} {l:List Nat}:wop Φ (ca d f l) K σ=af Φ (some d) (.call f (ts l)) K σ:=propext Iff.rfl
theorem Pn {d f:Nat} {l:List Nat}:aC Φ (ca d f l) K σ=ag Φ (some d) (.call f (ts l)) K σ:=propext Iff.rfl
theorem Rq {d f:Nat} {l:List Nat}:wop Φ (ch d f l) K σ=af Φ (some d) (.callH f (ts l)) K σ:=propext Iff.rfl
theorem Pm {d f:Nat} {l:List Nat}:aC Φ (ch d f l) K σ=ag Φ (some d) (.callH f (ts l)) K σ:=propext Iff.rfl
theorem Rp {d g:Nat} {l:List Nat}:wop Φ (cv d g l) K σ=af Φ (some d) (.callv (.t g) (ts l)) K σ:=propext Iff.rfl
theorem Pk {d g:Nat} {l:List Nat}:aC Φ (cv d g l) K σ=ag Φ (some d) (.callv (.t g) (ts l)) K σ:=propext Iff.rfl
def skO (o:AOp) (K:St→Prop) (σ:St):Prop:=K (σ.put o.d (.tup []))
theorem PF {o:AOp}:skO o K σ=K (σ.put o.d (.tup [])):=propext Iff.rfl
def un (o:AOp):AOp:=⟨o.d,o.a,none⟩
theorem Rk {t:Nat} {o:AOp}:wop Φ (gt t o) K σ=gM (lk σ.r t) true (wop Φ (un o) K) (skO o K) σ:=by
 simp only [gt,L0]; rfl
theorem Rl {t:Nat} {o:AOp}:wop Φ (gf t o) K σ=gM (lk σ.r t) false (wop Φ (un o) K) (skO o K) σ:=by
 simp only [gf,L0]; rfl
theorem Pf {t:Nat} {o:AOp}:aC Φ (gt t o) K σ=gM (lk σ.r t) true (aC Φ (un o) K) (skO o K) σ:=by
 simp only [gt,GN]; rfl
theorem Pg {t:Nat} {o:AOp}:aC Φ (gf t o) K σ=gM (lk σ.r t) false (aC Φ (un o) K) (skO o K) σ:=by
 simp only [gf,GN]; rfl
theorem OA {d:Nat} {a:Act'}:wop Φ (un (o1 d a)) K σ=af Φ (some d) (a) K σ:=propext Iff.rfl
theorem Ly {d:Nat} {a:Act'}:aC Φ (un (o1 d a)) K σ=ag Φ (some d) (a) K σ:=propext Iff.rfl
theorem OB {a:Act'}:wop Φ (un (o0 a)) K σ=af Φ (none) (a) K σ:=propext Iff.rfl
theorem Lz {a:Act'}:aC Φ (un (o0 a)) K σ=ag Φ (none) (a) K σ:=propext Iff.rfl
theorem Q4 {d x:Nat}:wop Φ (un (m d x)) K σ=af Φ (some d) (.mov (.t x)) K σ:=propext Iff.rfl
theorem OY {d x:Nat}:aC Φ (un (m d x)) K σ=ag Φ (some d) (.mov (.t x)) K σ:=propext Iff.rfl
theorem OC {d:Nat} {v:V}:wop Φ (un (mv d v)) K σ=af Φ (some d) (.mov (.v v)) K σ:=propext Iff.rfl
theorem LA {d:Nat} {v:V}:aC Φ (un (mv d v)) K σ=ag Φ (some d) (.mov (.v v)) K σ:=propext Iff.rfl
theorem OD {d:Nat} {n:Int}:wop Φ (un (mi d n)) K σ=af Φ (some d) (.mov (.v (.int .i64 n))) K σ:=propext Iff.rfl
theorem LB {d:Nat} {n:Int}:aC Φ (un (mi d n)) K σ=ag Φ (some d) (.mov (.v (.int .i64 n))) K σ:=propext Iff.rfl
theorem OE {d:Nat} {b:Bool}:wop Φ (un (mb d b)) K σ=af Φ (some d) (.mov (.v (.bool b))) K σ:=propext Iff.rfl
theorem LD {d:Nat} {b:Bool}:aC Φ (un (mb d b)) K σ=ag Φ (some d) (.mov (.v (.bool b))) K σ:=propext Iff.rfl
theorem OV {d:Nat} {op:BinOp} {x y:Nat}:wop Φ (un (bt d op x y)) K σ=af Φ (some d) (.bin op (.t x) (.t y)) K σ:=propext Iff.rfl
theorem LU {d:Nat} {op:BinOp} {x y:Nat}:aC Φ (un (bt d op x y)) K σ=ag Φ (some d) (.bin op (.t x) (.t y)) K σ:=propext Iff.rfl
theorem OX {d:Nat} {op:BinOp} {x:Nat} {n:Int}:wop Φ (un (bi d op x n)) K σ=af Φ (some d) (.bin op (.t x) (.v (.int .i64 n))) K σ:=propext Iff.rfl
theorem LX {d:Nat} {op:BinOp} {x:Nat} {n:Int}:aC Φ (un (bi d op x n)) K σ=ag Φ (some d) (.bin op (.t x) (.v (.int .i64 n))) K σ:=propext Iff.rfl
theorem OU {d:Nat} {op:BinOp} {x:Nat} {n:Int}:wop Φ (un (bu d op x n)) K σ=af Φ (some d) (.bin op (.t x) (.v (.int .u8 n))) K σ:=propext Iff.rfl
theorem LT {d:Nat} {op:BinOp} {x:Nat} {n:Int}:aC Φ (un (bu d op x n)) K σ=ag Φ (some d) (.bin op (.t x) (.v (.int .u8 n))) K σ:=propext Iff.rfl
theorem OW {d:Nat} {op:BinOp} {x:Nat} {s:List UInt8}:wop Φ (un (bs d op x s)) K σ=af Φ (some d) (.bin op (.t x) (.v (.str s))) K σ:=propext Iff.rfl
theorem LW {d:Nat} {op:BinOp} {x:Nat} {s:List UInt8}:aC Φ (un (bs d op x s)) K σ=ag Φ (some d) (.bin op (.t x) (.v (.str s))) K σ:=propext Iff.rfl
theorem Lt {d x:Nat}:wop Φ (un (nt' d x)) K σ=af Φ (some d) (.un .not (.t x)) K σ:=propext Iff.rfl
theorem Jx {d x:Nat}:aC Φ (un (nt' d x)) K σ=ag Φ (some d) (.un .not (.t x)) K σ:=propext Iff.rfl
theorem OF {d x:Nat}:wop Φ (un (ls d x)) K σ=af Φ (some d) (.lens (.t x)) K σ:=propext Iff.rfl
theorem LF {d x:Nat}:aC Φ (un (ls d x)) K σ=ag Φ (some d) (.lens (.t x)) K σ:=propext Iff.rfl
theorem OG {d x:Nat}:wop Φ (un (lq d x)) K σ=af Φ (some d) (.lenq (.t x)) K σ:=propext Iff.rfl
theorem LG {d x:Nat}:aC Φ (un (lq d x)) K σ=ag Φ (some d) (.lenq (.t x)) K σ:=propext Iff.rfl
theorem OM {d x o:Nat}:wop Φ (un (fa d x o)) K σ=af Φ (some d) (.fa (.t x) o) K σ:=propext Iff.rfl
theorem LM {d x o:Nat}:aC Φ (un (fa d x o)) K σ=ag Φ (some d) (.fa (.t x) o) K σ:=propext Iff.rfl
theorem OL {d x o:Nat}:wop Φ (un (fl d x o)) K σ=af Φ (some d) (.fld (.t x) o 1 false) K σ:=propext Iff.rfl
theorem LL {d x o:Nat}:aC Φ (un (fl d x o)) K σ=ag Φ (some d) (.fld (.t x) o 1 false) K σ:=propext Iff.rfl
theorem OI {d x:Nat}:wop Φ (un (l1 d x)) K σ=af Φ (some d) (.ld (.t x) 1 false) K σ:=propext Iff.rfl
theorem LI {d x:Nat}:aC Φ (un (l1 d x)) K σ=ag Φ (some d) (.ld (.t x) 1 false) K σ:=propext Iff.rfl
theorem OH {d x n:Nat}:wop Φ (un (la d x n)) K σ=af Φ (some d) (.ld (.t x) n true) K σ:=propext Iff.rfl
theorem LH {d x n:Nat}:aC Φ (un (la d x n)) K σ=ag Φ (some d) (.ld (.t x) n true) K σ:=propext Iff.rfl
theorem OK {d x i s:Nat}:wop Φ (un (ia d x i s)) K σ=af Φ (some d) (.ia (.t x) (.t i) s) K σ:=propext Iff.rfl
theorem LK {d x i s:Nat}:aC Φ (un (ia d x i s)) K σ=ag Φ (some d) (.ia (.t x) (.t i) s) K σ:=propext Iff.rfl
theorem OJ {d x i:Nat}:wop Φ (un (ix d x i)) K σ=af Φ (some d) (.ixs (.t x) (.t i)) K σ:=propext Iff.rfl
theorem LJ {d x i:Nat}:aC Φ (un (ix d x i)) K σ=ag Φ (some d) (.ixs (.t x) (.t i)) K σ:=propext Iff.rfl
theorem Oz {d x y:Nat}:wop Φ (un (pa d x y)) K σ=af Φ (some d) (.pick (.t x) (.t y) (.v (.bool false))) K σ:=propext Iff.rfl
theorem Lx {d x y:Nat}:aC Φ (un (pa d x y)) K σ=ag Φ (some d) (.pick (.t x) (.t y) (.v (.bool false))) K σ:=propext Iff.rfl
theorem Oy {d x y:Nat}:wop Φ (un (po d x y)) K σ=af Φ (some d) (.pick (.t x) (.v (.bool true)) (.t y)) K σ:=propext Iff.rfl
theorem Lw {d x y:Nat}:aC Φ (un (po d x y)) K σ=ag Φ (some d) (.pick (.t x) (.v (.bool true)) (.t y)) K σ:=propext Iff.rfl
theorem ON {d x i:Nat}:wop Φ (un (ex d x i)) K σ=af Φ (some d) (.ext (.t x) i) K σ:=propext Iff.rfl
theorem LN {d x i:Nat}:aC Φ (un (ex d x i)) K σ=ag Φ (some d) (.ext (.t x) i) K σ:=propext Iff.rfl
theorem OS {d x:Nat}:wop Φ (un (bx d x)) K σ=af Φ (some d) (.box (.t x)) K σ:=propext Iff.rfl
theorem LS {d x:Nat}:aC Φ (un (bx d x)) K σ=ag Φ (some d) (.box (.t x)) K σ:=propext Iff.rfl
theorem Ox {n x y:Nat}:wop Φ (un (st n x y)) K σ=af Φ (none) (.st n (.t x) (.t y)) K σ:=propext Iff.rfl
theorem Lu {n x y:Nat}:aC Φ (un (st n x y)) K σ=ag Φ (none) (.st n (.t x) (.t y)) K σ:=propext Iff.rfl
theorem OR {d f:Nat} {l:List Nat}:wop Φ (un (ca d f l)) K σ=af Φ (some d) (.call f (ts l)) K σ:=propext Iff.rfl
theorem LR {d f:Nat} {l:List Nat}:aC Φ (un (ca d f l)) K σ=ag Φ (some d) (.call f (ts l)) K σ:=propext Iff.rfl
theorem OP {d f:Nat} {l:List Nat}:wop Φ (un (ch d f l)) K σ=af Φ (some d) (.callH f (ts l)) K σ:=propext Iff.rfl
theorem LQ {d f:Nat} {l:List Nat}:aC Φ (un (ch d f l)) K σ=ag Φ (some d) (.callH f (ts l)) K σ:=propext Iff.rfl
theorem OO {d g:Nat} {l:List Nat}:wop Φ (un (cv d g l)) K σ=af Φ (some d) (.callv (.t g) (ts l)) K σ:=propext Iff.rfl
theorem LP {d g:Nat} {l:List Nat}:aC Φ (un (cv d g l)) K σ=ag Φ (some d) (.callv (.t g) (ts l)) K σ:=propext Iff.rfl
theorem d_o1 {d:Nat} {a:Act'}:(o1 d a).d=some d:=rfl
theorem d_o0 {a:Act'}:(o0 a).d=none:=rfl
theorem d_m {d x:Nat}:(m d x).d=some d:=rfl
theorem d_mv {d:Nat} {v:V}:(mv d v).d=some d:=rfl
theorem d_mi {d:Nat} {n:Int}:(mi d n).d=some d:=rfl
theorem d_mb {d:Nat} {b:Bool}:(mb d b).d=some d:=rfl
theorem d_bt {d:Nat} {op:BinOp} {x y:Nat}:(bt d op x y).d=some d:=rfl
theorem d_bi {d:Nat} {op:BinOp} {x:Nat} {n:Int}:(bi d op x n).d=some d:=rfl
theorem d_bu {d:Nat} {op:BinOp} {x:Nat} {n:Int}:(bu d op x n).d=some d:=rfl
theorem d_bs {d:Nat} {op:BinOp} {x:Nat} {s:List UInt8}:(bs d op x s).d=some d:=rfl
theorem d_ntp {d x:Nat}:(nt' d x).d=some d:=rfl
theorem d_ls {d x:Nat}:(ls d x).d=some d:=rfl
theorem d_lq {d x:Nat}:(lq d x).d=some d:=rfl
theorem d_fa {d x o:Nat}:(fa d x o).d=some d:=rfl
theorem d_fl {d x o:Nat}:(fl d x o).d=some d:=rfl
theorem d_l1 {d x:Nat}:(l1 d x).d=some d:=rfl
theorem d_la {d x n:Nat}:(la d x n).d=some d:=rfl
theorem d_ia {d x i s:Nat}:(ia d x i s).d=some d:=rfl
theorem d_ix {d x i:Nat}:(ix d x i).d=some d:=rfl
theorem d_pa {d x y:Nat}:(pa d x y).d=some d:=rfl
theorem d_po {d x y:Nat}:(po d x y).d=some d:=rfl
theorem d_ex {d x i:Nat}:(ex d x i).d=some d:=rfl
theorem d_bx {d x:Nat}:(bx d x).d=some d:=rfl
theorem d_st {n x y:Nat}:(st n x y).d=none:=rfl
theorem d_ca {d f:Nat} {l:List Nat}:(ca d f l).d=some d:=rfl
theorem d_ch {d f:Nat} {l:List Nat}:(ch d f l).d=some d:=rfl
theorem d_cv {d g:Nat} {l:List Nat}:(cv d g l).d=some d:=rfl
theorem d_un {o:AOp}:(un o).d=o.d:=rfl
theorem W_Q1 {a:AC}:W Φ (Q [a]) Q' σ=W Φ a Q' σ:=propext Iff.rfl
theorem W_Q2 {a b:AC} {l:List AC}:W Φ (Q (a::b::l)) Q' σ=W Φ a (Ex.then (W Φ (Q (b::l)) Q') Q') σ:=propext Iff.rfl
theorem W_C {c:Nat} {a b:AC}:W Φ (C c a b) Q' σ=cM (lk σ.r c) (W Φ a Q') (W Φ b Q') σ:=propext Iff.rfl
end
attribute [simp] PF Rk Rl Pf Pg W_Q1 W_Q2 W_C Q8 O4 OA Ly Q9 O5 OB Lz wop_m RA Q4 OY Ra O6 OC LA Rb O7 OD LB Rc O8 OE LD Ru Pq OV LU Ry Ps OX LX Rt Pp OU LT Rv Pr OW LW OZ L2 Lt Jx Rd O9 OF LF Re Pa OG LG Rn Pi OM LM Rm Ph OL LL Rh Pc OI LI Rf Pb OH LH Rj Pe OK LK Ri Pd OJ LJ Q7 O3 Oz Lx Q6 O2 Oy Lw Ro Pj ON LN Rs Po OS LS Q5 O1 Ox Lu Rr Pn OR LR Rq Pm OP LQ Rp Pk OO LP
attribute [simp] Cn_p Cn_n Cn_e ts d_o1 d_o0 d_m d_mv d_mi d_mb d_bt d_bi d_bu d_bs d_ntp d_ls d_lq d_fa d_fl d_l1 d_la d_ia d_ix d_pa d_po d_ex d_bx d_st d_ca d_ch d_cv d_un
def SL:Go.Fn→Go.Fn→Bool
 | .func f,.func g=>decide (f=g)
 | _,_=>false
theorem KY {f g:Go.Fn} (h:SL f g=true):f=g:=by
 cases f<;>cases g<;>simp [SL] at h
 rw [h]
mutual
def eqV:V→V→Bool
 | .int k n,.int k' n'=>decide (k=k') && decide (n=n')
 | .bool a,.bool b=>decide (a=b)
 | .str a,.str b=>decide (a=b)
 | .nil a,.nil b=>decide (a=b)
 | .seq a l,.seq b m=>decide (a=b) && sS l m
 | .ref a n,.ref b m=>decide (a=b) && decide (n=m)
 | .strct a,.strct b=>sS a b
 | .ptr a n,.ptr b m=>decide (a=b) && decide (n=m)
 | .eptr a n i o,.eptr b m j p=>decide (a=b) && (decide (n=m) && (decide (i=j) && decide (o=p)))
 | .mref a i n,.mref b j m=>decide (a=b) && (decide (i=j) && decide (n=m))
 | .fseq a l,.fseq b m=>decide (a=b) && sS l m
 | .mptr a i n k o,.mptr b j m l p=>decide (a=b) && (decide (i=j) && (decide (n=m) && (decide (k=l) && decide (o=p))))
 | .sptr x o,.sptr y p=>eqV x y && decide (o=p)
 | .nilptr,.nilptr=>true
 | .fn f a b,.fn g c d=>SL f g && (sS a c && sS b d)
 | .nilfn,.nilfn=>true
 | .iface t x,.iface u y=>decide (t=u) && eqV x y
 | .niliface,.niliface=>true
 | .tup a,.tup b=>sS a b
 | .junk,.junk=>true
 | _,_=>false
def sS:List V→List V→Bool
 | [],[]=>true
 | u::us,v::vs=>eqV u v && sS us vs
 | _,_=>false
end
mutual
theorem fX:∀ {u v:V},eqV u v=true→u=v
 | .int _ _,v,h=>by cases v<;>simp_all [eqV]
 | .bool _,v,h=>by cases v<;>simp_all [eqV]
 | .str _,v,h=>by cases v<;>simp_all [eqV]
 | .nil _,v,h=>by cases v<;>simp_all [eqV]
 | .ref _ _,v,h=>by cases v<;>simp_all [eqV]
 | .ptr _ _,v,h=>by cases v<;>simp_all [eqV]
 | .eptr _ _ _ _,v,h=>by cases v<;>simp_all [eqV]
 | .mref _ _ _,v,h=>by cases v<;>simp_all [eqV]
 | .mptr _ _ _ _ _,v,h=>by cases v<;>simp_all [eqV]
 | .nilptr,v,h=>by cases v<;>simp_all [eqV]
 | .nilfn,v,h=>by cases v<;>simp_all [eqV]
 | .niliface,v,h=>by cases v<;>simp_all [eqV]
 | .junk,v,h=>by cases v<;>simp_all [eqV]
 | .seq a l,v,h=>by
   cases v<;>simp only [eqV,Bool.and_eq_true,decide_eq_true_eq,reduceCtorEq] at h
   rw [h.1,dc h.2]
 | .fseq a l,v,h=>by
   cases v<;>simp only [eqV,Bool.and_eq_true,decide_eq_true_eq,reduceCtorEq] at h
   rw [h.1,dc h.2]
 | .strct l,v,h=>by
   cases v<;>simp only [eqV,Bool.and_eq_true,decide_eq_true_eq,reduceCtorEq] at h
   rw [dc h]
 | .tup l,v,h=>by
   cases v<;>simp only [eqV,Bool.and_eq_true,decide_eq_true_eq,reduceCtorEq] at h
   rw [dc h]
 | .sptr x o,v,h=>by
   cases v<;>simp only [eqV,Bool.and_eq_true,decide_eq_true_eq,reduceCtorEq] at h
   rw [fX h.1,h.2]
 | .iface t x,v,h=>by
   cases v<;>simp only [eqV,Bool.and_eq_true,decide_eq_true_eq,reduceCtorEq] at h
   rw [h.1,fX h.2]
 | .fn f a b,v,h=>by
   cases v<;>simp only [eqV,Bool.and_eq_true,decide_eq_true_eq,reduceCtorEq] at h
   rw [KY h.1,dc h.2.1,dc h.2.2]
theorem dc:∀ {u v:List V},sS u v=true→u=v
 | [],v,h=>by cases v<;>simp_all [sS]
 | u::us,v,h=>by
   cases v<;>simp only [sS,Bool.and_eq_true,reduceCtorEq] at h
   rw [fX h.1,dc h.2]
end
def iE:List Rw→List Rw→Bool
 | [],[]=>true
 | .g i::a,.g j::b=>decide (i=j) && iE a b
 | .a u::a,.a v::b=>sS u v && iE a b
 | _,_=>false
theorem mX:∀ {a b:List Rw},iE a b=true→a=b
 | [],b,h=>by cases b<;>simp_all [iE]
 | .g i::a,b,h=>by
   match b,h with
   | .g j::b,h=>simp only [iE,Bool.and_eq_true,decide_eq_true_eq] at h; rw [h.1,mX h.2]
   | .a _::b,h=>simp [iE] at h
   | [],h=>simp [iE] at h
 | .a u::a,b,h=>by
   match b,h with
   | .a v::b,h=>simp only [iE,Bool.and_eq_true] at h; rw [dc h.1,mX h.2]
   | .g _::b,h=>simp [iE] at h
   | [],h=>simp [iE] at h
def KX:List (V × V)→List (V × V)→Bool
 | [],[]=>true
 | (u,v)::a,(x,y)::b=>eqV u x && (eqV v y && KX a b)
 | _,_=>false
theorem Bq:∀ {a b:List (V × V)},KX a b=true→a=b
 | [],b,h=>by cases b<;>simp_all [KX]
 | (u,v)::a,b,h=>by
   match b,h with
   | (x,y)::b,h=>simp only [KX,Bool.and_eq_true] at h; rw [fX h.1,fX h.2.1,Bq h.2.2]
   | [],h=>simp [KX] at h
def eqO:Option Ob→Option Ob→Bool
 | none,none=>true
 | some (.box a),some (.box b)=>sS a b
 | some (.arr e sz l),some (.arr e' sz' l')=>decide (e=e') && (decide (sz=sz') && sS l l')
 | some (.mat e e2 sz l),some (.mat e' e2' sz' l')=>decide (e=e') && (decide (e2=e2') && (decide (sz=sz') && iE l l'))
 | some (.mp kt l),some (.mp kt' l')=>decide (kt=kt') && KX l l'
 | _,_=>false
theorem NJ {a b:Option Ob} (h:eqO a b=true):a=b:=by
 rcases a with _ | a<;>rcases b with _ | b
 · rfl
 · cases b<;>simp [eqO] at h
 · cases a<;>simp [eqO] at h
 · cases a<;>cases b<;>simp only [eqO,Bool.and_eq_true,decide_eq_true_eq,reduceCtorEq] at h
   · rw [dc h]
   · rw [h.1,h.2.1,dc h.2.2]
   · rw [h.1,h.2.1,h.2.2.1,mX h.2.2.2]
   · rw [h.1,Bq h.2]
def eqH:List (Option Ob)→List (Option Ob)→Bool
 | [],[]=>true
 | a::l,b::m=>eqO a b && eqH l m
 | _,_=>false
theorem Gk:∀ {a b:List (Option Ob)},eqH a b=true→a=b
 | [],b,h=>by cases b<;>simp_all [eqH]
 | x::a,b,h=>by
   match b,h with
   | y::b,h=>simp only [eqH,Bool.and_eq_true] at h; rw [NJ h.1,Gk h.2]
   | [],h=>simp [eqH] at h
def eqR:List (Nat × V)→List (Nat × V)→Bool
 | [],[]=>true
 | (n,v)::l,(k,u)::m=>decide (n=k) && (eqV v u && eqR l m)
 | _,_=>false
theorem Gj:∀ {a b:List (Nat × V)},eqR a b=true→a=b
 | [],b,h=>by cases b<;>simp_all [eqR]
 | (n,v)::a,b,h=>by
   match b,h with
   | (k,u)::b,h=>simp only [eqR,Bool.and_eq_true,decide_eq_true_eq] at h; rw [h.1,fX h.2.1,Gj h.2.2]
   | [],h=>simp [eqR] at h
def eqS (σ τ:St):Bool:=eqR σ.r τ.r && eqH σ.h τ.h
theorem NI {σ τ:St} (h:eqS σ τ=true):σ=τ:=by
 obtain ⟨r,h1⟩:=σ
 obtain ⟨r',h2⟩:=τ
 simp only [eqS,Bool.and_eq_true] at h
 rw [Gj h.1,Gk h.2]
structure Env where
 p:FuncId→List V→Option (V × Bool)
 ps:FuncId→Option (List Nat)
 h:FuncId→List V→List (Option Ob)→Option (V × List (Option Ob))
def Eb (env:Env) (d:Option Nat) (f:FuncId) (vs us:List V) (σ:St):Option St:=
 match env.p f us with
 | some (r,nw)=>if cg r=true∨ah vs=[]∨nw=true then some (σ.put d r) else some ((σ.kill (ah vs)).put d r)
 | none=>none
def IE (env:Env) (d:Option Nat) (f:FuncId) (vs:List V) (σ:St) (q:Nat) (m:List Nat):Option St:=
 match env.h f (dD m vs) (fG σ.h m m) with
 | some (r,H')=>if kin q (fG σ.h m m) H'=true then some (St.put ⟨σ.r,σ.back q m H'⟩ d (bck (uT q m σ.h.length H'.length) r)) else none
 | none=>none
def lZ (env:Env) (d:Option Nat) (f:FuncId) (vs:List V) (σ:St):Option St:=
 match env.ps f with
 | some ps=>if σ.curs (bT vs ps)=true then IE env d f vs σ (ep σ.h (bT vs ps) vs).1 (ep σ.h (bT vs ps) vs).2 else none
 | none=>none
def eS (env:Env) (d:Option Nat) (a:Act') (σ:St):Option St:=
 match a with
 | .alc z=>some ({ σ with h:=σ.h++[some (Ob.box z)] }.put d (.ptr σ.h.length 0))
 | .box x=>match σ.ev x with
   | some v=>if nt v=true then some ({ σ with h:=σ.h++[some (Ob.box (cl v))] }.put d (.ptr σ.h.length 0)) else none
   | none=>none
 | .st n p x=>match σ.ev p,σ.ev x with
   | some a,some v=>if nt v=true then (match σ.stor n a (cl v) with
     | some σ'=>some (σ'.put d (.tup []))
     | none=>none) else none
   | _,_=>none
 | .s2b x=>match σ.ev x with
   | some (.str s)=>if s.length≤140737488355328 then some (σ.put d (.seq 1 (fc s))) else none
   | _=>none
 | .lit _ sz xs=>match σ.evs xs with
   | some vs=>match purs σ.h vs with
     | some us=>if bh sz us=true∧us.length≤16777216 then some ((σ.kill (ah vs)).put d (.seq sz us)) else none
     | none=>none
   | none=>none
 | .app x y e sz by'=>match σ.ev x,σ.ev y with
   | some u,some v=>match src σ.h v with
     | some (.seq sz' l)=>if sz'=sz then
       (match u with
       | .nil _=>if l.length * by'≤140737488355328 then some ({ σ with h:=σ.h++[some (Ob.arr e sz l)] }.put d (.ref σ.h.length l.length)) else none
       | .ref id n=>match σ.arr? id with
         | some (e',sz',l0)=>if e'=e∧sz'=sz∧n=l0.length∧(n + l.length) * by'≤140737488355328 then
           some ({ σ with h:=σ.h.set id (some (Ob.arr e sz (l0++l))) }.put d (.ref id (n + l.length))) else none
         | none=>none
       | _=>none) else none
     | _=>none
   | _,_=>none
 | .mks e sz by' z n=>match σ.ev n with
   | some (.int _ m)=>if 0≤m∧m * by'≤140737488355328 then
     some ({ σ with h:=σ.h++[some (Ob.arr e sz (List.replicate m.toNat z))] }.put d (.ref σ.h.length m.toNat)) else none
   | _=>none
 | .mk0 e sz by' n=>match σ.ev n with
   | some (.int _ m)=>if 0≤m∧m * by'≤140737488355328 then
     some ({ σ with h:=σ.h++[some (Ob.arr e sz [])] }.put d (.ref σ.h.length 0)) else none
   | _=>none
 | .mkm e by' e2 sz n=>match σ.ev n with
   | some (.int _ m)=>if 0≤m∧m * by'≤140737488355328 then
     some ({ σ with h:=σ.h++[some (Ob.mat e e2 sz (List.replicate m.toNat (.a [])))] }.put d (.ref σ.h.length m.toNat)) else none
   | _=>none
 | .call f xs=>match σ.evs xs with
   | some vs=>match purs σ.h vs with
     | some us=>Eb env d f vs us σ
     | none=>lZ env d f vs σ
   | none=>none
 | .callv g xs=>match σ.ev g,σ.evs xs with
   | some (.fn (.func f) a b),some vs=>match purs σ.h (a++vs++b) with
     | some us=>Eb env d f (a++vs++b) us σ
     | none=>lZ env d f (a++vs++b) σ
   | _,_=>none
 | .callH f xs=>match σ.evs xs with
   | some vs=>lZ env d f vs σ
   | none=>none
 | .mkp kt=>some ({ σ with h:=σ.h++[some (Ob.mp kt [])] }.put d (.ref σ.h.length 0))
 | .mup kt x k v=>match σ.ev x,σ.ev k,σ.ev v with
   | some (.ref id _),some kv,some u=>match σ.mp? id,pur σ.h u with
     | some (kt',l),some u'=>if kt'=kt∧bg kt kv=true∧au u=[]∧nt u'=true then some ({ σ with h:=σ.h.set id (some (Ob.mp kt (lR kv u' l))) }.put d (.tup [])) else none
     | _,_=>none
   | _,_,_=>none
 | .inv tbl x xs=>match σ.ev x,σ.evs xs with
   | some (.iface t v),some vs=>match lkF tbl t with
     | some f=>(match purs σ.h (v::vs) with
       | some us=>Eb env d f (v::vs) us σ
       | none=>lZ env d f (v::vs) σ)
     | none=>none
   | _,_=>none
 | .ltr e sz xs=>match σ.evs xs with
   | some vs=>match purs σ.h vs with
     | some us=>if bh sz us=true∧us.length≤16777216 then some (St.put ⟨(σ.kill (ah vs)).r,(σ.kill (ah vs)).h++[some (Ob.arr e sz us)]⟩ d (.ref (σ.kill (ah vs)).h.length us.length)) else none
     | none=>none
   | none=>none
 | .yld _ _=>none
 | .rgs _=>none
 | .nxs _=>none
 | .trc x hi sz=>match σ.ev x,σ.ev hi with
   | some (.ref id n),some (.int _ b)=>match σ.arr? id with
     | some (e,sz',l)=>if sz'=sz∧n=l.length∧0≤b∧b≤n then some ({ σ with h:=σ.h.set id none++[some (Ob.arr e sz (l.take b.toNat))] }.put d (.ref σ.h.length b.toNat)) else none
     | none=>none
   | _,_=>none
 | a=>match σ.val a with
   | some v=>some (σ.put d v)
   | none=>none
def BG (env:Env) (d:Option Nat) (f:FuncId) (vs us:List V) (σ:St):Option St:=
 match env.p f us with
 | some (r,nw)=>if cg r=true∨ah vs=[]∨nw=true then some (σ.put d r) else none
 | none=>none
def lc (env:Env) (d:Option Nat) (a:Act') (σ:St):Option St:=
 match a with
 | .lit _ sz xs=>match σ.evs xs with
   | some vs=>match purs [] vs with
     | some us=>if bh sz us=true∧us.length≤16777216 then some (σ.put d (.seq sz us)) else none
     | none=>none
   | none=>none
 | .call f xs=>match σ.evs xs with
   | some vs=>match purs σ.h vs with
     | some us=>BG env d f vs us σ
     | none=>none
   | none=>none
 | .callv g xs=>match σ.ev g,σ.evs xs with
   | some (.fn (.func f) a b),some vs=>match purs σ.h (a++vs++b) with
     | some us=>BG env d f (a++vs++b) us σ
     | none=>none
   | _,_=>none
 | .callH f xs=>match σ.evs xs with
   | some vs=>lZ env d f vs σ
   | none=>none
 | .inv _ _ _=>none
 | .trc _ _ _=>none
 | .ltr _ _ _=>none
 | a=>eS env d a σ
def xop (x:Option Nat→Act'→St→Option St) (o:AOp) (σ:St):Option St:=
 match o.g with
 | none=>x o.d o.a σ
 | some (t,b)=>match lk σ.r t with
   | some (.bool y)=>if y=b then x o.d o.a σ else some (σ.put o.d (.tup []))
   | some (.tup [])=>some (σ.put o.d (.tup []))
   | _=>none
def BF (x:Option Nat→Act'→St→Option St):List AOp→St→Option St
 | [],σ=>some σ
 | o::os,σ=>match xop x o σ with
   | some τ=>BF x os τ
   | none=>none
def s9 (env:Env) (ks:List Nat):OT→St→Option St
 | .nil,σ=>some (σ.nrm ks)
 | .op o t,σ=>match xop (lc env) o σ with
   | some τ=>s9 env ks t τ
   | none=>none
 | .both a b,σ=>match s9 env ks a σ,s9 env ks b σ with
   | some τ,some τ'=>if eqS τ τ'=true then some τ else none
   | _,_=>none
def D8 (f:St→Option (Ex × St)) (ks:List Nat):Nat→St→Option (Ex × St)
 | 0,_=>none
 | n + 1,τ=>match f τ with
   | some (.norm,τ')=>D8 f ks n (τ'.nrm ks)
   | some (e,τ')=>some (e,τ')
   | none=>none
def Ea (l:Nat) (f:St→Option (Ex × St)) (ks:List Nat):Nat→St→Option (Ex × St)
 | 0,_=>none
 | n + 1,τ=>match f τ with
   | some (.goto l',τ')=>if l'=l then Ea l f ks n (τ'.nrm ks) else none
   | some (e,τ')=>some (e,τ')
   | none=>none
def cz (env:Env) (fuel:Nat):AC→St→Option (Ex × St)
 | .skip,σ=>some (.norm,σ)
 | .reg ops ks,σ=>match BF (eS env) ops σ with
   | some σ'=>some (.norm,σ.cls σ' ks)
   | none=>none
 | .regD ops ks,σ=>match BF (lc env) ops σ with
   | some σ'=>some (.norm,σ.cls σ' ks)
   | none=>none
 | .regE _ _,_=>none
 | .regF t ks,σ=>match s9 env ks t σ with
   | some σ'=>some (.norm,σ')
   | none=>none
 | .scope l ks a b,σ=>match cz env fuel a σ with
   | some (.goto l',τ)=>if l'=l then Ea l (cz env fuel b) ks fuel (τ.nrm ks) else none
   | r=>r
 | .label _,σ=>some (.norm,σ)
 | .goto l,σ=>some (.goto l,σ)
 | .bad,_=>none
 | .seq a b,σ=>match cz env fuel a σ with
   | some (.norm,τ)=>cz env fuel b τ
   | r=>r
 | .cond c a b,σ=>match σ.ev c with
   | some (.bool t)=>if t=true then cz env fuel a σ else cz env fuel b σ
   | _=>none
 | .block id c,σ=>match cz env fuel c σ with
   | some (.exit id',τ)=>if id'=id then some (.norm,τ) else some (.exit id',τ)
   | r=>r
 | .loop ks c,σ=>D8 (cz env fuel c) ks fuel (σ.nrm ks)
 | .exit id,σ=>some (.exit id,σ)
 | .ret,σ=>some (.ret,σ)
structure EnvOK (env:Env) (Φ:Ctr):Prop where
 p:∀ f us r nw,env.p f us=some (r,nw)→Φ.p f us r∧(nw=true→Φ.n f us r)
 h:∀ f us H r H' ps,env.ps f=some ps→env.h f us H=some (r,H')→Φ.e f ps us H r H'
section
variable {env:Env} {Φ:Ctr} (hE:EnvOK env Φ) {d:Option Nat} {σ τ:St} {K:St→Prop}
include hE
theorem lY {f:FuncId} {vs us:List V} (h:Eb env d f vs us σ=some τ) (hK:K τ):jL Φ d f vs us K σ:=by
 unfold Eb at h
 split at h
 · rename_i r nw hr
   obtain ⟨h1,h2⟩:=hE.p _ _ _ _ hr
   split at h
   · rename_i hc
     cases h
     refine ⟨r,.inl ⟨?_,fun _=>hK⟩⟩
     rcases hc with h | h | h
     · exact .inl ⟨h1,.inl h⟩
     · exact .inl ⟨h1,.inr h⟩
     · exact .inr (h2 h)
   · cases h
     exact ⟨r,.inr (.inl ⟨h1,fun _=>hK⟩)⟩
 · cases h
theorem ql {f:FuncId} {vs us:List V} (h:BG env d f vs us σ=some τ) (hK:K τ):l7 Φ d f vs us K σ:=by
 unfold BG at h
 split at h
 · rename_i r nw hr
   obtain ⟨h1,h2⟩:=hE.p _ _ _ _ hr
   split at h
   · rename_i hc
     cases h
     refine ⟨r,?_,hK⟩
     rcases hc with h | h | h
     · exact .inl ⟨h1,.inl h⟩
     · exact .inl ⟨h1,.inr h⟩
     · exact .inr (h2 h)
   · cases h
 · cases h
theorem ot {f:FuncId} {vs:List V} (h:lZ env d f vs σ=some τ) (hK:K τ):uV Φ d f vs K σ:=by
 unfold lZ at h
 split at h
 · rename_i ps hps
   split at h
   · rename_i hc
     unfold IE at h
     split at h
     · rename_i r H' hr
       split at h
       · rename_i hk
         cases h
         exact ⟨ps,hc,r,H',hk,hE.h _ _ _ _ _ _ hps hr,hK⟩
       · cases h
     · cases h
   · cases h
 · cases h
theorem gE {f:FuncId} {vs:List V} (h:lZ env d f vs σ=some τ) (hK:K τ):eT Φ d f vs K σ:=by
 obtain ⟨ps,h1,r,H',h2,h3,h4⟩:=ot hE h hK
 exact ⟨ps,h1,r,H',h2,h3,fun _ _=>h4⟩
theorem kg {a:Act'} (h:eS env d a σ=some τ) (hK:K τ):af Φ d a K σ:=by
 cases a with
 | alc z=>simp only [eS,Option.some.injEq] at h; subst h; exact hK
 | box x=>
   simp only [eS] at h
   simp only [af]
   split at h
   · rename_i v hv
     simp only [hv]
     split at h
     · rename_i hc; cases h; simp only [if_pos hc]; exact hK
     · cases h
   · cases h
 | st n p x=>
   simp only [eS] at h
   simp only [af]
   split at h
   · rename_i v u hv hu
     simp only [hv,hu]
     split at h
     · rename_i hc
       simp only [if_pos hc]
       split at h
       · rename_i σ' hs; simp only [hs]; cases h; exact hK
       · cases h
     · cases h
   · cases h
 | s2b x=>
   simp only [eS] at h
   simp only [af]
   split at h
   · rename_i s hv
     simp only [hv]
     split at h
     · rename_i hc; cases h; exact ⟨hc,hK⟩
     · cases h
   · cases h
 | lit e0 sz xs=>
   simp only [eS] at h
   simp only [af]
   split at h
   · rename_i vs hv
     simp only [hv]
     split at h
     · rename_i us hu
       simp only [hu]
       split at h
       · rename_i hc; cases h; exact ⟨hc.1,hc.2,hK⟩
       · cases h
     · cases h
   · cases h
 | ltr e0 sz xs=>
   simp only [eS] at h
   simp only [af]
   split at h
   · rename_i vs hv
     simp only [hv]
     split at h
     · rename_i us hu
       simp only [hu]
       split at h
       · rename_i hc; cases h; exact ⟨hc.1,hc.2,hK⟩
       · cases h
     · cases h
   · cases h
 | app x y e sz by'=>
   simp only [eS] at h
   simp only [af]
   split at h
   · rename_i u v hu hv
     simp only [hu,hv]
     split at h
     · rename_i sz' l hs
       simp only [hs]
       split at h
       · rename_i hc
         refine ⟨hc,?_⟩
         split at h
         · split at h
           · rename_i hb; cases h; exact ⟨hb,hK⟩
           · cases h
         · split at h
           · rename_i e' sz2 l0 ha
             simp only [ha]
             split at h
             · rename_i hb; cases h; exact ⟨hb.1,hb.2.1,hb.2.2.1,hb.2.2.2,hK⟩
             · cases h
           · cases h
         · cases h
       · cases h
     · cases h
   · cases h
 | mk0 e sz by' n=>
   simp only [eS] at h
   simp only [af]
   split at h
   · rename_i k m hv
     simp only [hv]
     split at h
     · rename_i hc; cases h; exact ⟨hc.1,hc.2,hK⟩
     · cases h
   · cases h
 | mks e sz by' z n=>
   simp only [eS] at h
   simp only [af]
   split at h
   · rename_i k m hv
     simp only [hv]
     split at h
     · rename_i hc; cases h; exact ⟨hc.1,hc.2,hK⟩
     · cases h
   · cases h
 | mkm e by' e2 sz n=>
   simp only [eS] at h
   simp only [af]
   split at h
   · rename_i k m hv
     simp only [hv]
     split at h
     · rename_i hc; cases h; exact ⟨hc.1,hc.2,hK⟩
     · cases h
   · cases h
 | call f xs=>
   simp only [eS] at h
   simp only [af]
   split at h
   · rename_i vs hv
     simp only [hv]
     split at h
     · rename_i us hu; simp only [hu]; exact lY hE h hK
     · rename_i hu; simp only [hu]; exact gE hE h hK
   · cases h
 | callv g xs=>
   simp only [eS] at h
   simp only [af]
   split at h
   · rename_i f a b vs hg hv
     simp only [hg,hv]
     split at h
     · rename_i us hu; simp only [hu]; exact lY hE h hK
     · rename_i hu; simp only [hu]; exact gE hE h hK
   · cases h
 | callH f xs=>
   simp only [eS] at h
   simp only [af]
   split at h
   · rename_i vs hv; simp only [hv]; exact gE hE h hK
   · cases h
 | mkp kt=>simp only [eS,Option.some.injEq] at h; subst h; exact hK
 | mup kt x k v=>
   simp only [eS] at h
   simp only [af]
   split at h
   · rename_i id n kv u h1 h2 h3
     simp only [h1,h2,h3]
     split at h
     · rename_i kt' l u' h4 h5
       simp only [h4,h5]
       split at h
       · rename_i hc; cases h; exact ⟨hc.1,hc.2.1,hc.2.2.1,hc.2.2.2,hK⟩
       · cases h
     · cases h
   · cases h
 | inv tbl x xs=>
   simp only [eS] at h
   simp only [af]
   split at h
   · rename_i t v vs h1 h2
     simp only [h1,h2]
     split at h
     · rename_i f hf
       simp only [hf]
       split at h
       · rename_i us hu; simp only [hu]; exact lY hE h hK
       · rename_i hu; simp only [hu]; exact gE hE h hK
     · cases h
   · cases h
 | yld g xs=>simp only [eS] at h; cases h
 | rgs x=>simp only [eS] at h; cases h
 | nxs x=>simp only [eS] at h; cases h
 | trc x hi sz=>
   simp only [eS] at h
   simp only [af]
   split at h
   · rename_i id n k b h1 h2
     simp only [h1,h2]
     split at h
     · rename_i e sz' l h3
       simp only [h3]
       split at h
       · rename_i hc; cases h; exact ⟨hc.1,hc.2.1,hc.2.2.1,hc.2.2.2,hK⟩
       · cases h
     · cases h
   · cases h
 | _=>
   simp only [eS] at h
   simp only [af]
   split at h
   · rename_i v hv; simp only [hv]; cases h; exact hK
   · cases h
theorem l4 {a:Act'} (h:lc env d a σ=some τ) (hK:K τ):ag Φ d a K σ:=by
 have key:eS env d a σ=some τ→af Φ d a K σ:=fun h'=>kg hE h' hK
 cases a with
 | lit e0 sz xs=>
   simp only [lc] at h
   simp only [ag]
   split at h
   · rename_i vs hv
     simp only [hv]
     split at h
     · rename_i us hu
       simp only [hu]
       split at h
       · rename_i hc; cases h; exact ⟨hc.1,hc.2,hK⟩
       · cases h
     · cases h
   · cases h
 | call f xs=>
   simp only [lc] at h
   simp only [ag]
   split at h
   · rename_i vs hv
     simp only [hv]
     split at h
     · rename_i us hu; simp only [hu]; exact ql hE h hK
     · cases h
   · cases h
 | callv g xs=>
   simp only [lc] at h
   simp only [ag]
   split at h
   · rename_i f a b vs hg hv
     simp only [hg,hv]
     split at h
     · rename_i us hu; simp only [hu]; exact ql hE h hK
     · cases h
   · cases h
 | callH f xs=>
   simp only [lc] at h
   simp only [ag]
   split at h
   · rename_i vs hv; simp only [hv]; exact ot hE h hK
   · cases h
 | inv=>simp only [lc] at h; cases h
 | trc=>simp only [lc] at h; cases h
 | ltr=>simp only [lc] at h; cases h
 | _=>exact key h
theorem Ju {o:AOp} (h:xop (eS env) o σ=some τ) (hK:K τ):wop Φ o K σ:=by
 obtain ⟨od,oa,og⟩:=o
 cases og with
 | none=>exact kg hE h hK
 | some p=>
   obtain ⟨t,b⟩:=p
   simp only [xop] at h
   simp only [wop]
   split at h
   · rename_i y hy
     simp only [hy]
     split at h
     · rename_i hyb
       subst hyb
       cases y
       · simp only [Bool.false_eq_true,if_false]; exact ⟨fun h'=>(nomatch h'),fun _=>kg hE h hK⟩
       · simp only [if_true]; exact ⟨fun _=>kg hE h hK,fun h'=>(nomatch h')⟩
     · rename_i hyb
       cases h
       cases y<;>cases b
       · exact absurd rfl hyb
       · simp only [if_true]; exact ⟨fun h'=>(nomatch h'),fun _=>hK⟩
       · simp only [Bool.false_eq_true,if_false]; exact ⟨fun _=>hK,fun h'=>(nomatch h')⟩
       · exact absurd rfl hyb
   · rename_i hy; simp only [hy]; cases h; exact hK
   · cases h
theorem vg {o:AOp} (h:xop (lc env) o σ=some τ) (hK:K τ):aC Φ o K σ:=by
 obtain ⟨od,oa,og⟩:=o
 cases og with
 | none=>exact l4 hE h hK
 | some p=>
   obtain ⟨t,b⟩:=p
   simp only [xop] at h
   simp only [aC]
   split at h
   · rename_i y hy
     simp only [hy]
     split at h
     · rename_i hyb
       subst hyb
       cases y
       · simp only [Bool.false_eq_true,if_false]; exact ⟨fun h'=>(nomatch h'),fun _=>l4 hE h hK⟩
       · simp only [if_true]; exact ⟨fun _=>l4 hE h hK,fun h'=>(nomatch h')⟩
     · rename_i hyb
       cases h
       cases y<;>cases b
       · exact absurd rfl hyb
       · simp only [if_true]; exact ⟨fun h'=>(nomatch h'),fun _=>hK⟩
       · simp only [Bool.false_eq_true,if_false]; exact ⟨fun _=>hK,fun h'=>(nomatch h')⟩
       · exact absurd rfl hyb
   · rename_i hy; simp only [hy]; cases h; exact hK
   · cases h
theorem vf:∀ {os:List AOp} {σ:St},BF (eS env) os σ=some τ→K τ→r6 Φ os K σ
 | [],σ,h,hK=>by simp only [BF,Option.some.injEq] at h; subst h; exact hK
 | o::os,σ,h,hK=>by
   simp only [BF] at h
   split at h
   · rename_i τ' h1; exact Ju hE h1 (vf h hK)
   · cases h
theorem ta:∀ {os:List AOp} {σ:St},BF (lc env) os σ=some τ→K τ→qo Φ os K σ
 | [],σ,h,hK=>by simp only [BF,Option.some.injEq] at h; subst h; exact hK
 | o::os,σ,h,hK=>by
   simp only [BF] at h
   split at h
   · rename_i τ' h1; exact vg hE h1 (ta h hK)
   · cases h
theorem iP {ks:List Nat}:∀ {t:OT} {σ τ:St},s9 env ks t σ=some τ→K τ→fA Φ t (fun σ'=>K (σ'.nrm ks)) σ
 | .nil,σ,τ,h,hK=>by simp only [s9,Option.some.injEq] at h; subst h; exact hK
 | .op o t,σ,τ,h,hK=>by
   simp only [s9] at h
   split at h
   · rename_i τ' h1; exact vg hE h1 (iP h hK)
   · cases h
 | .both a b,σ,τ,h,hK=>by
   simp only [s9] at h
   split at h
   · rename_i τ1 τ2 h1 h2
     split at h
     · rename_i he
       cases h
       have:=NI he
       subst this
       exact ⟨iP h1 hK,iP h2 hK⟩
     · cases h
   · cases h
omit hE in
theorem D7 {f:St→Option (Ex × St)} {ks:List Nat} {c:AC} (hf:∀ {σ:St} {e:Ex} {τ:St} {Q:Ex→St→Prop},f σ=some (e,τ)→Q e τ→W Φ c Q σ) {Q:Ex→St→Prop} {n:Nat} {σ:St} {e:Ex} {τ:St}
 (h:D8 f ks n (σ.nrm ks)=some (e,τ)) (hQ:Q e τ):W Φ (.loop ks c) Q σ:=by
 refine ⟨fun k υ=>∃ e τ,D8 f ks k υ=some (e,τ)∧Q e τ,⟨n,[],σ,rfl,e,τ,h,hQ⟩,?_⟩
 rintro k υ ⟨e',τ',h',hQ'⟩
 cases k with
 | zero=>cases h'
 | succ k=>
   simp only [D8] at h'
   split at h'
   · rename_i τ1 h1
     exact hf h1 ⟨k,[],τ1,rfl,⟨e',τ',h',hQ'⟩,Nat.lt_succ_self _⟩
   · rename_i e1 τ1 hne h1
     cases h'
     refine hf h1 ?_
     cases e' with
     | norm=>exact (hne rfl).elim
     | _=>exact hQ'
   · cases h'
omit hE in
theorem D9 {l:Nat} {f:St→Option (Ex × St)} {ks:List Nat} {a c:AC} (hf:∀ {σ:St} {e:Ex} {τ:St} {Q:Ex→St→Prop},f σ=some (e,τ)→Q e τ→W Φ c Q σ) {Q:Ex→St→Prop} {σ:St} {J:St}
 (ha:∀ {Q':Ex→St→Prop},Q' (.goto l) J→W Φ a Q' σ) {n:Nat} {e:Ex} {τ:St} (h:Ea l f ks n (J.nrm ks)=some (e,τ)) (hQ:Q e τ):W Φ (.scope l ks a c) Q σ:=by
 refine ⟨fun k υ=>∃ e τ,Ea l f ks k υ=some (e,τ)∧Q e τ,ha ⟨rfl,n,[],J,rfl,e,τ,h,hQ⟩,?_⟩
 rintro k υ ⟨e',τ',h',hQ'⟩
 cases k with
 | zero=>cases h'
 | succ k=>
   simp only [Ea] at h'
   split at h'
   · rename_i l' τ1 h1
     split at h'
     · rename_i hl
       exact hf h1 ⟨hl,k,[],τ1,rfl,⟨e',τ',h',hQ'⟩,Nat.lt_succ_self _⟩
     · cases h'
   · rename_i e1 τ1 hne h1
     cases h'
     refine hf h1 ?_
     cases e' with
     | goto l'=>exact (hne l' rfl).elim
     | _=>exact hQ'
   · cases h'
theorem lX {fuel:Nat}:∀ {c:AC} {σ:St} {e:Ex} {τ:St} {Q:Ex→St→Prop},cz env fuel c σ=some (e,τ)→Q e τ→W Φ c Q σ:=by
 intro c
 induction c with
 | skip=>intro σ e τ Q h hQ; simp only [cz,Option.some.injEq,Prod.mk.injEq] at h; obtain ⟨rfl,rfl⟩:=h; exact hQ
 | reg ops ks=>
   intro σ e τ Q h hQ
   simp only [cz] at h
   split at h
   · rename_i σ' h1; cases h; exact vf hE h1 hQ
   · cases h
 | regD ops ks=>
   intro σ e τ Q h hQ
   simp only [cz] at h
   split at h
   · rename_i σ' h1; cases h; exact ta hE h1 hQ
   · cases h
 | regE=>intro σ e τ Q h hQ; simp only [cz] at h; cases h
 | regF t ks=>
   intro σ e τ Q h hQ
   simp only [cz] at h
   split at h
   · rename_i σ' h1; cases h; exact iP hE h1 hQ
   · cases h
 | scope l ks a b iha ihb=>
   intro σ e τ Q h hQ
   simp only [cz] at h
   split at h
   · rename_i l' J h1
     split at h
     · rename_i hl
       subst hl
       exact D9 ihb (fun hq=>iha h1 hq) h hQ
     · cases h
   · rename_i hne
     refine ⟨fun _ _=>False,iha h ?_,fun _ _ h=>h.elim⟩
     cases e with
     | goto l'=>exact (hne l' τ h).elim
     | _=>exact hQ
 | label l=>intro σ e τ Q h hQ; simp only [cz,Option.some.injEq,Prod.mk.injEq] at h; obtain ⟨rfl,rfl⟩:=h; exact hQ
 | goto l=>intro σ e τ Q h hQ; simp only [cz,Option.some.injEq,Prod.mk.injEq] at h; obtain ⟨rfl,rfl⟩:=h; exact hQ
 | bad=>intro σ e τ Q h hQ; simp only [cz] at h; cases h
 | seq a b iha ihb=>
   intro σ e τ Q h hQ
   simp only [cz] at h
   split at h
   · rename_i τ1 h1; exact iha h1 (ihb h hQ)
   · rename_i hne
     refine iha h ?_
     cases e with
     | norm=>exact (hne τ h).elim
     | _=>exact hQ
 | cond c a b iha ihb=>
   intro σ e τ Q h hQ
   simp only [cz] at h
   rw [TE]
   split at h
   · rename_i t ht
     simp only [ht]
     cases t
     · exact ⟨fun h'=>(nomatch h'),fun _=>ihb (by simpa using h) hQ⟩
     · exact ⟨fun _=>iha (by simpa using h) hQ,fun h'=>(nomatch h')⟩
   · cases h
 | block id c ih=>
   intro σ e τ Q h hQ
   simp only [cz] at h
   rw [Jo]
   split at h
   · rename_i id' τ1 h1
     refine ih h1 ?_
     rw [qT]
     split at h
     · rename_i hi; cases h; rw [if_pos hi]; exact hQ
     · rename_i hi; cases h; rw [if_neg hi]; exact hQ
   · rename_i hne
     refine ih h ?_
     cases e with
     | exit id'=>exact (hne id' τ h).elim
     | _=>exact hQ
 | loop ks c ih=>intro σ e τ Q h hQ; simp only [cz] at h; exact D7 ih h hQ
 | exit id=>intro σ e τ Q h hQ; simp only [cz,Option.some.injEq,Prod.mk.injEq] at h; obtain ⟨rfl,rfl⟩:=h; exact hQ
 | ret=>intro σ e τ Q h hQ; simp only [cz,Option.some.injEq,Prod.mk.injEq] at h; obtain ⟨rfl,rfl⟩:=h; exact hQ
end
structure FD where
 c:AC
 rs:List RV
 n:Nat
 ps:List Nat
structure FTab where
 p:FuncId→Option FD
 h:FuncId→Option FD
 g:FuncId→List V→Option V
def NH:Ex→Bool
 | .exit _=>false
 | .goto _=>false
 | _=>true
def xres (rs:List RV):Ex × St→Option (V × Bool)
 | (e,σ)=>if NH e=true then (match σ.rvs rs with
   | some vs=>match purs σ.h vs with
     | some us=>some (gF us,xd σ.h vs)
     | none=>none
   | none=>none) else none
def BX (m:List Nat) (r:List (Nat × V)) (us:List V):List Nat→Bool
 | []=>true
 | i::is=>(match lk r i,us[i]? with
   | some v,some u=>eqV (ren m v) u
   | _,_=>false) && BX m r us is
def Lp (σ:St) (ps:List Nat) (us:List V) (vs:List V) (m:List Nat):Option (V × List (Option Ob)):=
 if BX m σ.r us ps=true then some (gF (dD m vs),fG σ.h m m) else none
def QT (rs:List RV) (ps:List Nat) (us:List V):Ex × St→Option (V × List (Option Ob))
 | (e,σ)=>if NH e=true then (match σ.rvs rs with
   | some vs=>Lp σ ps us vs (ep σ.h (qE (pk σ.r ps)) vs).2
   | none=>none) else none
def nW (T:FTab) (fuel:Nat):Nat→Env
 | 0=>⟨fun f us=>(T.g f us).map fun r=>(r,false),fun _=>none,fun _ _ _=>none⟩
 | n + 1=>
   { p:=fun f us=>match T.g f us with
       | some r=>some (r,false)
       | none=>match T.p f with
         | some D=>if us.length=D.n then (match cz (nW T fuel n) fuel D.c ⟨ent 0 us,[]⟩ with
           | some x=>xres D.rs x
           | none=>none) else none
         | none=>none
     ps:=fun f=>(T.h f).map (·.ps)
     h:=fun f us H=>match T.h f with
       | some D=>if us.length=D.n then (match cz (nW T fuel n) fuel D.c ⟨ent 0 us,H⟩ with
         | some x=>QT D.rs D.ps us x
         | none=>none) else none
       | none=>none }
def Img (P:Program) (f:FuncId) (D:FD):Prop:=∃ fn K E,P.funcs[f]?=some fn∧aM P fn D.ps E K D.n=some (D.c,D.rs)
structure TabOK (P:Program) (T:FTab):Prop where
 p:∀ f D,T.p f=some D→Img P f D∧D.ps=[]
 h:∀ f D,T.h f=some D→Img P f D
 g:∀ f us r,T.g f us=some r→Fn P f us r
theorem tq {m:List Nat} {r:List (Nat × V)} {us:List V}:∀ {is:List Nat},BX m r us is=true→AX m r us is
 | [],_=>trivial
 | i::is,h=>by
   simp only [BX,Bool.and_eq_true] at h
   refine ⟨?_,tq h.2⟩
   have h1:=h.1
   split at h1
   · rename_i v u hv hu; first | (simp only [hv,hu]; exact fX h1) | exact fX h1
   · cases h1
theorem TF {rs:List RV} {post:V→Prop} {e:Ex} {σ:St} (he:NH e=true) (h:match σ.rvs rs with
 | some vs=>match purs σ.h vs with
   | some us=>post (gF us)
   | none=>False
 | none=>False):Res rs post e σ:=⟨(by cases e<;>first | trivial | cases he),h⟩
theorem QP {rs:List RV} {r:V} {e:Ex} {σ:St} (he:NH e=true) (h:match σ.rvs rs with
 | some vs=>xd σ.h vs=true∧(match purs σ.h vs with
   | some us=>gF us=r
   | none=>False)
 | none=>False):D6 rs r e σ:=⟨(by cases e<;>first | trivial | cases he),h⟩
theorem QQ {rs:List RV} {ps:List Nat} {us:List V} {r:V} {H':List (Option Ob)} {e:Ex} {σ:St} (he:NH e=true) (h:match σ.rvs rs with
 | some vs=>ED σ ps us r H' vs (ep σ.h (qE (pk σ.r ps)) vs).2
 | none=>False):GD rs ps us r H' e σ:=⟨(by cases e<;>first | trivial | cases he),h⟩
theorem FnN.of_imageE {P:Program} {f:FuncId} {fn:Func} {E:List Nat} {us:List V} {r:V} {x:AC} {K:List (List Nat)} {rs:List RV} {n:Nat} (hm:P.follows .mixedOrders=true) (hf:P.funcs[f]?=some fn)
 (hi:aM P fn [] E K n=some (x,rs)) (hn:us.length=n) (hW:oks us→W (Cn P) x (D6 rs r) ⟨ent 0 us,[]⟩):FnN P f us r:=by
 unfold aM at hi
 split at hi
 · split at hi
   · split at hi
     · rename_i hc
       cases hi
       exact FnN.of_W hm hf ‹_› hc.1 (dz ‹_›) ‹_› (by rw [hn]; exact hc.2.1) hW
     · cases hi
   · cases hi
 · cases hi
theorem Img.of_image {P:Program} {f:FuncId} {fn:Func} {K:List (List Nat)} {n:Nat} {c:AC} {rs:List RV} (hf:P.funcs[f]?=some fn) (h:ai P fn K n=some (c,rs)):Img P f ⟨c,rs,n,[]⟩:=by
 refine ⟨fn,K,[],hf,?_⟩
 show aM P fn [] [] K n=some (c,rs)
 unfold ai at h
 unfold aM
 cases hb:fn.body with
 | none=>rw [hb] at h; cases h
 | some x=>
   rw [hb] at h
   dsimp only at h ⊢
   split at h
   · rename_i y rs' hx hr
     split at h
     · rename_i hc
       cases h
       exact if_pos ⟨hc.1,hc.2,rfl⟩
     · cases h
   · cases h
theorem Img.of_imageE {P:Program} {f:FuncId} {fn:Func} {ps E:List Nat} {K:List (List Nat)} {n:Nat} {c:AC} {rs:List RV} (hf:P.funcs[f]?=some fn) (h:aM P fn ps E K n=some (c,rs)):Img P f ⟨c,rs,n,ps⟩:=⟨fn,K,E,hf,h⟩
theorem cC {P:Program} {T:FTab} (hm:P.follows .mixedOrders=true) (hT:TabOK P T) (fuel:Nat) (n:Nat):EnvOK (nW T fuel n) (Cn P):=by
 induction n with
 | zero=>
   refine ⟨fun f us r nw h=>?_,fun f us H r H' ps h=>by simp [nW] at h⟩
   simp only [nW,Option.map_eq_some_iff,Prod.mk.injEq] at h
   obtain ⟨r',h1,rfl,rfl⟩:=h
   exact ⟨hT.g _ _ _ h1,fun h=>by cases h⟩
 | succ n ih=>
   refine ⟨fun f us r nw h=>?_,fun f us H r H' ps h h'=>?_⟩
   · simp only [nW] at h
     split at h
     · rename_i r' h1
       cases h
       exact ⟨hT.g _ _ _ h1,fun h=>by cases h⟩
     · split at h
       · rename_i D hD
         obtain ⟨⟨fn,K,E,hf,hi⟩,hps⟩:=hT.p _ _ hD
         rw [hps] at hi
         split at h
         · rename_i hl
           split at h
           · rename_i x hx
             obtain ⟨e,σ⟩:=x
             simp only [xres] at h
             split at h
             · rename_i he
               split at h
               · rename_i vs hvs
                 split at h
                 · rename_i ws hws
                   cases h
                   exact ⟨Fn.of_imageE hm hf hi hl fun _=>lX ih hx (TF he (by simp only [hvs,hws])),fun hfr=>FnN.of_imageE hm hf hi hl fun _=>lX ih hx (QP he (by simp only [hvs,hws]; exact ⟨hfr,trivial⟩))⟩
                 · cases h
               · cases h
             · cases h
           · cases h
         · cases h
       · cases h
   · simp only [nW] at h h'
     split at h'
     · rename_i D hD
       simp only [hD,Option.map_some,Option.some.injEq] at h
       subst h
       obtain ⟨fn,K,E,hf,hi⟩:=hT.h _ _ hD
       split at h'
       · rename_i hl
         split at h'
         · rename_i x hx
           obtain ⟨e,σ⟩:=x
           simp only [QT] at h'
           split at h'
           · rename_i he
             split at h'
             · rename_i vs hvs
               unfold Lp at h'
               split at h'
               · rename_i hp
                 cases h'
                 exact FnH.of_image hm hf hi hl fun _ _=>lX ih hx (QQ he (by simp only [hvs]; exact ⟨tq hp,rfl,rfl⟩))
               · cases h'
             · cases h'
           · cases h'
         · cases h'
       · cases h'
     · cases h'
end Go.Abs
end
section
namespace Go.Abs
open Go.RowKit
theorem Heap.boxed {P:Program} {J:Nat→List (V × Bool)→(Nat→Prop)→Mem→World→Prop} {κ:Kap} {κ0:Kap} {M:Mem} {w w':World} {ca:Array Value} {H':List (Option Ob)} (h:Heap κ M (cT κ0 [] w [] ca J) w' H') (hu:Und (cT κ0 [] w [] ca J) w w') {cs cs':List V} {id:Nat} {c:Value}
 (hb:H'[id]?=some (some (.box cs))) (hp:purs H' cs=some cs') (hr:rep M (XX κ H') (.ptr id 0) c):
 ∃ M',(∀ p v,M p=some v→M' p=some v)∧(∀ p v,M' p=some v→w'.cell? p=some v)∧(∀ p v,M' p=some v→M p=some v∨w.heap.size≤p.block)∧rep M' NX (.sptr (.strct cs') 0) c:=by
 have H:Rel 0 M (cT κ0 [] w [] ca J) w κ M ⟨[],H'⟩ { tmps:=#[],defers:=[] } w':=
  { dfr:=rfl,jst:=h.jst,pin:=fun i hi=>(by cases hi),size:=rfl,regs:=fun t v ht=>(by simp [lk] at ht),heap:=h.heap,inj:=h.inj,snd:=h.snd,sep:=h.sep
    sub:=⟨fun _ _ h=>h,h.fmS,fun _ _ _=>Nat.zero_le _,Nat.zero_le _,h.gl⟩,new:=fun _ _ h=>.inl h,base:=rfl,blw:=hu }
 obtain ⟨ids,n9⟩:∃ ids,ids=id::ah cs:=⟨_,rfl⟩
 obtain ⟨H2,hM⟩:=H.kill ids (fun i hi=>by
  rw [n9] at hi
  rcases List.mem_cons.1 hi with rfl | hi
  · exact ⟨_,hb⟩
  · exact cG hp i hi)
 have hob:=h.heap id _ hb
 simp only [az] at hob
 obtain ⟨b,arr,T,h1,h2,h3,h4,h5,h6⟩:=hob
 simp only [rep,XX] at hr
 obtain ⟨b',e1,e2⟩:=hr.2.2 _ hb
 rw [h1] at e1
 cases e1
 refine ⟨ext M w' (j9 κ ids),hM,H2.snd,fun p v hv=>?_,?_⟩
 · rcases H2.new p v hv with h | h | ⟨i,ob,g1,_⟩
   · exact .inl h
   · exact .inr h
   · simp at g1
 · have k3:ae (ext M w' (j9 κ ids)) NX cs' arr.toList:=by
    refine bf H hM (fun i hi g hg p hpb=>?_) h4 hp
    unfold ext
    rw [if_pos (cr.2 ⟨i,by rw [n9]; exact List.mem_cons_of_mem _ hi,by rw [hpb]; exact hg⟩)]
   simp only [rep]
   refine ⟨b,0,.agg arr,by simpa using e2,⟨arr,rfl,k3,h5⟩,h5,fun j hj=>?_⟩
   have hk:j9 κ ids b:=cr.2 ⟨id,by rw [n9]; simp,(h6 b).2 rfl⟩
   unfold ext
   rw [if_pos hk]
   simp [World.cell?,h3,Value.cells]
theorem FnH.start {M:Mem} {w:World} (h:Snd M w) (ca:Array Value):Heap ⟨fun _=>undef,fun _ _=>undef,fun _ _=>False,fun _=>none⟩ M (cT ⟨fun _=>undef,fun _ _=>undef,fun _ _=>False,fun _=>none⟩ [] w [] ca noJ) w []:=
 { heap:=fun id ob h=>by simp at h,inj:=fun i j oi oj g h=>by simp at h,snd:=h.snd,sep:=fun p v _ id ob h=>by simp at h,fmS:=fun _ _ h=>(by cases h),gl:=h.gl,jst:=jS rfl }
theorem FnH.boxed2 {P:Program} {f:FuncId} {us:List V} {H':List (Option Ob)} {cs cs':List V} {x:V} (h:FnH P f [] us [] (.tup [.ptr 0 0,x]) H') (hx:cg x=true) (hb:H'[0]?=some (some (.box cs))) (hp:purs H' cs=some cs'):Fn P f us (.tup [.sptr (.strct cs') 0,x]):=by
 intro M w ca hM hus o a Nx Q hN
 refine h M w _ ca noJ (jT rfl) (FnH.start hM ca) (aR (fun _ _ h=>h) (fun _ _ h=>h.elim) _ _ hus) o a Nx Q ?_
 intro c M' w' κ' hr hu hh hM1 hM2 _
 simp only [rep,ae] at hr
 obtain ⟨arr,rfl,c1,cs1,e1,hr1,c2,cs2,e2,hr2,e3⟩:=hr
 obtain ⟨M2,k1,k2,k3,k4⟩:=hh.boxed (P:=P) hu hb hp (c:=c1) (by simpa only [rep] using hr1)
 refine hN _ M2 w' ?_ ⟨hu.os,hu.tape,hu.output,hu.size,fun k hk=>hu.block k hk (fun ⟨i,ob,g1,_⟩=>by simp at g1)⟩ k2 (fun p v h=>k1 p v (hM1 p v h)) (fun p v h=>?_)
 · simp only [rep,ae] at k4 ⊢
   exact ⟨arr,rfl,c1,_,e1,k4,c2,_,e2,jQ hx hr2,e3⟩
 · rcases k3 p v h with h | h
   · rcases hM2 p v h with h | h | ⟨i,ob,g1,_⟩
     · exact .inl h
     · exact .inr h
     · simp at g1
   · exact .inr h
section
variable {P:Program} {N:Nat} {M0:Mem} {B:Bas} {w0:World} {κ:Kap} {M:Mem} {σ:St} {a:Act} {w w':World}
theorem Rel.stay (H:Rel N M0 B w0 κ M σ a w) (hu:Und B w w') (hb:∀ g,ef κ σ.h g→w'.heap[g]?=w.heap[g]?) (hs:∀ p v,M p=some v→w'.cell? p=some v):Rel N M0 B w0 κ M σ a w':=
 { dfr:=H.dfr,jst:=H.jst,pin:=H.pin,size:=H.size,regs:=H.regs
   heap:=fun id ob h=>c7 (fun _ _ h=>h) (fun _ _ h=>h) ⟨rfl,rfl,rfl⟩ (fun g hg=>hb g ⟨id,ob,h,hg⟩) H.jst hu hs (H.heap id ob h)
   inj:=H.inj,snd:=hs,sep:=H.sep,sub:=H.sub,new:=H.new,base:=H.base,blw:=H.blw.trans hu }
def Hl (o:Obj):Prop:=∀ c e z,o≠.cells c e z
theorem nO {l:Nat} {o:Obj} (hl:w.heap[l]?=some o) (ho:Hl o) {p:Addr} {v:Value} (h:w.cell? p=some v):p.block≠l:=by
 intro e
 unfold World.cell? at h
 rw [e,hl] at h
 cases o<;>first | exact ho _ _ _ rfl | cases h
theorem m1 {l:Nat} {o o':Obj} (hl:w.heap[l]?=some o) (ho:Hl o) {p:Addr} {v:Value} (h:w.cell? p=some v):(w.putObj l o').cell? p=some v:=by
 rw [World.cell?_of_block (World.putObj_heap_other (nO hl ho h))]; exact h
theorem IN {l:Nat} {o o':Obj} (hl:w.heap[l]?=some o) (ho:Hl o):Siz w (w.putObj l o'):=by
 intro k cur T z hc
 have:k≠l:=by rintro rfl; rw [hl] at hc; exact ho _ _ _ (Option.some.inj hc)
 exact ⟨cur,T,z,by rw [World.putObj_heap_other this]; exact hc,rfl⟩
theorem uW {l:Nat} {o o':Obj} (hl:w.heap[l]?=some o) (ho:Hl o) (hB:B.n≤l):Und B w (w.putObj l o'):=
 ⟨rfl,rfl,rfl,by simp,fun k hk hs=>World.putObj_heap_other (by omega),IN hl ho⟩
theorem c8 {r:Loop}:Hl (.loop r):=fun _ _ _ h=>by cases h
theorem mu {d:Option (List Deferred)}:Hl (.deferred d):=fun _ _ _ h=>by cases h
def St.ids (σ:St) (ks:List Nat):List Nat:=dd (dd (dd [] (G5 (pk σ.r ks))) (n9 σ.h (dd [] (G5 (pk σ.r ks))))) (n9 σ.h (dd (dd [] (G5 (pk σ.r ks))) (n9 σ.h (dd [] (G5 (pk σ.r ks))))))
theorem Hk {ks:List Nat}:σ.nrm ks={ r:=x5 (σ.ids ks) (pk σ.r ks),h:=fG σ.h (σ.ids ks) (σ.ids ks) }:=rfl
theorem KA {ks:List Nat}:(σ.ids ks).Nodup:=bw _ _ (bw _ _ (bw _ _ List.nodup_nil))
theorem Rel.nrm' (H:Rel N M0 B w0 κ M σ a w) (ks:List Nat):Rel N M0 B w0 (κ.ren (σ.ids ks)) M (σ.nrm ks) a w:=by
 rw [Hk]
 exact H.ren KA _ (fun t v h=>Fd h)
theorem sB {r:List (Nat × V)}:∀ {ks:List Nat} {t:Nat} {v:V},lk (pk r ks) t=some v→t∈ks
 | [],_,_,h=>by simp [pk,lk] at h
 | k::ks,t,v,h=>by
   simp only [pk] at h
   split at h
   · simp only [lk] at h
     split at h
     · rename_i he; simp [he]
     · exact List.mem_cons_of_mem _ (sB h)
   · exact List.mem_cons_of_mem _ (sB h)
theorem Hw {ks:List Nat} {t:Nat} {v:V} (h:lk (σ.nrm ks).r t=some v):t∈ks:=by
 rw [Hk] at h
 obtain ⟨u,h1,_⟩:=Cu h
 exact sB h1
def GG (N:Nat) (M0:Mem) (B:Bas) (w0:World) (a:Act) (ks:List Nat) (l D:Nat) (τ:St) (r:Loop) (S:Nat→Prop) (Mm:Mem) (W:World):Prop:=
 ∃ κi Mi,Rel N M0 B w0 κi Mi τ a W∧(∀ t v,lk τ.r t=some v→t∈ks)∧(∀ p v,Mi p=some v→Mm p=some v)∧W.heap[l]?=some (.loop r)∧W.heap[D]?=some (.deferred (some []))∧
   (∀ g,S g↔ef κi τ.h g∨g=l∨g=D)∧∀ g,ef κi τ.h g→g≠l∧g≠D
theorem GG.stay {ks:List Nat} {l D:Nat} {τ:St} {r:Loop} {S:Nat→Prop} {Mm Mm':Mem} {W W':World} (h:GG N M0 B w0 a ks l D τ r S Mm W) (hu:Und B W W') (hS:∀ g,S g→W'.heap[g]?=W.heap[g]?)
 (hm:∀ p v,Mm p=some v→Mm' p=some v) (hs:∀ p v,Mm' p=some v→W'.cell? p=some v):GG N M0 B w0 a ks l D τ r S Mm' W':=by
 obtain ⟨κi,Mi,h1,h2,h3,h4,h5,h6,h7⟩:=h
 exact ⟨κi,Mi,h1.stay hu (fun g hg=>hS g ((h6 g).2 (.inl hg))) (fun p v hp=>hs p v (hm p v (h3 p v hp))),h2,fun p v hp=>hm p v (h3 p v hp),by rw [hS l ((h6 l).2 (.inr (.inl rfl)))]; exact h4,by rw [hS D ((h6 D).2 (.inr (.inr rfl)))]; exact h5,h6,h7⟩
def ui:List Nat→List V→List (Nat × V)→List (Nat × V)
 | t::ts,v::vs,r=>ui ts vs ((t,v)::r)
 | _,_,r=>r
theorem Rel.zip:∀ {ts:List Nat} {us:List V} {cs:List Value} {r:List (Nat × V)} {h:List (Option Ob)} {T:Array Value},Rel N M0 B w0 κ M ⟨r,h⟩ ⟨T,[]⟩ w→ae M NX us cs→(∀ t∈ts,t < N∧t ∉ B.ps)→
 Rel N M0 B w0 κ M ⟨ui ts us r,h⟩ ⟨(ts.zip cs).foldl (fun tmps (x:Nat × Value)=>tmps.setIfInBounds x.1 x.2) T,[]⟩ w
 | [],us,cs,r,h,T,H,_,_=>by cases us<;>simpa [ui] using H
 | t::ts,[],cs,r,h,T,H,hu,_=>by
   simp only [ae] at hu
   subst hu
   simpa [ui] using H
 | t::ts,u::us,cs,r,h,T,H,hu,ht=>by
   simp only [ae] at hu
   obtain ⟨c,cs',rfl,h1,h2⟩:=hu
   have:=H.put (d:=t) (ht t (by simp)) (ax (X:=XX κ h) h1)
   simp only [ui,List.zip_cons_cons,List.foldl_cons]
   exact Rel.zip (this:Rel N M0 B w0 κ M ⟨(t,u)::r,h⟩ ⟨T.setIfInBounds t c,[]⟩ w) h2 fun t' h'=>ht t' (by simp [h'])
def BV (κi:Kap) (h:List (Option Ob)) (W:World) (ks:List Nat) (cs:Array Value) (fb:Nat):Bas:=⟨W.heap.size,ef κi h,ks,cs,fb,noJ,[]⟩
structure Calm (w w':World):Prop where
 os:w'.os=w.os
 tape:w'.tape=w.tape
 output:w'.output=w.output
 size:w.heap.size≤w'.heap.size
 siz:Siz w w'
theorem Calm.refl (w:World):Calm w w:=⟨rfl,rfl,rfl,Nat.le_refl _,fun _ cur T z h=>⟨cur,T,z,h,rfl⟩⟩
theorem Calm.trans {w1 w2 w3:World} (h:Calm w1 w2) (k:Calm w2 w3):Calm w1 w3:=
 ⟨k.os.trans h.os,k.tape.trans h.tape,k.output.trans h.output,Nat.le_trans h.size k.size,fun i cur T z hc=>by
   obtain ⟨c1,T1,z1,h1,e1⟩:=h.siz i cur T z hc
   obtain ⟨c2,T2,z2,h2,e2⟩:=k.siz i c1 T1 z1 h1
   exact ⟨c2,T2,z2,h2,e2.trans e1⟩⟩
theorem Calm.of_und (h:Und B w w'):Calm w w':=⟨h.os,h.tape,h.output,h.size,h.siz⟩
theorem xI {l:Nat} {o o':Obj} (hl:w.heap[l]?=some o) (ho:Hl o):Calm w (w.putObj l o'):=⟨rfl,rfl,rfl,by simp,IN hl ho⟩
theorem g9 {B':Bas} {M':Mem} {X:V→Value→Prop} {id:Nat} {ob:Ob} (hJ:B.J=noJ) (hM:∀ p v,M p=some v→M' p=some v) (hw:∀ g,κ.bl id g→w'.heap[g]?=w.heap[g]?) (hc:Calm w w') (hs:∀ p v,M' p=some v→w'.cell? p=some v) (ho:∀ g,κ.bl id g→B'.own g) (hJ':B'.J=noJ)
 (h:az κ M X B w id ob):az κ M' X B' w' id ob:=by
 have h1:az κ M X ⟨0,fun _=>True,[],#[],0,noJ,[]⟩ w id ob:=dF (B:=B) (fun g hg=>.inl (Nat.zero_le _)) hJ.symm h
 have h2:az κ M' X ⟨0,fun _=>True,[],#[],0,noJ,[]⟩ w' id ob:=c7 hM (fun _ _ h=>h) ⟨rfl,rfl,rfl⟩ hw (jS rfl) ⟨hc.os,hc.tape,hc.output,hc.size,fun k hk=>absurd hk (Nat.not_lt_zero _),hc.siz⟩ hs h1
 exact dF (B':=B') ho hJ' h2
theorem Rel.rnd {κi:Kap} {Mi Mm:Mem} {τ:St} {W W':World} {ks:List Nat} {cs:Array Value} (hJ:B.J=noJ) (H:Rel N M0 B w0 κi Mi τ a W) (hpin:∀ i,i∈ks→a.tmps[i]?=cs[i]?) (hc:Calm W W') (hb:∀ g,ef κi τ.h g→W'.heap[g]?=W.heap[g]?)
 (hm:∀ p v,Mi p=some v→Mm p=some v) (hMs:Snd Mm W') (hsep:∀ p v,Mm p=some v→¬ef κi τ.h p.block):Rel N Mm (BV κi τ.h W' ks cs B.fb) W' κi Mm τ ⟨a.tmps,[]⟩ W':=
 { dfr:=rfl
   jst:=jS rfl
   pin:=hpin
   size:=H.size
   regs:=fun t v ht=>let ⟨h1,c,h2,h3⟩:=H.regs t v ht; ⟨h1,c,h2,aw hm (fun _ _ h=>h) _ _ h3⟩
   heap:=fun id ob h=>g9 hJ hm (fun g hg=>hb g ⟨id,ob,h,hg⟩) hc hMs.snd (fun g hg=>.inr ⟨id,ob,h,hg⟩) rfl (H.heap id ob h)
   inj:=H.inj,snd:=hMs.snd
   sep:=fun p v hp id ob h hg=>hsep p v hp ⟨id,ob,h,hg⟩
   sub:=⟨fun _ _ h=>h,fun p v h=>hm p v (H.sub.fmS p v h),H.sub.fmN,Nat.le_trans H.sub.fbn (by show B.n≤W'.heap.size; rw [H.base]; exact Nat.le_trans H.blw.size hc.size),hMs.gl⟩
   new:=fun _ _ h=>.inl h
   base:=rfl
   blw:=Und.refl _ _ }
structure Mid (S:Nat→Prop) (l:Nat) (Mm:Mem) (W:World) (B2:Bas) (M1:Mem) (W1:World):Prop where
 calm:Calm W W1
 block:∀ g,g < W.heap.size→¬S g→g≠l→W1.heap[g]?=W.heap[g]?
 own:∀ g,B2.own g→W.heap.size≤g∨S g
 mem:∀ p v,Mm p=some v→M1 p=some v
 new:∀ p v,M1 p=some v→Mm p=some v∨W.heap.size≤p.block∨S p.block
theorem Mid.refl {κi:Kap} {h:List (Option Ob)} {l:Nat} {Mm:Mem} {W:World} {ks:List Nat} {cs:Array Value} {fb:Nat}:Mid (ef κi h) l Mm W (BV κi h W ks cs fb) Mm W:=
 ⟨Calm.refl _,fun _ _ _ _=>rfl,fun g h=>h,fun _ _ h=>h,fun _ _ h=>.inl h⟩
theorem Mid.next {S:Nat→Prop} {l:Nat} {Mm M1 M2:Mem} {W W1 W2 W':World} {B2:Bas} {κ2:Kap} {τ2:St} {a2:Act} {ks:List Nat} {cs:Array Value} {fb:Nat} (h:Mid S l Mm W B2 M1 W1) (H:Rel N M1 B2 W1 κ2 M2 τ2 a2 W2) (hc:Calm W2 W') (hb:∀ g,g≠l→W'.heap[g]?=W2.heap[g]?):
 Mid S l Mm W (BV κ2 τ2.h W' ks cs fb) M2 W':=by
 have ho:∀ g,B2.own g→W.heap.size≤g∨S g:=h.own
 refine ⟨(h.calm.trans (.of_und H.blw)).trans hc,fun g hg hS hl=>?_,fun g hg=>?_,fun p v hp=>H.sub.sub p v (h.mem p v hp),fun p v hp=>?_⟩
 · have hn:B2.n=W1.heap.size:=H.base
   rw [hb g hl,H.blw.block g (by rw [hn]; have:=h.calm.size; omega) (fun hs=>(ho g (.inr hs)).elim (fun h=>by omega) hS)]
   exact h.block g hg hS hl
 · rcases hg with hg | ⟨id,ob,h1,h2⟩
   · have hg:W'.heap.size≤g:=hg
     have:=h.calm.size
     have:=H.blw.size
     have:=hc.size
     exact .inl (by omega)
   · exact ho g (H.blk_lt h1 h2).1
 · rcases H.new p v hp with h1 | h1
   · exact h.new p v h1
   · exact .inr (ho _ h1)
theorem Rel.unrnd {κi κ2:Kap} {Mi Mm M1 M2:Mem} {τ τ2:St} {W W1 W2:World} {ks:List Nat} {a2:Act} {B2:Bas} {l:Nat} (hJ:B.J=noJ) (H:Rel N M0 B w0 κi Mi τ a W) (hm:∀ p v,Mi p=some v→Mm p=some v) (hnew:∀ p v,Mm p=some v→M0 p=some v∨B.own p.block) (hl:B.n≤l)
 (h:Mid (ef κi τ.h) l Mm W B2 M1 W1) (hps:B2.ps=ks) (hcs:B2.cs=a.tmps) (hfb:B2.fb=B.fb) (hJ2:B2.J=noJ) (H2:Rel N M1 B2 W1 κ2 M2 τ2 a2 W2) (hk:∀ t v,lk τ2.r t=some v→t∈ks):Rel N M0 B w0 κ2 M2 τ2 a W2:=by
 have hBn:B.n≤W.heap.size:=by rw [H.base]; exact H.blw.size
 have ho:∀ g,B2.own g→B.own g:=fun g hg=>(h.own g hg).elim (fun h=>.inl (by omega)) fun ⟨id,ob,h1,h2⟩=>(H.blk_lt h1 h2).1
 have hu1:Und B W W1:=⟨h.calm.os,h.calm.tape,h.calm.output,h.calm.size,fun k hk hs=>h.block k (by omega) (fun ⟨id,ob,h1,h2⟩=>(H.blk_lt h1 h2).1.elim (fun h=>by omega) hs) (by omega),h.calm.siz⟩
 have hu2:Und B W1 W2:=⟨H2.blw.os,H2.blw.tape,H2.blw.output,H2.blw.size,fun k hk hs=>H2.blw.block k (by rw [H2.base]; have:=h.calm.size; omega) (fun h2=>(ho k (.inr h2)).elim (fun h=>by omega) hs),H2.blw.siz⟩
 exact
 { dfr:=H.dfr,jst:=H.jst,pin:=H.pin,size:=H.size
   regs:=fun t v ht=>by
    obtain ⟨h1,c,h2,h3⟩:=H2.regs t v ht
    rw [H2.pin t (by rw [hps]; exact hk t v ht),hcs] at h2
    exact ⟨h1,c,h2,h3⟩
   heap:=fun id ob h=>dF (B:=B2) (fun g hg=>ho g (H2.blk_lt h hg).1) (by rw [hJ,hJ2]) (H2.heap id ob h)
   inj:=H2.inj,snd:=H2.snd,sep:=H2.sep
   sub:=⟨fun p v hp=>H2.sub.sub p v (h.mem p v (hm p v (H.sub.sub p v hp))),H2.sub.fmS,fun p v hp=>by rw [←hfb]; exact H2.sub.fmN p v hp,H.sub.fbn,H.sub.gl⟩
   new:=fun p v hp=>(H2.new p v hp).elim (fun h1=>(h.new p v h1).elim (hnew p v) fun h2=>.inr (h2.elim (fun h=>.inl (by omega)) fun ⟨id,ob,h1,h2⟩=>(H.blk_lt h1 h2).1)) fun h=>.inr (ho _ h)
   base:=H.base
   blw:=(H.blw.trans hu1).trans hu2 }
theorem EA (hmx:P.follows .mixedOrders=true) (hJ:B.J=noJ) {ρ:Option Nat} {ks:List Nat} {ps:Array Nat} {assign body:Code} {xa xb:AC} (hLa:LC P N ks assign xa) (hLb:LC P N ks body xb) {κi:Kap} {Mi Mm:Mem} {τ:St} {w1:World} {l D fnid:Nat} {r:Loop}
 (H:Rel N M0 B w0 κi Mi τ a w1) (hm:∀ p v,Mi p=some v→Mm p=some v) (hl:w1.heap[l]?=some (.loop r)) (hlD:∀ g,ef κi τ.h g→g≠l∧g≠D) (hr:r.state=.ready)
 (hMs:Snd Mm w1) (hsep:∀ p v,Mm p=some v→¬ef κi τ.h p.block)
 {us:List V} {cs:Array Value} (hus:ae Mm NX us cs.toList) (hps:∀ t∈ps.toList,t < N∧t ∉ ks) {R:Ending→World→Prop} {post:Ex→St→Prop}
 (hW:W (Cn P) xa (Ex.then (W (Cn P) xb post) (fun _ _=>False)) ⟨ui ps.toList us τ.r,τ.h⟩)
 (hpost:∀ e τ2 κ2 M1 M2 a2 W1 W2 B2,post e τ2→Mid (ef κi τ.h) l Mm w1 B2 M1 W1→B2.ps=ks→B2.cs=a.tmps→B2.fb=B.fb→B2.J=noJ→Rel N M1 B2 W1 κ2 M2 τ2 a2 W2→W2.heap[l]?=some (.loop { r with state:=.busy })→roundPost P l R e.out a2 W2):
 RoundIn (FR ρ) 0 P l fnid ((ps.zip cs).foldl (fun tmps (x:Nat × Value)=>tmps.setIfInBounds x.1 x.2) a.tmps) assign body w1 R:=by
 have H0:Rel N Mm (BV κi τ.h w1 ks a.tmps B.fb) w1 κi Mm τ ⟨a.tmps,[]⟩ w1:=H.rnd hJ (fun _ _=>rfl) (Calm.refl _) (fun _ _=>rfl) hm hMs hsep
 have H1:=Rel.zip H0 hus hps
 have e1:(ps.zip cs).foldl (fun tmps (x:Nat × Value)=>tmps.setIfInBounds x.1 x.2) a.tmps=(ps.toList.zip cs.toList).foldl (fun tmps (x:Nat × Value)=>tmps.setIfInBounds x.1 x.2) a.tmps:=by
  rw [←Array.foldl_toList,Array.toList_zip]
 rw [e1]
 have hll:l < w1.heap.size:=(Array.getElem?_eq_some_iff.1 hl).1
 have hnl:¬ef κi τ.h l:=fun h=>(hlD l h).1 rfl
 refine roundIn_of_wpIn (F:=FR ρ) trivial (nS (ρ:=some l) hmx (jT rfl) (B:=BV κi τ.h w1 ks a.tmps B.fb) hLa ?_ H1 hW)
 intro e κa Ma τa aa Wa hR Ha
 cases e with
 | norm=>
   have hla:Wa.heap[l]?=some (.loop r):=by rw [Ha.blw.block l hll hnl]; exact hl
   refine ⟨_,run_beginRound hla hr,?_⟩
   have hnl2:¬ef κa τa.h l:=fun ⟨id,ob,h1,h2⟩=>(Ha.blk_lt h1 h2).1.elim (fun h=>absurd h (Nat.not_le.2 hll)) hnl
   have hcp:Calm Wa (Wa.putObj l (.loop { r with state:=.busy })):=xI hla c8
   have hsn:∀ p v,Ma p=some v→(Wa.putObj l (.loop { r with state:=.busy })).cell? p=some v:=fun p v hp=>m1 hla c8 (Ha.snd p v hp)
   have Hb:Rel N Ma (BV κa τa.h (Wa.putObj l (.loop { r with state:=.busy })) ks a.tmps B.fb) (Wa.putObj l (.loop { r with state:=.busy })) κa Ma τa ⟨aa.tmps,[]⟩ (Wa.putObj l (.loop { r with state:=.busy })):=
    Rel.rnd (B:=BV κi τ.h w1 ks a.tmps B.fb) rfl Ha Ha.pin hcp (fun g hg=>World.putObj_heap_other (fun e=>hnl2 (e ▸ hg))) (fun _ _ h=>h) ⟨hsn,Ha.sub.gl.mono Ha.sub.sub⟩ (fun p v hp ⟨id,ob,h1,h2⟩=>Ha.sep p v hp id ob h1 h2)
   have ea:aa=⟨aa.tmps,[]⟩:=by have:=Ha.dfr; cases aa; simp only at this; rw [this]; rfl
   rw [ea]
   have hMid:Mid (ef κi τ.h) l Mm w1 (BV κa τa.h (Wa.putObj l (.loop { r with state:=.busy })) ks a.tmps B.fb) Ma (Wa.putObj l (.loop { r with state:=.busy })):=Mid.refl.next Ha hcp (fun g hg=>World.putObj_heap_other hg)
   refine nS (ρ:=some l) hmx (jT rfl) (B:=BV κa τa.h (Wa.putObj l (.loop { r with state:=.busy })) ks a.tmps B.fb) hLb ?_ Hb hR
   intro e κ2 M2 τ2 a2 W2 hp H2
   refine hpost e τ2 κ2 Ma M2 a2 _ W2 _ hp hMid rfl rfl rfl rfl H2 ?_
   have hl3:l < Wa.heap.size:=(Array.getElem?_eq_some_iff.1 hla).1
   rw [H2.blw.block l (by show l < (Wa.putObj l _).heap.size; simpa using hl3) hnl2]
   exact World.putObj_heap_same hl3
 | exit id=>exact hR.elim
 | goto l=>exact hR.elim
 | ret=>exact hR.elim
end
section
variable {P:Program} {N:Nat} {M0:Mem} {B:Bas} {w0:World} {κ:Kap} {M:Mem} {σ:St} {a:Act} {w w':World}
def GE (st:Nat→St) (stx:St) (ks:List Nat) (i:Nat) (b:Bool):Ex→St→Prop
 | .norm,τ=>b=true∧∃ ms τ',τ.mats ms=some τ'∧τ'.nrm ks=st (i + 1)
 | .ret,τ=>b=false∧∃ ms τ',τ.mats ms=some τ'∧τ'.nrm ks=stx
 | _,_=>False
def mC (fn:FuncId) (a:Act) (ps:Array Tmp) (assign body:Code) (D:Nat) (s:LoopState) (p:Option Code):Loop:={ state:=s,pending:=p,fn,tmps:=a.tmps,params:=ps,assign,body,defers:=D }
def TR (N:Nat) (M0:Mem) (B:Bas) (w0:World) (a:Act) (ks:List Nat) (l D:Nat) (full:List (V × Bool)) (st:Nat→St) (stx:St) (rec:LoopState→Option Code→Loop):Nat→List (V × Bool)→(Nat→Prop)→Mem→World→Prop:=fun k ann S Mm W=>k=l∧
 ((∃ i,ann=full.drop i∧i≤full.length∧(∀ (j:Nat) (v:V) (b:Bool),j < i→full[j]?=some (v,b)→b=true)∧GG N M0 B w0 a ks l D (st i) (rec .ready none) S Mm W)∨
  (ann=[]∧(∃ (j:Nat) (v:V),full[j]?=some (v,false))∧GG N M0 B w0 a ks l D stx (rec .done (some .ret)) S Mm W))
theorem AQ {ks:List Nat} {κi κ2:Kap} {Mi Mm M1 M2:Mem} {τ τ2:St} {W1 W2:World} {a2:Act} {B2:Bas} {l D:Nat} {S:Nat→Prop} {r r2:Loop} (hJ:B.J=noJ) (H:Rel N M0 B w0 κi Mi τ a w) (hm:∀ p v,Mi p=some v→Mm p=some v)
 (hnew:∀ p v,Mm p=some v→M0 p=some v∨B.own p.block) (hl:B.n≤l) (hld:l≠D) (hS:∀ g,S g↔ef κi τ.h g∨g=l∨g=D) (hlD:∀ g,ef κi τ.h g→g≠l∧g≠D) (hlw:l < w.heap.size) (hD:w.heap[D]?=some (.deferred (some [])))
 (h:Mid (ef κi τ.h) l Mm w B2 M1 W1) (hps:B2.ps=ks) (hcs:B2.cs=a.tmps) (hfb:B2.fb=B.fb) (hJ2:B2.J=noJ) (H2:Rel N M1 B2 W1 κ2 M2 τ2 a2 W2) (hk:∀ t v,lk τ2.r t=some v→t∈ks) (hl2:W2.heap[l]?=some (.loop r)):
 GG N M0 B w0 a ks l D τ2 r2 (fun g=>ef κ2 τ2.h g∨g=l∨g=D) M2 (W2.putObj l (.loop r2))∧EnvStep S w (fun g=>ef κ2 τ2.h g∨g=l∨g=D) Mm M2 (W2.putObj l (.loop r2)):=by
 have hDw:D < w.heap.size:=(Array.getElem?_eq_some_iff.1 hD).1
 have hbk:∀ g,ef κ2 τ2.h g→w.heap.size≤g∨ef κi τ.h g:=fun g ⟨id,ob,h1,h2⟩=>h.own g (H2.blk_lt h1 h2).1
 have hb2:∀ g,ef κ2 τ2.h g→g≠l∧g≠D:=fun g hg=>(hbk g hg).elim (fun h=>⟨by omega,by omega⟩) (hlD g)
 have hW:∀ g,g < w.heap.size→¬ef κi τ.h g→g≠l→W2.heap[g]?=w.heap[g]?:=fun g hg hS hl=>by
  rw [H2.blw.block g (by rw [H2.base]; have:=h.calm.size; omega) (fun hs=>(h.own g (.inr hs)).elim (fun h=>by omega) hS)]
  exact h.block g hg hS hl
 have hD2:W2.heap[D]?=some (.deferred (some [])):=by rw [hW D hDw (fun hd=>(hlD D hd).2 rfl) (Ne.symm hld)]; exact hD
 have hl3:l < W2.heap.size:=(Array.getElem?_eq_some_iff.1 hl2).1
 have hcm:Calm w W2:=h.calm.trans (.of_und H2.blw)
 have hcp:=xI (o':=.loop r2) hl2 c8
 have hR:=Rel.unrnd hJ H hm hnew hl h hps hcs hfb hJ2 H2 hk
 have hs3:∀ p v,M2 p=some v→(W2.putObj l (.loop r2)).cell? p=some v:=fun p v hp=>m1 hl2 c8 (H2.snd p v hp)
 have hS3:∀ p v,M2 p=some v→¬(ef κ2 τ2.h p.block∨p.block=l∨p.block=D):=fun p v hp=>by
  rintro (⟨id,ob,h1,h2⟩ | h1 | h1)
  · exact H2.sep p v hp id ob h1 h2
  · exact nO hl2 c8 (H2.snd p v hp) h1
  · exact nO hD2 mu (H2.snd p v hp) h1
 refine ⟨⟨κ2,M2,hR.stay (uW hl2 c8 hl) (fun g hg=>World.putObj_heap_other (hb2 g hg).1) hs3,hk,fun _ _ h=>h,World.putObj_heap_same hl3,by rw [World.putObj_heap_other (Ne.symm hld)]; exact hD2,fun g=>Iff.rfl,hb2⟩,?_⟩
 have hc3:=hcm.trans hcp
 exact { os:=hc3.os,tape:=hc3.tape,output:=hc3.output,size:=hc3.size
         block:=fun g hg hn=>by
          have:g≠l:=fun e=>hn ((hS g).2 (.inr (.inl e)))
          rw [World.putObj_heap_other this]
          exact hW g hg (fun hb=>hn ((hS g).2 (.inl hb))) this
         siz:=hc3.siz
         mem:=fun p v hp=>H2.sub.sub p v (h.mem p v hp)
         snd:=hs3
         new:=fun p v hp=>by
          rcases H2.new p v hp with h1 | h1
          · rcases h.new p v h1 with h2 | h2 | h2
            · exact .inl h2
            · exact .inr (.inl h2)
            · exact .inr (.inr ((hS _).2 (.inl h2)))
          · rcases h.own _ h1 with h2 | h2
            · exact .inr (.inl h2)
            · exact .inr (.inr ((hS _).2 (.inl h2)))
         sep:=hS3
         sub:=fun g hg=>by
          rcases hg with hg | hg | hg
          · exact (hbk g hg).elim .inr fun h=>.inl ((hS g).2 (.inl h))
          · exact .inl ((hS g).2 (.inr (.inl hg)))
          · exact .inl ((hS g).2 (.inr (.inr hg)))
         lt:=fun g hg=>by
          rw [World.putObj_size]
          rcases hg with ⟨id,ob,h1,h2⟩ | hg | hg
          · exact (H2.blk_lt h1 h2).2
          · rw [hg]; exact hl3
          · rw [hg]; exact (Array.getElem?_eq_some_iff.1 hD2).1 }
theorem Ln (hmx:P.follows .mixedOrders=true) (hJ:B.J=noJ) {ks:List Nat} {ps:Array Nat} {assign body:Code} {xa xb:AC} (hLa:LC P N ks assign xa) (hLb:LC P N ks body xb) {l D fnid:Nat} (hl:B.n≤l) (hld:l≠D)
 (hps:∀ t∈ps.toList,t < N∧t ∉ ks) {full:List (V × Bool)} {st:Nat→St} {stx:St} (hlen:∀ (i:Nat) (us:List V) (b:Bool),full[i]?=some (.tup us,b)→us.length=ps.size) (hfull:∀ (i:Nat) (v:V),full[i]?=some (v,false)→i + 1=full.length)
 (hround:∀ (i:Nat) (us:List V) (b:Bool),full[i]?=some (.tup us,b)→W (Cn P) xa (Ex.then (W (Cn P) xb (GE st stx ks i b)) (fun _ _=>False)) ⟨ui ps.toList us (st i).r,(st i).h⟩)
 {Mst:Mem} {Bit:Bas} (hBJ:Bit.J=TR N M0 B w0 a ks l D full st stx (mC fnid a ps assign body D)) (hMst:∀ p v,Mst p=some v→M0 p=some v∨B.own p.block) (hown:∀ g,Bit.own g→B.own g):jh P Mst Bit:=by
 intro k us b rest S Mm W cs hjj hMs hsep hnew hus o a' Nx Q ρ hN
 rw [hBJ] at hjj
 obtain ⟨rfl,(⟨i,hd,hi,htr,κi,Mi,H,hk,hm,hlW,hDW,hS,hlD⟩ | ⟨h0,_⟩)⟩:=hjj
 · have hfi:full[i]?=some (.tup us,b):=by
    have:(full.drop i)[0]?=some (.tup us,b):=by rw [←hd]; rfl
    simpa using this
   have hrest:rest=full.drop (i + 1):=by
    have:(full.drop i).drop 1=rest:=by rw [←hd]; rfl
    rw [←this,List.drop_drop]
   have hil:i < full.length:=(List.getElem?_eq_some_iff.1 hfi).1
   have hsz:cs.size=ps.size:=by
    have:=aA hus
    rw [←hlen i us b hfi,←this]; simp
   rw [run_yield hlW hsz,Oper.uponIn_round]
   have hlw:k < W.heap.size:=(Array.getElem?_eq_some_iff.1 hlW).1
   refine ⟨fun h=>(by cases h),EA hmx hJ hLa hLb H hm hlW hlD rfl hMs (fun p v hp hb=>hsep p v hp ((hS _).2 (.inl hb))) hus hps (hround i us b hfi) ?_⟩
   intro e τ2 κ2 M1 M2 a2 W1 W2 B2 hp hMid hps2 hcs2 hfb2 hJ2 H2 hl2
   have hnew':∀ p v,Mm p=some v→M0 p=some v∨B.own p.block:=fun p v hp=>(hnew p v hp).elim (hMst p v) fun h=>.inr (hown _ h)
   cases e with
   | norm=>
     obtain ⟨rfl,ms,τ',h1,h2⟩:=hp
     obtain ⟨κ3,M3,H3⟩:=H2.mats h1
     have H4:=H3.nrm' ks
     have hk4:∀ t v,lk (st (i + 1)).r t=some v→t∈ks:=fun t v h=>Hw (by rw [h2]; exact h)
     rw [h2] at H4
     obtain ⟨hE,hst⟩:=AQ (r2:=mC fnid a ps assign body D .ready none) hJ H hm hnew' hl hld hS hlD hlw hDW hMid hps2 hcs2 hfb2 hJ2 H4 hk4 hl2
     refine ⟨_,_,run_endRound none hl2,hN _ _ _ ?_ hst⟩
     rw [hBJ]
     refine ⟨rfl,.inl ⟨i + 1,hrest,hil,fun j v b' hj hjb=>?_,hE⟩⟩
     rcases Nat.lt_or_ge j i with h | h
     · exact htr j v b' h hjb
     · obtain rfl:j=i:=by omega
       rw [hfi] at hjb
       cases hjb; rfl
   | ret=>
     obtain ⟨rfl,ms,τ',h1,h2⟩:=hp
     obtain ⟨κ3,M3,H3⟩:=H2.mats h1
     have H4:=H3.nrm' ks
     have hk4:∀ t v,lk stx.r t=some v→t∈ks:=fun t v h=>Hw (by rw [h2]; exact h)
     rw [h2] at H4
     obtain ⟨hE,hst⟩:=AQ (r2:=mC fnid a ps assign body D .done (some .ret)) hJ H hm hnew' hl hld hS hlD hlw hDW hMid hps2 hcs2 hfb2 hJ2 H4 hk4 hl2
     refine ⟨_,_,run_endRound (some .ret) hl2,hN _ _ _ ?_ hst⟩
     rw [hBJ]
     refine ⟨rfl,.inr ⟨?_,⟨i,_,hfi⟩,hE⟩⟩
     rw [hrest,List.drop_eq_nil_iff,hfull i _ hfi]
     exact Nat.le_refl _
   | exit id=>exact hp.elim
   | goto t=>exact hp.elim
 · cases h0
theorem Lm {ks:List Nat} {l D:Nat} {full:List (V × Bool)} {st:Nat→St} {stx:St} {rec:LoopState→Option Code→Loop} {Bit:Bas} (hBJ:Bit.J=TR N M0 B w0 a ks l D full st stx rec) (hn:B.n≤Bit.n) (hown:∀ g,Bit.own g→B.own g):xU Bit:=by
 intro k ann S Mm Mm' W W' hj hu hS hm hs
 rw [hBJ] at hj ⊢
 have hu':Und B W W':=⟨hu.os,hu.tape,hu.output,hu.size,fun g hg hs=>hu.block g (by omega) (fun h=>(hown g (.inr h)).elim (fun h=>by omega) hs),hu.siz⟩
 obtain ⟨rfl,(⟨i,h1,h2,h3,h4⟩ | ⟨h1,h2,h4⟩)⟩:=hj
 · exact ⟨rfl,.inl ⟨i,h1,h2,h3,h4.stay hu' hS hm hs⟩⟩
 · exact ⟨rfl,.inr ⟨h1,h2,h4.stay hu' hS hm hs⟩⟩
abbrev ip (D:Nat):Deferred:={ target:=.collected D,args:=#[] }
def dqB (B:Bas) (D:Nat):Bas:=⟨B.n,B.S,B.ps,B.cs,B.fb,fun _ l S _ w=>l=[]∧(∀ g,S g↔g=D)∧w.heap[D]?=some (.deferred (some [])),ip D::B.df⟩
theorem NM {D:Nat} {Mst:Mem}:jh P Mst (dqB B D):=fun _ _ _ _ _ _ _ _ h=>by cases h.1
theorem NL {D:Nat}:xU (dqB B D):=fun k l S M M' w w' h hu hS _ _=>⟨h.1,h.2.1,by rw [hS D ((h.2.1 D).2 rfl)]; exact h.2.2⟩
theorem So {B':Bas} {X:V→Value→Prop} {id:Nat} {ob:Ob} (hJ:B.J=noJ) (ho:∀ g,κ.bl id g→B'.own g) (h:az κ M X B w id ob):az κ M X B' w id ob:=by
 cases ob with
 | gh l=>obtain ⟨k,_,h1,_⟩:=h; rw [hJ] at h1; exact h1.elim
 | box cs=>exact dF (B:=B) (B':=⟨B'.n,B'.S,B'.ps,B'.cs,B'.fb,B.J,B'.df⟩) ho rfl h
 | arr e sz l=>exact dF (B:=B) (B':=⟨B'.n,B'.S,B'.ps,B'.cs,B'.fb,B.J,B'.df⟩) ho rfl h
 | mat e e2 sz l=>exact dF (B:=B) (B':=⟨B'.n,B'.S,B'.ps,B'.cs,B'.fb,B.J,B'.df⟩) ho rfl h
 | mp kt l=>exact dF (B:=B) (B':=⟨B'.n,B'.S,B'.ps,B'.cs,B'.fb,B.J,B'.df⟩) ho rfl h
 | itr s p=>exact dF (B:=B) (B':=⟨B'.n,B'.S,B'.ps,B'.cs,B'.fb,B.J,B'.df⟩) ho rfl h
theorem Rel.dq {D:Nat} (hJ:B.J=noJ) (H:Rel N M0 B w0 κ M σ a w) (hD:w.heap[D]?=some (.deferred (some []))) (hn:B.n≤D) (hb:∀ g,ef κ σ.h g→g≠D):
 Rel N M0 (dqB B D) w0 (bP κ σ.h.length (.func (.yield 0) #[] #[]) (fun _=>Go.undef) (fun g=>g=D)) M ⟨σ.r,σ.h++[some (.gh [])]⟩ { a with defers:=ip D::a.defers } w:=by
 have H':Rel N M0 (dqB B D) w0 κ M σ { a with defers:=ip D::a.defers } w:=
  { dfr:=by show ip D::a.defers=ip D::B.df; rw [H.dfr]
    jst:=NL,pin:=H.pin,size:=H.size,regs:=H.regs
    heap:=fun id ob h=>So hJ (fun g hg=>(H.blk_lt h hg).1) (H.heap id ob h)
    inj:=H.inj,snd:=H.snd,sep:=H.sep,sub:=⟨H.sub.sub,H.sub.fmS,H.sub.fmN,H.sub.fbn,H.sub.gl⟩,new:=H.new,base:=H.base
    blw:=⟨H.blw.os,H.blw.tape,H.blw.output,H.blw.size,H.blw.block,H.blw.siz⟩ }
 refine H'.newOb' (w':=w) (Below.refl _ _) (fun g hg j oj hj hj'=>hb g ⟨j,oj,hj,hj'⟩ hg) (fun p v hp hg=>nO hD mu (H.snd p v hp) hg) ?_
 simp only [az]
 rw [ba,aG]
 exact ⟨0,rfl,⟨rfl,fun g=>Iff.rfl,hD⟩,fun g hg=>⟨by rw [hg]; exact .inl hn,by rw [hg]; exact (Array.getElem?_eq_some_iff.1 hD).1⟩⟩
theorem Calls.mono' {f:FuncId} {args:Array Value} {R R':Ending→World→Prop} (h:Calls P f args w R) (hr:∀ e w',R e w'→R' e w'):Calls P f args w R':=h.mono hr
theorem JX (hmx:P.follows .mixedOrders=true) (hJ:B.J=noJ) (H:Rel N M0 B w0 κ M σ a w) {ks:List Nat} {ps:Array Nat} {assign body:Code} {xa xb:AC} (hLa:LC P N ks assign xa) (hLb:LC P N ks body xb)
 (hps:∀ t∈ps.toList,t < N∧t ∉ ks) {full:List (V × Bool)} {st:Nat→St} {stx:St} (hlen:∀ (i:Nat) (us:List V) (b:Bool),full[i]?=some (.tup us,b)→us.length=ps.size) (hfull:∀ (i:Nat) (v:V),full[i]?=some (v,false)→i + 1=full.length)
 (hround:∀ (i:Nat) (us:List V) (b:Bool),full[i]?=some (.tup us,b)→W (Cn P) xa (Ex.then (W (Cn P) xb (GE st stx ks i b)) (fun _ _=>False)) ⟨ui ps.toList us (st i).r,(st i).h⟩)
 {g:Operand} {g':AO} {tg:TypeId} (hg:cO P tg g=some g') {gf:FuncId} {id:Nat} {cs cs':List V} (hgv:σ.ev g'=some (.fn (.func gf) [] [.ptr id 0])) (hbx:σ.h[id]?=some (some (.box cs))) (hcs:purs [] cs=some cs')
 (hid:id ∉ σ.ids ks) (hst0:σ.nrm ks=st 0) (hen:∀ args w,(callFunc gf args).run P w=.ok (.enter gf args) w)
 (hF:FnH P gf [0] [.ref 0 0,.ptr 1 0] [some (.gh full),some (.box cs')] (.tup []) [some (.gh [])])
 {Q:Exit→Act→World→Prop}
 (hdone:(∀ p∈full,p.2=true)→∀ κ' M' w' D,Rel N M0 (dqB B D) w0 κ' M' ⟨(st full.length).r,(st full.length).h++[some (.gh [])]⟩ { a with defers:=ip D::a.defers } w'→Q .normal { a with defers:=ip D::a.defers } w')
 (hstop:(∃ p∈full,p.2=false)→∀ κ' M' w' D,Rel N M0 (dqB B D) w0 κ' M' ⟨stx.r,stx.h++[some (.gh [])]⟩ { a with defers:=ip D::a.defers } w'→Q .ret { a with defers:=ip D::a.defers } w'):
 (Code.rangeFunc g ps assign body).wpIn (FR none) 0 P Q a w:=by
 refine wpIn_rangeFunc ?_
 intro fnid hfn
 obtain ⟨D,hDe⟩:∃ D,w.heap.size=D:=⟨_,rfl⟩
 obtain ⟨l,hle⟩:∃ l,w.heap.size + 1=l:=⟨_,rfl⟩
 obtain ⟨W1,hW1⟩:∃ W1,(w.alloc (.deferred (some []))).alloc (.loop (mC fnid a ps assign body D .ready none))=W1:=⟨_,rfl⟩
 have hent:=run_enterLoop_outer (P:=P) (w:=w) fnid a.tmps ps assign body
 rw [hDe,show D + 1=l by omega] at hent
 have hent':(Instr.enterLoop fnid a.tmps ps assign body (FR none).round).run P w=.ok (l,[ip D]) W1:=by rw [←hW1]; exact hent
 have hL1:W1.heap[l]?=some (.loop (mC fnid a ps assign body D .ready none)):=by
  rw [←hW1,←hle]; have:=World.alloc_heap_new (w.alloc (.deferred (some []))) (.loop (mC fnid a ps assign body D .ready none)); rwa [World.size_alloc] at this
 have hD1:W1.heap[D]?=some (.deferred (some [])):=by
  rw [←hW1,←hDe]; exact (Below.heap_alloc _ _ _ (by simp)).trans (World.alloc_heap_new w _)
 have hbel:Below w.heap.size w W1:=by
  rw [←hW1]; exact (((Below.refl _ w).alloc (Nat.le_refl _) _).alloc (by simp) _)
 have hBn:B.n≤w.heap.size:=by rw [H.base]; exact H.blw.size
 have hfv:=H.op hg hgv
 simp only [rep] at hfv
 obtain ⟨a1,a2,hev,hr1,hr2⟩:=hfv
 simp only [ae] at hr1 hr2
 have ha1:a1=#[]:=by cases a1; simp at hr1; rw [hr1]
 obtain ⟨c,c',hr2,hc,rfl⟩:=hr2
 have ha2:a2=#[c]:=by cases a2; simp at hr2; rw [hr2]
 subst ha1 ha2
 have hc':=hc
 simp only [rep,XX] at hc
 obtain ⟨b0,hb1,hb2⟩:=hc.2.2 cs hbx
 subst hb2
 -- the state at the start
 have H1:=H.grow0 hbel
 have H2:=H1.nrm' ks
 rw [hst0] at H2
 have hk0:∀ t v,lk (st 0).r t=some v→t∈ks:=fun t v h=>Hw (by rw [hst0]; exact h)
 have hbl0:∀ g,ef (κ.ren (σ.ids ks)) (st 0).h g→∃ j ob,j≠id∧σ.h[j]?=some (some ob)∧κ.bl j g:=by
  rintro g ⟨j,ob,h1,h2⟩
  rw [←hst0,Hk] at h1
  obtain ⟨i,ob',g1,g2,_⟩:=fF h1
  refine ⟨i,ob',fun e=>hid (e ▸ List.mem_of_getElem? g1),g2,?_⟩
  simpa [Kap.ren,List.getD,g1] using h2
 have hlD0:∀ g,ef (κ.ren (σ.ids ks)) (st 0).h g→g≠l∧g≠D:=fun g hg=>by
  obtain ⟨j,ob,_,h1,h2⟩:=hbl0 g hg
  have:=(H.blk_lt h1 h2).2
  omega
 let S0:Nat→Prop:=fun g=>ef (κ.ren (σ.ids ks)) (st 0).h g∨g=l∨g=D
 let κit:Kap:=⟨fun j=>if j=0 then .func (.yield l) #[] #[] else κ id,fun _ _=>Go.undef,fun j=>if j=0 then S0 else κ.bl id,fun _=>none⟩
 let J:=TR N M0 B w0 a ks l D full st stx (mC fnid a ps assign body D)
 let Hit:List (Option Ob):=[some (.gh full),some (.box cs')]
 let Bit:Bas:=cT κit Hit W1 [0] (#[.func (.yield l) #[] #[]]++#[Value.pointer (some ⟨b0,0,none⟩)]) J
 have hWs:W1.heap.size=w.heap.size + 2:=by rw [←hW1]; simp
 have hown:∀ g,Bit.own g→B.own g:=by
  rintro g (h | ⟨j,ob,h1,h2⟩)
  · have h:W1.heap.size≤g:=h
    exact .inl (by omega)
  · match j,h1,h2 with
    | 0,h1,h2=>
      have h2:S0 g:=h2
      rcases h2 with h2 | h2 | h2
      · obtain ⟨j,ob,_,h3,h4⟩:=hbl0 g h2; exact (H.blk_lt h3 h4).1
      · exact .inl (by omega)
      · exact .inl (by omega)
    | 1,h1,h2=>
      have h2:κ.bl id g:=h2
      exact (H.blk_lt hbx h2).1
    | j + 2,h1,h2=>simp [Hit] at h1
 have hpre:Heap κit M Bit W1 Hit:=
  { heap:=fun j ob hj=>by
     match j,hj with
     | 0,hj=>
       have:ob=.gh full:=by simpa [Hit] using hj.symm
       subst this
       refine ⟨l,rfl,⟨rfl,.inl ⟨0,rfl,Nat.zero_le _,fun j v b h=>absurd h (Nat.not_lt_zero _),_,M,H2,hk0,fun _ _ h=>h,hL1,hD1,fun g=>Iff.rfl,hlD0⟩⟩,fun g hg=>⟨.inr ⟨0,_,rfl,hg⟩,?_⟩⟩
       have hg:S0 g:=hg
       rcases hg with hg | hg | hg
       · obtain ⟨j,ob,_,h3,h4⟩:=hbl0 g hg
         have:=(H.blk_lt h3 h4).2; omega
       · omega
       · omega
     | 1,hj=>
       have:ob=.box cs':=by simpa [Hit] using hj.symm
       subst this
       have ho:=H1.heap id _ hbx
       simp only [az] at ho
       obtain ⟨b,arr,T,h1,h2,h3,h4,h5,h6⟩:=ho
       have h7:=bf H1 (fun _ _ h=>h) (fun i hi=>by rw [(ek hcs).1] at hi; cases hi) h4 ((ek hcs).2 σ.h)
       exact ⟨b,arr,T,h1,.inr ⟨1,_,rfl,(h6 b).2 rfl⟩,h3,aR (fun _ _ h=>h) (fun _ _ h=>h.elim) _ _ h7,h5,h6⟩
     | j + 2,hj=>simp [Hit] at hj
    inj:=fun i j oi oj g hi hj gi gj=>by
     have key:∀ g,S0 g→κ.bl id g→False:=fun g h1 h2=>by
      have:=(H.blk_lt hbx h2).2
      rcases h1 with h1 | h1 | h1
      · obtain ⟨j,ob,h3,h4,h5⟩:=hbl0 g h1
        exact h3 (H.inj j id ob _ g h4 hbx h5 h2)
      · omega
      · omega
     match i,j,hi,hj,gi,gj with
     | 0,0,_,_,_,_=>rfl
     | 1,1,_,_,_,_=>rfl
     | 0,1,_,_,gi,gj=>exact (key g gi gj).elim
     | 1,0,_,_,gi,gj=>exact (key g gj gi).elim
     | i + 2,_,hi,_,_,_=>simp [Hit] at hi
     | _,j + 2,_,hj,_,_=>simp [Hit] at hj
    snd:=H1.snd
    sep:=fun p v hp j ob hj hg=>by
     have:=H.mem_lt hp
     match j,hj,hg with
     | 0,_,hg=>
       have hg:S0 p.block:=hg
       rcases hg with hg | hg | hg
       · obtain ⟨j,ob,_,h3,h4⟩:=hbl0 _ hg; exact H.sep p v hp j ob h3 h4
       · omega
       · omega
     | 1,_,hg=>exact H.sep p v hp id _ hbx hg
     | j + 2,hj,_=>simp [Hit] at hj
    fmS:=fun _ _ h=>by cases h
    gl:=H.sub.gl.mono H.sub.sub
    jst:=Lm (Bit:=Bit) rfl (by show B.n≤W1.heap.size; omega) hown }
 have hJC:jh P M Bit:=Ln hmx hJ hLa hLb (by omega) (by omega) hps hlen hfull hround rfl H.new hown
 have hus:ae M (XX κit Hit) [.ref 0 0,.ptr 1 0] (#[Value.func (.yield l) #[] #[]]++#[Value.pointer (some ⟨b0,0,none⟩)]).toList:=by
  simp only [ae,rep,XX]
  refine ⟨_,_,rfl,⟨rfl,by simp [Hit],fun e sz l h=>by simp [Hit] at h,fun e e2 sz l h=>by simp [Hit] at h,fun o ho hn=>rfl⟩,_,_,rfl,⟨rfl,by simp [Hit],fun cs1 h1=>⟨b0,hb1,rfl⟩⟩,rfl⟩
 refine ⟨l,[ip D],W1,{ target:=.fn (.func gf) #[Value.pointer (some ⟨b0,0,none⟩)],args:=#[.func (.yield l) #[] #[]] },W1,gf,#[.func (.yield l) #[] #[]]++#[Value.pointer (some ⟨b0,0,none⟩)],W1,hent',?_,fun _ _=>trivial,?_,fun h=>(by cases h),?_⟩
 · simp only [resolve,hev]
   simp [go_sem]
 · simp [invoke,go_sem,hen]
 · have hcall:=hF M W1 κit _ J hJC hpre hus (default:Oper) a (fun _ w''=>rangePost (FR none) 0 P l Q { a with defers:=[ip D]++a.defers } (.returned Go.undef) w'') (fun _ _ _=>False) (fun c2 M' w' κ' hr hu hh hM1 hM2 hpin=>?_)
   · rw [hen,Oper.upon_enter] at hcall
     refine xJ (Calls.mono' hcall ?_)
     intro e w'' he
     cases e with
     | returned v=>exact he
     | panicked chain=>exact he.elim
     | outgrown=>obtain ⟨_,_,h⟩:=he; exact h.elim
   · obtain ⟨k,hk1,⟨rfl,hj⟩,hk3⟩:=hh.heap 0 _ rfl
     rcases hj with ⟨i,hd,hi,htr,κi,Mi,Hi,hki,hmi,hlW,hDW,hS,hlD⟩ | ⟨_,⟨j,v,hjv⟩,κi,Mi,Hi,hki,hmi,hlW,hDW,hS,hlD⟩
     · have hie:i=full.length:=by have:=List.drop_eq_nil_iff.1 hd.symm; omega
       subst hie
       refine ⟨none,_,run_endLoop hlW (by simp [mC]),?_⟩
       have Hs:=Hi.stay (uW (o':=.loop { mC fnid a ps assign body D .ready none with state:=.exhausted }) hlW c8 (by omega)) (fun g hg=>World.putObj_heap_other (hlD g hg).1) (fun p v hp=>m1 hlW c8 (Hi.snd p v hp))
       refine hdone (fun p hp=>?_) _ _ _ D (Hs.dq hJ (by rw [World.putObj_heap_other (by omega)]; exact hDW) (by omega) (fun g hg=>(hlD g hg).2))
       obtain ⟨j,hj,hjp⟩:=List.getElem_of_mem hp
       exact htr j p.1 p.2 hj (by rw [List.getElem?_eq_getElem hj,hjp])
     · refine ⟨some .ret,_,run_endLoop hlW (by simp [mC]),?_⟩
       have Hs:=Hi.stay (uW (o':=.loop { mC fnid a ps assign body D .done (some .ret) with state:=.exhausted }) hlW c8 (by omega)) (fun g hg=>World.putObj_heap_other (hlD g hg).1) (fun p v hp=>m1 hlW c8 (Hi.snd p v hp))
       exact wpIn_ret (hstop ⟨_,List.mem_of_getElem? hjv,rfl⟩ _ _ _ D (Hs.dq hJ (by rw [World.putObj_heap_other (by omega)]; exact hDW) (by omega) (fun g hg=>(hlD g hg).2)))
end
def F4:Code→List Code
 | .seq a b=>F4 a++F4 b
 | c=>[c]
def wpL (F:Fence) (n:Nat) (P:Program):List Code→(Exit→Act→World→Prop)→Act→World→Prop
 | [],Q,a,w=>Q .normal a w
 | c::l,Q,a,w=>c.wpIn F n P (Exit.then (wpL F n P l Q) Q) a w
section
variable {F:Fence} {n:Nat} {P:Program}
theorem pz {m:List Code} {Q:Exit→Act→World→Prop}:∀ (l:List Code),wpL F n P (l++m) Q=wpL F n P l (Exit.then (wpL F n P m Q) Q)
 | []=>by funext a w; rfl
 | c::l=>by
   funext a w
   simp only [List.cons_append,wpL]
   rw [pz l]
   congr 1
   funext e
   cases e<;>rfl
theorem Ls (c:Code):∀ {Q:Exit→Act→World→Prop} {a:Act} {w:World},wpL F n P (F4 c) Q a w→c.wpIn F n P Q a w:=by
 have one:∀ (c:Code) {Q:Exit→Act→World→Prop} {a:Act} {w:World},wpL F n P [c] Q a w→c.wpIn F n P Q a w:=fun c Q a w h=>wpIn_mono h fun e a w h=>by cases e<;>exact h
 induction c with
 | seq x y ihx ihy=>
   intro Q a w h
   rw [F4,pz] at h
   exact wpIn_seq (wpIn_mono (ihx h) fun e a w h=>by
    cases e with
    | normal=>exact ihy h
    | _=>exact h)
 | _=>exact one _
end
def uh:List AC→AC
 | []=>.skip
 | x::xs=>.seq x (uh xs)
inductive LCl (P:Program) (N:Nat) (ps:List Nat):List Code→List AC→Prop
 | nil:LCl P N ps [] []
 | cons {c x l xs}:LC P N ps c x→LCl P N ps l xs→LCl P N ps (c::l) (x::xs)
section
variable {P:Program} {N:Nat} {M0:Mem} {B:Bas} {w0:World} {κ:Kap} {M:Mem} {σ:St} {a:Act} {w w':World}
theorem GC (hmx:P.follows .mixedOrders=true) (hJC:jh P M0 B) {ρ:Option Nat} {l:List Code} {xs:List AC} (h:LCl P N B.ps l xs):∀ {Q:Exit→Act→World→Prop} {R:Ex→St→Prop},
 (∀ e κ M σ a w,R e σ→Rel N M0 B w0 κ M σ a w→Q e.out a w)→∀ {κ:Kap} {M:Mem} {σ:St} {a:Act} {w:World},Rel N M0 B w0 κ M σ a w→W (Cn P) (uh xs) R σ→wpL (FR ρ) 0 P l Q a w:=by
 induction h with
 | nil=>intro Q R hQ κ M σ a w H hW; exact hQ .norm _ _ _ _ _ hW H
 | cons hc _ ih=>
   intro Q R hQ κ M σ a w H hW
   refine nS hmx hJC hc ?_ H hW
   intro e κ M σ a w hR H
   cases e with
   | norm=>exact ih hQ H hR
   | exit id=>exact hQ (.exit id) _ _ _ _ _ hR H
   | goto l=>exact hQ (.goto l) _ _ _ _ _ hR H
   | ret=>exact hQ .ret _ _ _ _ _ hR H
structure RImg where
 pre:List AC
 g:AO
 ps:List Nat
 xa:AC
 xb:AC
 post:List AC
 rs:List RV
def vt:List Code→List Code→Option (List Code × Nat × Operand × Array Tmp × Code × Code × List Code)
 | _,[]=>none
 | acc,c::l=>match c with
   | .block id (.rangeFunc g ps a b)=>some (acc.reverse,id,g,ps,a,b,l)
   | c=>vt (c::acc) l
theorem tl:∀ {l acc:List Code} {pre post:List Code} {id:Nat} {g:Operand} {ps:Array Tmp} {a b:Code},vt acc l=some (pre,id,g,ps,a,b,post)→acc.reverse++l=pre++.block id (.rangeFunc g ps a b)::post
 | [],_,_,_,_,_,_,_,_,h=>by simp [vt] at h
 | c::l,acc,pre,post,id,g,ps,a,b,h=>by
   unfold vt at h
   split at h
   · cases h; rfl
   · have:=tl h
     simpa using this
def By (P:Program) (N:Nat) (ps E:List Nat):List Code→List (List Nat)→Option (List AC × List (List Nat))
 | [],K=>some ([],K)
 | c::l,K=>match bv P N ps E c K with
   | some (x,K')=>match By P N ps E l K' with
     | some (xs,K'')=>some (x::xs,K'')
     | none=>none
   | none=>none
theorem qj {ps E:List Nat}:∀ {l:List Code} {K K':List (List Nat)} {xs:List AC},By P N ps E l K=some (xs,K')→LCl P N ps l xs
 | [],K,K',xs,h=>by simp only [By,Option.some.injEq,Prod.mk.injEq] at h; rw [←h.1]; exact .nil
 | c::l,K,K',xs,h=>by
   simp only [By] at h
   split at h
   · rename_i x K1 h1
     split at h
     · rename_i xs' K2 h2
       cases h
       exact .cons (dz h1) (qj h2)
     · cases h
   · cases h
def CC (P:Program) (fn:Func) (E ks:List Nat) (K:List (List Nat)) (n:Nat):Option RImg:=
 match fn.body with
 | some c=>match vt [] (F4 c) with
   | some (pre,_,g,ps,a,b,post)=>match By P fn.ntmps [] E pre K with
     | some (xs,K1)=>match bv P fn.ntmps ks E a K1 with
       | some (xa,K2)=>match bv P fn.ntmps ks E b K2 with
         | some (xb,K3)=>match By P fn.ntmps [] E post K3,cO P 0 g,s5 P fn.results.toList with
           | some (ys,[]),some g',some rs=>if (fn.name == "runtime.NumGoroutine")=false∧n≤fn.ntmps∧ps.toList.all (fun t=>decide (t < fn.ntmps) && !(fM t ks))=true then some ⟨xs,g',ps.toList,xa,xb,ys,rs⟩ else none
           | _,_,_=>none
         | none=>none
       | none=>none
     | none=>none
   | none=>none
 | none=>none
def ID (P:Program) (g:AO) (ks:List Nat) (full:List (V × Bool)) (s0:St):Ex→St→Prop
 | .norm,σ=>∃ (gf:FuncId) (id:Nat) (cs cs':List V),σ.ev g=some (.fn (.func gf) [] [.ptr id 0])∧σ.h[id]?=some (some (.box cs))∧purs [] cs=some cs'∧fM id (σ.ids ks)=false∧σ.nrm ks=s0∧
    (∀ args w,(callFunc gf args).run P w=.ok (.enter gf args) w)∧FnH P gf [0] [.ref 0 0,.ptr 1 0] [some (.gh full),some (.box cs')] (.tup []) [some (.gh [])]
 | _,_=>False
def FE:List (Option Ob)→Bool
 | []=>false
 | some (.gh [])::_=>true
 | _::h=>FE h
theorem Bj:∀ {h:List (Option Ob)},FE h=true→∃ id:Nat,h[id]?=some (some (.gh []))
 | [],h=>by simp [FE] at h
 | x::l,h=>by
   unfold FE at h
   split at h
   · rename_i e; cases e
   · rename_i e; cases e; exact ⟨0,rfl⟩
   · rename_i e; cases e; obtain ⟨id,hi⟩:=Bj h; exact ⟨id + 1,by simpa using hi⟩
def TG (rs:List RV) (r:V) (e:Ex) (σ:St):Prop:=Res rs (·=r) e σ∧FE σ.h=true
theorem P4 {B':Bas} {X:V→Value→Prop} {id:Nat} {ob:Ob} (hng:∀ l,ob≠.gh l) (hw:∀ g,κ.bl id g→w'.heap[g]?=w.heap[g]?) (hc:Calm w w') (hs:∀ p v,M p=some v→w'.cell? p=some v) (ho:∀ g,κ.bl id g→B'.own g)
 (h:az κ M X B w id ob):az κ M X B' w' id ob:=by
 cases ob with
 | gh l=>exact (hng l rfl).elim
 | box cs=>
   have h':az κ M X ⟨B.n,B.S,B.ps,B.cs,B.fb,noJ,B.df⟩ w id (.box cs):=h
   have h2:az κ M X ⟨B'.n,B'.S,B'.ps,B'.cs,B'.fb,noJ,B'.df⟩ w' id (.box cs):=g9 (B:=⟨B.n,B.S,B.ps,B.cs,B.fb,noJ,B.df⟩) rfl (fun _ _ h=>h) hw hc hs ho rfl h'
   exact h2
 | arr e sz l=>
   have h':az κ M X ⟨B.n,B.S,B.ps,B.cs,B.fb,noJ,B.df⟩ w id (.arr e sz l):=h
   have h2:az κ M X ⟨B'.n,B'.S,B'.ps,B'.cs,B'.fb,noJ,B'.df⟩ w' id (.arr e sz l):=g9 (B:=⟨B.n,B.S,B.ps,B.cs,B.fb,noJ,B.df⟩) rfl (fun _ _ h=>h) hw hc hs ho rfl h'
   exact h2
 | mat e e2 sz l=>
   have h':az κ M X ⟨B.n,B.S,B.ps,B.cs,B.fb,noJ,B.df⟩ w id (.mat e e2 sz l):=h
   have h2:az κ M X ⟨B'.n,B'.S,B'.ps,B'.cs,B'.fb,noJ,B'.df⟩ w' id (.mat e e2 sz l):=g9 (B:=⟨B.n,B.S,B.ps,B.cs,B.fb,noJ,B.df⟩) rfl (fun _ _ h=>h) hw hc hs ho rfl h'
   exact h2
 | mp kt l=>
   have h':az κ M X ⟨B.n,B.S,B.ps,B.cs,B.fb,noJ,B.df⟩ w id (.mp kt l):=h
   have h2:az κ M X ⟨B'.n,B'.S,B'.ps,B'.cs,B'.fb,noJ,B'.df⟩ w' id (.mp kt l):=g9 (B:=⟨B.n,B.S,B.ps,B.cs,B.fb,noJ,B.df⟩) rfl (fun _ _ h=>h) hw hc hs ho rfl h'
   exact h2
 | itr s p=>
   have h':az κ M X ⟨B.n,B.S,B.ps,B.cs,B.fb,noJ,B.df⟩ w id (.itr s p):=h
   have h2:az κ M X ⟨B'.n,B'.S,B'.ps,B'.cs,B'.fb,noJ,B'.df⟩ w' id (.itr s p):=g9 (B:=⟨B.n,B.S,B.ps,B.cs,B.fb,noJ,B.df⟩) rfl (fun _ _ h=>h) hw hc hs ho rfl h'
   exact h2
theorem Rel.shut {D:Nat} {id:Nat} (H:Rel N M0 (dqB B D) w0 κ M σ a w) (hid:σ.h[id]?=some (some (.gh []))) (hn:B.n≤D):
 Rel N M0 ⟨B.n,B.S,B.ps,B.cs,B.fb,fun _ l _ _ _=>l=[],ip D::B.df⟩ w0 κ M σ a (w.putObj D (.deferred none)):=by
 obtain ⟨k,_,⟨_,hS,hD⟩,_⟩:=H.heap id _ hid
 have hs:∀ p v,M p=some v→(w.putObj D (.deferred none)).cell? p=some v:=fun p v hp=>m1 hD mu (H.snd p v hp)
 have hc:=xI (o':=.deferred none) hD mu
 exact
 { dfr:=H.dfr,jst:=fun _ _ _ _ _ _ _ h _ _ _ _=>h,pin:=H.pin,size:=H.size,regs:=H.regs
   heap:=fun j ob h=>by
    by_cases hg:∃ l,ob=.gh l
    · obtain ⟨l,rfl⟩:=hg
      obtain ⟨k',h1,⟨h2,_,_⟩,h4⟩:=H.heap j _ h
      exact ⟨k',h1,h2,fun g hg=>⟨(h4 g hg).1,by rw [World.putObj_size]; exact (h4 g hg).2⟩⟩
    · refine P4 (B:=dqB B D) (fun l e=>hg ⟨l,e⟩) (fun g hb=>World.putObj_heap_other (fun e=>?_)) hc hs (fun g hb=>(H.blk_lt h hb).1) (H.heap j ob h)
      subst e
      have:=H.inj id j _ ob g hid h ((hS g).2 rfl) hb
      subst this
      rw [hid] at h
      cases h
      exact hg ⟨_,rfl⟩
   inj:=H.inj,snd:=hs,sep:=H.sep,sub:=⟨H.sub.sub,H.sub.fmS,H.sub.fmN,H.sub.fbn,H.sub.gl⟩,new:=H.new,base:=H.base
   blw:=(⟨H.blw.os,H.blw.tape,H.blw.output,H.blw.size,H.blw.block,H.blw.siz⟩:Und ⟨B.n,B.S,B.ps,B.cs,B.fb,fun _ l _ _ _=>l=[],ip D::B.df⟩ w0 w).trans (uW hD mu hn) }
theorem FnE.of_rng {f:FuncId} {fn:Func} {us:List V} {r:V} {E ks:List Nat} {K:List (List Nat)} {n:Nat} {im:RImg} (hm:P.follows .mixedOrders=true) (hf:P.funcs[f]?=some fn) (hi:CC P fn E ks K n=some im) (hun:us.length=n)
 {full:List (V × Bool)} {st:Nat→St} {stx:St} (hlen:∀ (i:Nat) (us:List V) (b:Bool),full[i]?=some (.tup us,b)→us.length=im.ps.length) (hfull:∀ (i:Nat) (v:V),full[i]?=some (v,false)→i + 1=full.length)
 (hpre:oks us→W (Cn P) (uh im.pre) (ID P im.g ks full (st 0)) ⟨ent 0 us,[]⟩)
 (hround:∀ (i:Nat) (us:List V) (b:Bool),full[i]?=some (.tup us,b)→W (Cn P) im.xa (Ex.then (W (Cn P) im.xb (GE st stx ks i b)) (fun _ _=>False)) ⟨ui im.ps us (st i).r,(st i).h⟩)
 (hdone:(∀ p∈full,p.2=true)→W (Cn P) (uh im.post) (TG im.rs r) ⟨(st full.length).r,(st full.length).h++[some (.gh [])]⟩)
 (hstop:(∃ p∈full,p.2=false)→TG im.rs r .ret ⟨stx.r,stx.h++[some (.gh [])]⟩):FnE P f us r:=by
 unfold CC at hi
 split at hi
 rotate_left
 · cases hi
 rename_i c hb
 split at hi
 rotate_left
 · cases hi
 rename_i pre bid g ps ca cb post hsp
 split at hi
 rotate_left
 · cases hi
 rename_i xs K1 hpr
 split at hi
 rotate_left
 · cases hi
 rename_i xa K2 hxa
 split at hi
 rotate_left
 · cases hi
 rename_i xb K3 hxb
 split at hi
 rotate_left
 · cases hi
 rename_i ys g' rs hpo hg hrs
 split at hi
 rotate_left
 · cases hi
 rename_i hcond
 cases hi
 obtain ⟨hname,hnn,hpsa⟩:=hcond
 simp only at hlen hpre hround hdone hstop
 have hps:∀ t∈ps.toList,t < fn.ntmps∧t ∉ ks:=fun t ht=>by
  have:=List.all_eq_true.1 hpsa t ht
  simp only [Bool.and_eq_true,decide_eq_true_eq,Bool.not_eq_true'] at this
  exact ⟨this.1,fun h=>by rw [fL.2 h] at this; simp at this⟩
 refine { call:=fun args w=>?_,does:=fun M w cs hM hus=>?_ }
 · unfold callFunc
   simp only [beq_eq_false_iff_ne,ne_eq] at hname
   simp [Sem.run_bind,hf,hb,hname]
 have hl:cs.size=us.length:=by have:=aA hus; simpa using this
 refine N4 (ρ:=none) (n:=0) (callsIn_of_wp_marks (F:=FR none) hf hb trivial ?_ rfl)
 have H:Rel fn.ntmps M ⟨w.heap.size,fun _=>False,[],#[],w.heap.size,noJ,[]⟩ w ⟨fun _=>Go.undef,fun _ _=>Go.undef,fun _ _=>False,fun _=>none⟩ M ⟨ent 0 us,[]⟩ { tmps:=cs++Array.replicate (fn.ntmps - cs.size) Go.undef,defers:=[] } w:=
  { dfr:=rfl,jst:=jS rfl,pin:=fun i hi=>by cases hi
    size:=by simp; omega
    regs:=fun t v ht=>by
     obtain ⟨_,h2⟩:=wi ht
     simp only [Nat.sub_zero] at h2
     have hlt:t < us.length:=(List.getElem?_eq_some_iff.1 h2).1
     obtain ⟨c,h3,h4⟩:=cF hus h2
     refine ⟨by omega,c,?_,aw (fun _ _ h=>h) (fun _ _ h=>h.elim) _ _ h4⟩
     rw [Array.getElem?_append_left (by omega)]
     simpa using h3
    heap:=fun id ob h=>by simp at h
    inj:=fun i j oi oj g h=>by simp at h
    snd:=hM.snd
    sep:=fun p v _ id ob h=>by simp at h
    sub:=⟨fun _ _ h=>h,fun _ _ h=>(by cases h),fun _ _ h=>(by cases h),Nat.le_refl _,hM.gl⟩
    new:=fun _ _ h=>.inl h
    base:=rfl
    blw:=Und.refl _ _ }
 -- the end
 have fin:∀ (D:Nat) (e:Ex) (κ1:Kap) (M1:Mem) (σ:St) (a:Act) (w1:World),TG rs r e σ→Rel fn.ntmps M (dqB ⟨w.heap.size,fun _=>False,[],#[],w.heap.size,noJ,[]⟩ D) w κ1 M1 σ a w1→
  bodyPostM (FR none) 0 P fn (fun e w'=>∃ (c:Value) (M':Mem),e=.returned c∧rep M' NX r c∧Below w.heap.size w w'∧(∀ p v,M' p=some v→w'.cell? p=some v)∧(∀ p v,M p=some v→M' p=some v)∧∀ p v,M' p=some v→M p=some v∨w.heap.size≤p.block) e.out a w1:=by
  intro D e κ1 M1 σ a w1 hR Hd
  obtain ⟨hR,hgh⟩:=hR
  obtain ⟨gid,hgid⟩:=Bj hgh
  obtain ⟨k,_,⟨_,hS,hD⟩,hown⟩:=Hd.heap gid _ hgid
  have hDn:w.heap.size≤D:=by
   rcases (hown D ((hS D).2 rfl)).1 with h | h
   · exact h
   · exact h.elim
  have H1:=Hd.shut (B:=⟨w.heap.size,fun _=>False,[],#[],w.heap.size,noJ,[]⟩) hgid hDn
  simp only [Res] at hR
  obtain ⟨he,hR⟩:=hR
  split at hR
  · rename_i vs hvs
    split at hR
    · rename_i ws hws
      obtain ⟨ds,k1,k2⟩:=iT hrs H1 hvs
      obtain ⟨H2,hM1⟩:=H1.kill (ah vs) (cG hws)
      have k3:ae (ext M1 (w1.putObj D (.deferred none)) (j9 κ1 (ah vs))) NX ws ds:=by
       refine bf H1 hM1 (fun id hid g hg p hpb=>?_) k1 hws
       unfold ext
       rw [if_pos (cr.2 ⟨id,hid,by rw [hpb]; exact hg⟩)]
      have hleave:LeavesInM (FR none) 0 P fn a.tmps (fun e w'=>∃ (c:Value) (M':Mem),e=.returned c∧rep M' NX r c∧Below w.heap.size w w'∧(∀ p v,M' p=some v→w'.cell? p=some v)∧(∀ p v,M p=some v→M' p=some v)∧∀ p v,M' p=some v→M p=some v∨w.heap.size≤p.block) a.defers .returning w1:=by
       have hdf:a.defers=[ip D]:=Hd.dfr
       rw [hdf]
       refine ⟨by simp,.inl ⟨D,_,rfl,run_takeDeferred hD,?_⟩⟩
       refine ⟨_,k2,_,_,rfl,?_,⟨H1.blw.os,H1.blw.tape,H1.blw.output,H1.blw.size,fun k hk=>H1.blw.block k hk id⟩,H2.snd,H2.sub.sub,fun p v h=>(H2.new p v h).imp_right fun h=>h.elim id False.elim⟩
       subst hR
       exact Eh k3
      cases e with
      | norm=>exact hleave
      | ret=>exact hleave
      | exit id=>exact he.elim
      | goto l=>exact he.elim
    · exact hR.elim
  · exact hR.elim
 refine Ls c ?_
 have hspl:=tl hsp
 simp only [List.reverse_nil,List.nil_append] at hspl
 rw [hspl,pz]
 refine GC hm (jT rfl) (B:=⟨w.heap.size,fun _=>False,[],#[],w.heap.size,noJ,[]⟩) (qj hpr) ?_ H (hpre (cZ hus))
 intro e κ1 M1 σ a w1 hR H1
 cases e with
 | norm=>
   obtain ⟨gf,id,bcs,bcs',e1,e2,e3,e4,e5,e6,e7⟩:=hR
   refine wpIn_block (JX hm rfl H1 (dz hxa) (dz hxb) hps (by simpa using hlen) hfull hround hg e1 e2 e3 (fun h=>by rw [fL.2 h] at e4; cases e4) e5 e6 e7 ?_ ?_)
   · intro hall κ' M' w' D Hd
     refine GC hm NM (B:=dqB ⟨w.heap.size,fun _=>False,[],#[],w.heap.size,noJ,[]⟩ D) (qj hpo) ?_ Hd (hdone hall)
     exact fun e κ M σ a w h1 h2=>fin D e κ M σ a w h1 h2
   · intro hex κ' M' w' D Hd
     exact fin D .ret κ' M' _ _ w' (hstop hex) Hd
 | exit id=>exact hR.elim
 | goto l=>exact hR.elim
 | ret=>exact hR.elim
end
end Go.Abs
end
