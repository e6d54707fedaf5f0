/-
  Short words for the abstract machine's code. No condition.
  A program that goes through images: what it tells is so. For calls whose arguments are all known. No condition.
  A call that hands back the address of a variable that it made, as a call that hands back plain data. No condition.
  A range over a function: what holds behind the iterator, by its contract, and behind the rounds, by their image. No condition.
  A range over a function, whole: the iterator's contract and the rounds' images, tied. No condition.
  A function that goes through a range over a function: its contract, from its images. No condition.
-/
import Derived.Test.YthficpngadcpgaaGreatDoorNAbs8
import Derived.RangeFuncRecord
set_option linter.unusedVariables false
set_option linter.unusedSimpArgs false
set_option linter.unusedSectionVars false
section
namespace Go.Abs
theorem Cn_p {P:Program}:(Cn P).p=Fn P:=rfl
theorem Cn_n {P:Program}:(Cn P).n=FnN P:=rfl
theorem Cn_e {P:Program}:(Cn P).e=FnH P:=rfl
def o1 (d:Nat) (a:Act'):AOp:=⟨some d,a,none⟩
def o0 (a:Act'):AOp:=⟨none,a,none⟩
def gt (t:Nat) (o:AOp):AOp:=⟨o.d,o.a,some (t,true)⟩
def gf (t:Nat) (o:AOp):AOp:=⟨o.d,o.a,some (t,false)⟩
def ts:List Nat→List AO
 | []=>[]
 | t::l=>.t t::ts l
def m (d x:Nat):AOp:=⟨some d,.mov (.t x),none⟩
def mv (d:Nat) (v:V):AOp:=⟨some d,.mov (.v v),none⟩
def mi (d:Nat) (n:Int):AOp:=⟨some d,.mov (.v (.int .i64 n)),none⟩
def mb (d:Nat) (b:Bool):AOp:=⟨some d,.mov (.v (.bool b)),none⟩
def bt (d:Nat) (op:BinOp) (x y:Nat):AOp:=⟨some d,.bin op (.t x) (.t y),none⟩
def bi (d:Nat) (op:BinOp) (x:Nat) (n:Int):AOp:=⟨some d,.bin op (.t x) (.v (.int .i64 n)),none⟩
def bu (d:Nat) (op:BinOp) (x:Nat) (n:Int):AOp:=⟨some d,.bin op (.t x) (.v (.int .u8 n)),none⟩
def bs (d:Nat) (op:BinOp) (x:Nat) (s:List UInt8):AOp:=⟨some d,.bin op (.t x) (.v (.str s)),none⟩
def nt' (d x:Nat):AOp:=⟨some d,.un .not (.t x),none⟩
def ls (d x:Nat):AOp:=⟨some d,.lens (.t x),none⟩
def lq (d x:Nat):AOp:=⟨some d,.lenq (.t x),none⟩
def fa (d x o:Nat):AOp:=⟨some d,.fa (.t x) o,none⟩
def fl (d x o:Nat):AOp:=⟨some d,.fld (.t x) o 1 false,none⟩
def l1 (d x:Nat):AOp:=⟨some d,.ld (.t x) 1 false,none⟩
def la (d x n:Nat):AOp:=⟨some d,.ld (.t x) n true,none⟩
def ia (d x i s:Nat):AOp:=⟨some d,.ia (.t x) (.t i) s,none⟩
def ix (d x i:Nat):AOp:=⟨some d,.ixs (.t x) (.t i),none⟩
def pa (d x y:Nat):AOp:=⟨some d,.pick (.t x) (.t y) (.v (.bool false)),none⟩
def po (d x y:Nat):AOp:=⟨some d,.pick (.t x) (.v (.bool true)) (.t y),none⟩
def ex (d x i:Nat):AOp:=⟨some d,.ext (.t x) i,none⟩
def bx (d x:Nat):AOp:=⟨some d,.box (.t x),none⟩
def st (n x y:Nat):AOp:=⟨none,.st n (.t x) (.t y),none⟩
def ca (d f:Nat) (l:List Nat):AOp:=⟨some d,.call f (ts l),none⟩
def ch (d f:Nat) (l:List Nat):AOp:=⟨some d,.callH f (ts l),none⟩
def cv (d g:Nat) (l:List Nat):AOp:=⟨some d,.callv (.t g) (ts l),none⟩
def Q:List AC→AC
 | []=>.skip
 | [a]=>a
 | a::l=>.seq a (Q l)
def OQ:List AOp→OT→OT
 | [],t=>t
 | x::xs,t=>.op x (OQ xs t)
def C (c:Nat) (a b:AC):AC:=.cond (.t c) a b
theorem OQ0 {t:OT}:OQ [] t=t:=rfl
theorem OQ1 {x:AOp} {xs:List AOp} {t:OT}:OQ (x::xs) t=.op x (OQ xs t):=rfl
attribute [simp] OQ0 OQ1
section
variable {Φ:Ctr} {K:St→Prop} {σ:St} {Q':Ex→St→Prop}
theorem BQ {d:Nat} {a:Act'}:wop Φ (o1 d a) K σ=af Φ (some d) (a) K σ:=propext Iff.rfl
theorem z7 {d:Nat} {a:Act'}:au Φ (o1 d a) K σ=ag Φ (some d) (a) K σ:=propext Iff.rfl
theorem BR {a:Act'}:wop Φ (o0 a) K σ=af Φ (none) (a) K σ:=propext Iff.rfl
theorem z8 {a:Act'}:au Φ (o0 a) K σ=ag Φ (none) (a) K σ:=propext Iff.rfl
theorem wop_m {d x:Nat}:wop Φ (m d x) K σ=af Φ (some d) (.mov (.t x)) K σ:=propext Iff.rfl
theorem Cg {d x:Nat}:au Φ (m d x) K σ=ag Φ (some d) (.mov (.t x)) K σ:=propext Iff.rfl
theorem BS {d:Nat} {v:V}:wop Φ (mv d v) K σ=af Φ (some d) (.mov (.v v)) K σ:=propext Iff.rfl
theorem Aa {d:Nat} {v:V}:au Φ (mv d v) K σ=ag Φ (some d) (.mov (.v v)) K σ:=propext Iff.rfl
theorem BT {d:Nat} {n:Int}:wop Φ (mi d n) K σ=af Φ (some d) (.mov (.v (.int .i64 n))) K σ:=propext Iff.rfl
theorem Ab {d:Nat} {n:Int}:au Φ (mi d n) K σ=ag Φ (some d) (.mov (.v (.int .i64 n))) K σ:=propext Iff.rfl
theorem BU {d:Nat} {b:Bool}:wop Φ (mb d b) K σ=af Φ (some d) (.mov (.v (.bool b))) K σ:=propext Iff.rfl
theorem Ac {d:Nat} {b:Bool}:au Φ (mb d b) K σ=ag Φ (some d) (.mov (.v (.bool b))) K σ:=propext Iff.rfl
theorem Cc {d:Nat} {op:BinOp} {x y:Nat}:wop Φ (bt d op x y) K σ=af Φ (some d) (.bin op (.t x) (.t y)) K σ:=propext Iff.rfl
theorem At {d:Nat} {op:BinOp} {x y:Nat}:au Φ (bt d op x y) K σ=ag Φ (some d) (.bin op (.t x) (.t y)) K σ:=propext Iff.rfl
theorem Ce {d:Nat} {op:BinOp} {x:Nat} {n:Int}:wop Φ (bi d op x n) K σ=af Φ (some d) (.bin op (.t x) (.v (.int .i64 n))) K σ:=propext Iff.rfl
theorem Av {d:Nat} {op:BinOp} {x:Nat} {n:Int}:au Φ (bi d op x n) K σ=ag Φ (some d) (.bin op (.t x) (.v (.int .i64 n))) K σ:=propext Iff.rfl
theorem Cb {d:Nat} {op:BinOp} {x:Nat} {n:Int}:wop Φ (bu d op x n) K σ=af Φ (some d) (.bin op (.t x) (.v (.int .u8 n))) K σ:=propext Iff.rfl
theorem As {d:Nat} {op:BinOp} {x:Nat} {n:Int}:au Φ (bu d op x n) K σ=ag Φ (some d) (.bin op (.t x) (.v (.int .u8 n))) K σ:=propext Iff.rfl
theorem Cd {d:Nat} {op:BinOp} {x:Nat} {s:List UInt8}:wop Φ (bs d op x s) K σ=af Φ (some d) (.bin op (.t x) (.v (.str s))) K σ:=propext Iff.rfl
theorem Au {d:Nat} {op:BinOp} {x:Nat} {s:List UInt8}:au Φ (bs d op x s) K σ=ag Φ (some d) (.bin op (.t x) (.v (.str s))) K σ:=propext Iff.rfl
theorem zW {d x:Nat}:wop Φ (nt' d x) K σ=af Φ (some d) (.un .not (.t x)) K σ:=propext Iff.rfl
theorem xD {d x:Nat}:au Φ (nt' d x) K σ=ag Φ (some d) (.un .not (.t x)) K σ:=propext Iff.rfl
theorem BV {d x:Nat}:wop Φ (ls d x) K σ=af Φ (some d) (.lens (.t x)) K σ:=propext Iff.rfl
theorem Ad {d x:Nat}:au Φ (ls d x) K σ=ag Φ (some d) (.lens (.t x)) K σ:=propext Iff.rfl
theorem BW {d x:Nat}:wop Φ (lq d x) K σ=af Φ (some d) (.lenq (.t x)) K σ:=propext Iff.rfl
theorem Ae {d x:Nat}:au Φ (lq d x) K σ=ag Φ (some d) (.lenq (.t x)) K σ:=propext Iff.rfl
theorem B5 {d x o:Nat}:wop Φ (fa d x o) K σ=af Φ (some d) (.fa (.t x) o) K σ:=propext Iff.rfl
theorem Am {d x o:Nat}:au Φ (fa d x o) K σ=ag Φ (some d) (.fa (.t x) o) K σ:=propext Iff.rfl
theorem B4 {d x o:Nat}:wop Φ (fl d x o) K σ=af Φ (some d) (.fld (.t x) o 1 false) K σ:=propext Iff.rfl
theorem Al {d x o:Nat}:au Φ (fl d x o) K σ=ag Φ (some d) (.fld (.t x) o 1 false) K σ:=propext Iff.rfl
theorem BY {d x:Nat}:wop Φ (l1 d x) K σ=af Φ (some d) (.ld (.t x) 1 false) K σ:=propext Iff.rfl
theorem Ag {d x:Nat}:au Φ (l1 d x) K σ=ag Φ (some d) (.ld (.t x) 1 false) K σ:=propext Iff.rfl
theorem BX {d x n:Nat}:wop Φ (la d x n) K σ=af Φ (some d) (.ld (.t x) n true) K σ:=propext Iff.rfl
theorem Af {d x n:Nat}:au Φ (la d x n) K σ=ag Φ (some d) (.ld (.t x) n true) K σ:=propext Iff.rfl
theorem B0 {d x i s:Nat}:wop Φ (ia d x i s) K σ=af Φ (some d) (.ia (.t x) (.t i) s) K σ:=propext Iff.rfl
theorem Ai {d x i s:Nat}:au Φ (ia d x i s) K σ=ag Φ (some d) (.ia (.t x) (.t i) s) K σ:=propext Iff.rfl
theorem BZ {d x i:Nat}:wop Φ (ix d x i) K σ=af Φ (some d) (.ixs (.t x) (.t i)) K σ:=propext Iff.rfl
theorem Ah {d x i:Nat}:au Φ (ix d x i) K σ=ag Φ (some d) (.ixs (.t x) (.t i)) K σ:=propext Iff.rfl
theorem BP {d x y:Nat}:wop Φ (pa d x y) K σ=af Φ (some d) (.pick (.t x) (.t y) (.v (.bool false))) K σ:=propext Iff.rfl
theorem z6 {d x y:Nat}:au Φ (pa d x y) K σ=ag Φ (some d) (.pick (.t x) (.t y) (.v (.bool false))) K σ:=propext Iff.rfl
theorem BO {d x y:Nat}:wop Φ (po d x y) K σ=af Φ (some d) (.pick (.t x) (.v (.bool true)) (.t y)) K σ:=propext Iff.rfl
theorem zZ {d x y:Nat}:au Φ (po d x y) K σ=ag Φ (some d) (.pick (.t x) (.v (.bool true)) (.t y)) K σ:=propext Iff.rfl
theorem B6 {d x i:Nat}:wop Φ (ex d x i) K σ=af Φ (some d) (.ext (.t x) i) K σ:=propext Iff.rfl
theorem An {d x i:Nat}:au Φ (ex d x i) K σ=ag Φ (some d) (.ext (.t x) i) K σ:=propext Iff.rfl
theorem Ca {d x:Nat}:wop Φ (bx d x) K σ=af Φ (some d) (.box (.t x)) K σ:=propext Iff.rfl
theorem Ar {d x:Nat}:au Φ (bx d x) K σ=ag Φ (some d) (.box (.t x)) K σ:=propext Iff.rfl
theorem BN {n x y:Nat}:wop Φ (st n x y) K σ=af Φ (none) (.st n (.t x) (.t y)) K σ:=propext Iff.rfl
theorem zY {n x y:Nat}:au Φ (st n x y) K σ=ag Φ (none) (.st n (.t x) (.t y)) K σ:=propext Iff.rfl
theorem B9 {d f:Nat} {l:List Nat}:wop Φ (ca d f l) K σ=af Φ (some d) (.call f (ts l)) K σ:=propext Iff.rfl
theorem Aq {d f:Nat} {l:List Nat}:au Φ (ca d f l) K σ=ag Φ (some d) (.call f (ts l)) K σ:=propext Iff.rfl
theorem B8 {d f:Nat} {l:List Nat}:wop Φ (ch d f l) K σ=af Φ (some d) (.callH f (ts l)) K σ:=propext Iff.rfl
theorem Ap {d f:Nat} {l:List Nat}:au Φ (ch d f l) K σ=ag Φ (some d) (.callH f (ts l)) K σ:=propext Iff.rfl
theorem B7 {d g:Nat} {l:List Nat}:wop Φ (cv d g l) K σ=af Φ (some d) (.callv (.t g) (ts l)) K σ:=propext Iff.rfl
theorem Ao {d g:Nat} {l:List Nat}:au Φ (cv d g l) K σ=ag Φ (some d) (.callv (.t g) (ts l)) K σ:=propext Iff.rfl
def skO (o:AOp) (K:St→Prop) (σ:St):Prop:=K (σ.put o.d (.tup []))
theorem AI {o:AOp}:skO o K σ=K (σ.put o.d (.tup [])):=propext Iff.rfl
def un (o:AOp):AOp:=⟨o.d,o.a,none⟩
theorem B1 {t:Nat} {o:AOp}:wop Φ (gt t o) K σ=gM (lk σ.r t) true (wop Φ (un o) K) (skO o K) σ:=by
 simp only [gt,xB]; rfl
theorem B3 {t:Nat} {o:AOp}:wop Φ (gf t o) K σ=gM (lk σ.r t) false (wop Φ (un o) K) (skO o K) σ:=by
 simp only [gf,xB]; rfl
theorem Aj {t:Nat} {o:AOp}:au Φ (gt t o) K σ=gM (lk σ.r t) true (au Φ (un o) K) (skO o K) σ:=by
 simp only [gt,tv]; rfl
theorem Ak {t:Nat} {o:AOp}:au Φ (gf t o) K σ=gM (lk σ.r t) false (au Φ (un o) K) (skO o K) σ:=by
 simp only [gf,tv]; rfl
theorem zz {d:Nat} {a:Act'}:wop Φ (un (o1 d a)) K σ=af Φ (some d) (a) K σ:=propext Iff.rfl
theorem w9 {d:Nat} {a:Act'}:au Φ (un (o1 d a)) K σ=ag Φ (some d) (a) K σ:=propext Iff.rfl
theorem zA {a:Act'}:wop Φ (un (o0 a)) K σ=af Φ (none) (a) K σ:=propext Iff.rfl
theorem xc {a:Act'}:au Φ (un (o0 a)) K σ=ag Φ (none) (a) K σ:=propext Iff.rfl
theorem BM {d x:Nat}:wop Φ (un (m d x)) K σ=af Φ (some d) (.mov (.t x)) K σ:=propext Iff.rfl
theorem zV {d x:Nat}:au Φ (un (m d x)) K σ=ag Φ (some d) (.mov (.t x)) K σ:=propext Iff.rfl
theorem zB {d:Nat} {v:V}:wop Φ (un (mv d v)) K σ=af Φ (some d) (.mov (.v v)) K σ:=propext Iff.rfl
theorem xd {d:Nat} {v:V}:au Φ (un (mv d v)) K σ=ag Φ (some d) (.mov (.v v)) K σ:=propext Iff.rfl
theorem zC {d:Nat} {n:Int}:wop Φ (un (mi d n)) K σ=af Φ (some d) (.mov (.v (.int .i64 n))) K σ:=propext Iff.rfl
theorem xe {d:Nat} {n:Int}:au Φ (un (mi d n)) K σ=ag Φ (some d) (.mov (.v (.int .i64 n))) K σ:=propext Iff.rfl
theorem zD {d:Nat} {b:Bool}:wop Φ (un (mb d b)) K σ=af Φ (some d) (.mov (.v (.bool b))) K σ:=propext Iff.rfl
theorem xf {d:Nat} {b:Bool}:au Φ (un (mb d b)) K σ=ag Φ (some d) (.mov (.v (.bool b))) K σ:=propext Iff.rfl
theorem zS {d:Nat} {op:BinOp} {x y:Nat}:wop Φ (un (bt d op x y)) K σ=af Φ (some d) (.bin op (.t x) (.t y)) K σ:=propext Iff.rfl
theorem xw {d:Nat} {op:BinOp} {x y:Nat}:au Φ (un (bt d op x y)) K σ=ag Φ (some d) (.bin op (.t x) (.t y)) K σ:=propext Iff.rfl
theorem zU {d:Nat} {op:BinOp} {x:Nat} {n:Int}:wop Φ (un (bi d op x n)) K σ=af Φ (some d) (.bin op (.t x) (.v (.int .i64 n))) K σ:=propext Iff.rfl
theorem xy {d:Nat} {op:BinOp} {x:Nat} {n:Int}:au Φ (un (bi d op x n)) K σ=ag Φ (some d) (.bin op (.t x) (.v (.int .i64 n))) K σ:=propext Iff.rfl
theorem zR {d:Nat} {op:BinOp} {x:Nat} {n:Int}:wop Φ (un (bu d op x n)) K σ=af Φ (some d) (.bin op (.t x) (.v (.int .u8 n))) K σ:=propext Iff.rfl
theorem xv {d:Nat} {op:BinOp} {x:Nat} {n:Int}:au Φ (un (bu d op x n)) K σ=ag Φ (some d) (.bin op (.t x) (.v (.int .u8 n))) K σ:=propext Iff.rfl
theorem zT {d:Nat} {op:BinOp} {x:Nat} {s:List UInt8}:wop Φ (un (bs d op x s)) K σ=af Φ (some d) (.bin op (.t x) (.v (.str s))) K σ:=propext Iff.rfl
theorem xx {d:Nat} {op:BinOp} {x:Nat} {s:List UInt8}:au Φ (un (bs d op x s)) K σ=ag Φ (some d) (.bin op (.t x) (.v (.str s))) K σ:=propext Iff.rfl
theorem w5 {d x:Nat}:wop Φ (un (nt' d x)) K σ=af Φ (some d) (.un .not (.t x)) K σ:=propext Iff.rfl
theorem vq {d x:Nat}:au Φ (un (nt' d x)) K σ=ag Φ (some d) (.un .not (.t x)) K σ:=propext Iff.rfl
theorem zE {d x:Nat}:wop Φ (un (ls d x)) K σ=af Φ (some d) (.lens (.t x)) K σ:=propext Iff.rfl
theorem xg {d x:Nat}:au Φ (un (ls d x)) K σ=ag Φ (some d) (.lens (.t x)) K σ:=propext Iff.rfl
theorem zF {d x:Nat}:wop Φ (un (lq d x)) K σ=af Φ (some d) (.lenq (.t x)) K σ:=propext Iff.rfl
theorem xh {d x:Nat}:au Φ (un (lq d x)) K σ=ag Φ (some d) (.lenq (.t x)) K σ:=propext Iff.rfl
theorem zL {d x o:Nat}:wop Φ (un (fa d x o)) K σ=af Φ (some d) (.fa (.t x) o) K σ:=propext Iff.rfl
theorem xn {d x o:Nat}:au Φ (un (fa d x o)) K σ=ag Φ (some d) (.fa (.t x) o) K σ:=propext Iff.rfl
theorem zK {d x o:Nat}:wop Φ (un (fl d x o)) K σ=af Φ (some d) (.fld (.t x) o 1 false) K σ:=propext Iff.rfl
theorem xm {d x o:Nat}:au Φ (un (fl d x o)) K σ=ag Φ (some d) (.fld (.t x) o 1 false) K σ:=propext Iff.rfl
theorem zH {d x:Nat}:wop Φ (un (l1 d x)) K σ=af Φ (some d) (.ld (.t x) 1 false) K σ:=propext Iff.rfl
theorem xj {d x:Nat}:au Φ (un (l1 d x)) K σ=ag Φ (some d) (.ld (.t x) 1 false) K σ:=propext Iff.rfl
theorem zG {d x n:Nat}:wop Φ (un (la d x n)) K σ=af Φ (some d) (.ld (.t x) n true) K σ:=propext Iff.rfl
theorem xi {d x n:Nat}:au Φ (un (la d x n)) K σ=ag Φ (some d) (.ld (.t x) n true) K σ:=propext Iff.rfl
theorem zJ {d x i s:Nat}:wop Φ (un (ia d x i s)) K σ=af Φ (some d) (.ia (.t x) (.t i) s) K σ:=propext Iff.rfl
theorem xl {d x i s:Nat}:au Φ (un (ia d x i s)) K σ=ag Φ (some d) (.ia (.t x) (.t i) s) K σ:=propext Iff.rfl
theorem zI {d x i:Nat}:wop Φ (un (ix d x i)) K σ=af Φ (some d) (.ixs (.t x) (.t i)) K σ:=propext Iff.rfl
theorem xk {d x i:Nat}:au Φ (un (ix d x i)) K σ=ag Φ (some d) (.ixs (.t x) (.t i)) K σ:=propext Iff.rfl
theorem zy {d x y:Nat}:wop Φ (un (pa d x y)) K σ=af Φ (some d) (.pick (.t x) (.t y) (.v (.bool false))) K σ:=propext Iff.rfl
theorem w8 {d x y:Nat}:au Φ (un (pa d x y)) K σ=ag Φ (some d) (.pick (.t x) (.t y) (.v (.bool false))) K σ:=propext Iff.rfl
theorem zx {d x y:Nat}:wop Φ (un (po d x y)) K σ=af Φ (some d) (.pick (.t x) (.v (.bool true)) (.t y)) K σ:=propext Iff.rfl
theorem w7 {d x y:Nat}:au Φ (un (po d x y)) K σ=ag Φ (some d) (.pick (.t x) (.v (.bool true)) (.t y)) K σ:=propext Iff.rfl
theorem zM {d x i:Nat}:wop Φ (un (ex d x i)) K σ=af Φ (some d) (.ext (.t x) i) K σ:=propext Iff.rfl
theorem xo {d x i:Nat}:au Φ (un (ex d x i)) K σ=ag Φ (some d) (.ext (.t x) i) K σ:=propext Iff.rfl
theorem zQ {d x:Nat}:wop Φ (un (bx d x)) K σ=af Φ (some d) (.box (.t x)) K σ:=propext Iff.rfl
theorem xu {d x:Nat}:au Φ (un (bx d x)) K σ=ag Φ (some d) (.box (.t x)) K σ:=propext Iff.rfl
theorem zw {n x y:Nat}:wop Φ (un (st n x y)) K σ=af Φ (none) (.st n (.t x) (.t y)) K σ:=propext Iff.rfl
theorem w6 {n x y:Nat}:au Φ (un (st n x y)) K σ=ag Φ (none) (.st n (.t x) (.t y)) K σ:=propext Iff.rfl
theorem zP {d f:Nat} {l:List Nat}:wop Φ (un (ca d f l)) K σ=af Φ (some d) (.call f (ts l)) K σ:=propext Iff.rfl
theorem xr {d f:Nat} {l:List Nat}:au Φ (un (ca d f l)) K σ=ag Φ (some d) (.call f (ts l)) K σ:=propext Iff.rfl
theorem zO {d f:Nat} {l:List Nat}:wop Φ (un (ch d f l)) K σ=af Φ (some d) (.callH f (ts l)) K σ:=propext Iff.rfl
theorem xq {d f:Nat} {l:List Nat}:au Φ (un (ch d f l)) K σ=ag Φ (some d) (.callH f (ts l)) K σ:=propext Iff.rfl
theorem zN {d g:Nat} {l:List Nat}:wop Φ (un (cv d g l)) K σ=af Φ (some d) (.callv (.t g) (ts l)) K σ:=propext Iff.rfl
theorem xp {d g:Nat} {l:List Nat}:au Φ (un (cv d g l)) K σ=ag Φ (some d) (.callv (.t g) (ts l)) K σ:=propext Iff.rfl
theorem d_o1 {d:Nat} {a:Act'}:(o1 d a).d=some d:=rfl
theorem d_o0 {a:Act'}:(o0 a).d=none:=rfl
theorem d_m {d x:Nat}:(m d x).d=some d:=rfl
theorem d_mv {d:Nat} {v:V}:(mv d v).d=some d:=rfl
theorem d_mi {d:Nat} {n:Int}:(mi d n).d=some d:=rfl
theorem d_mb {d:Nat} {b:Bool}:(mb d b).d=some d:=rfl
theorem d_bt {d:Nat} {op:BinOp} {x y:Nat}:(bt d op x y).d=some d:=rfl
theorem d_bi {d:Nat} {op:BinOp} {x:Nat} {n:Int}:(bi d op x n).d=some d:=rfl
theorem d_bu {d:Nat} {op:BinOp} {x:Nat} {n:Int}:(bu d op x n).d=some d:=rfl
theorem d_bs {d:Nat} {op:BinOp} {x:Nat} {s:List UInt8}:(bs d op x s).d=some d:=rfl
theorem d_ntp {d x:Nat}:(nt' d x).d=some d:=rfl
theorem d_ls {d x:Nat}:(ls d x).d=some d:=rfl
theorem d_lq {d x:Nat}:(lq d x).d=some d:=rfl
theorem d_fa {d x o:Nat}:(fa d x o).d=some d:=rfl
theorem d_fl {d x o:Nat}:(fl d x o).d=some d:=rfl
theorem d_l1 {d x:Nat}:(l1 d x).d=some d:=rfl
theorem d_la {d x n:Nat}:(la d x n).d=some d:=rfl
theorem d_ia {d x i s:Nat}:(ia d x i s).d=some d:=rfl
theorem d_ix {d x i:Nat}:(ix d x i).d=some d:=rfl
theorem d_pa {d x y:Nat}:(pa d x y).d=some d:=rfl
theorem d_po {d x y:Nat}:(po d x y).d=some d:=rfl
theorem d_ex {d x i:Nat}:(ex d x i).d=some d:=rfl
theorem d_bx {d x:Nat}:(bx d x).d=some d:=rfl
theorem d_st {n x y:Nat}:(st n x y).d=none:=rfl
theorem d_ca {d f:Nat} {l:List Nat}:(ca d f l).d=some d:=rfl
theorem d_ch {d f:Nat} {l:List Nat}:(ch d f l).d=some d:=rfl
theorem d_cv {d g:Nat} {l:List Nat}:(cv d g l).d=some d:=rfl
theorem d_un {o:AOp}:(un o).d=o.d:=rfl
theorem W_Q1 {a:AC}:W Φ (Q [a]) Q' σ=W Φ a Q' σ:=propext Iff.rfl
theorem W_Q2 {a b:AC} {l:List AC}:W Φ (Q (a::b::l)) Q' σ=W Φ a (Ex.then (W Φ (Q (b::l)) Q') Q') σ:=propext Iff.rfl
theorem W_C {c:Nat} {a b:AC}:W Φ (C c a b) Q' σ=cM (lk σ.r c) (W Φ a Q') (W Φ b Q') σ:=propext Iff.rfl
end
attribute [simp] AI B1 B3 Aj Ak W_Q1 W_Q2 W_C BQ z7 zz w9 BR z8 zA xc wop_m Cg BM zV BS Aa zB xd BT Ab zC xe BU Ac zD xf Cc At zS xw Ce Av zU xy Cb As zR xv Cd Au zT xx zW xD w5 vq BV Ad zE xg BW Ae zF xh B5 Am zL xn B4 Al zK xm BY Ag zH xj BX Af zG xi B0 Ai zJ xl BZ Ah zI xk BP z6 zy w8 BO zZ zx w7 B6 An zM xo Ca Ar zQ xu BN zY zw w6 B9 Aq zP xr B8 Ap zO xq B7 Ao zN xp
attribute [simp] Cn_p Cn_n Cn_e ts d_o1 d_o0 d_m d_mv d_mi d_mb d_bt d_bi d_bu d_bs d_ntp d_ls d_lq d_fa d_fl d_l1 d_la d_ia d_ix d_pa d_po d_ex d_bx d_st d_ca d_ch d_cv d_un
structure Env where
 p:FuncId→List V→Option (V × Bool)
 ps:FuncId→Option (List Nat)
 h:FuncId→List V→List (Option Ob)→Option (V × List (Option Ob))
structure EnvOK (env:Env) (Φ:Ctr):Prop where
 p:∀ f us r nw,env.p f us=some (r,nw)→Φ.p f us r∧(nw=true→Φ.n f us r)
 h:∀ f us H r H' ps,env.ps f=some ps→env.h f us H=some (r,H')→Φ.e f ps us H r H'
section
variable {env:Env} {Φ:Ctr} (hE:EnvOK env Φ) {d:Option Nat} {σ τ:St} {K:St→Prop}
include hE
end
end Go.Abs
end
section
namespace Go.Abs
open Go.RowKit
end Go.Abs

end
section
namespace Go.Abs
open Go.RowKit
section
variable {P:Program} {N:Nat} {M0:Mem} {B:Bas} {w0:World} {κ:Kap} {M:Mem} {σ:St} {a:Act} {w w':World}
theorem Rel.stay (H:Rel N M0 B w0 κ M σ a w) (hu:Und B w w') (hb:∀ g,cj κ σ.h g→w'.heap[g]?=w.heap[g]?) (hs:∀ p v,M p=some v→w'.cell? p=some v):Rel N M0 B w0 κ M σ a w':=
 { dfr:=H.dfr,jst:=H.jst,pin:=H.pin,size:=H.size,regs:=H.regs
   heap:=fun id ob h=>bH (fun _ _ h=>h) (fun _ _ h=>h) ⟨rfl,rfl,rfl⟩ (fun g hg=>hb g ⟨id,ob,h,hg⟩) H.jst hu hs (H.heap id ob h)
   inj:=H.inj,snd:=hs,sep:=H.sep,sub:=H.sub,new:=H.new,base:=H.base,blw:=H.blw.trans hu }
def tU (o:Obj):Prop:=∀ c e z,o≠.cells c e z
theorem gQ {l:Nat} {o:Obj} (hl:w.heap[l]?=some o) (ho:tU o) {p:Addr} {v:Value} (h:w.cell? p=some v):p.block≠l:=by
 intro e
 unfold World.cell? at h
 rw [e,hl] at h
 cases o<;>first | exact ho _ _ _ rfl | cases h
theorem gy {l:Nat} {o o':Obj} (hl:w.heap[l]?=some o) (ho:tU o) {p:Addr} {v:Value} (h:w.cell? p=some v):(w.putObj l o').cell? p=some v:=by
 rw [World.cell?_of_block (World.putObj_heap_other (gQ hl ho h))]; exact h
theorem uW {l:Nat} {o o':Obj} (hl:w.heap[l]?=some o) (ho:tU o):Siz w (w.putObj l o'):=by
 intro k cur T z hc
 have:k≠l:=by rintro rfl; rw [hl] at hc; exact ho _ _ _ (Option.some.inj hc)
 exact ⟨cur,T,z,by rw [World.putObj_heap_other this]; exact hc,rfl⟩
theorem li {l:Nat} {o o':Obj} (hl:w.heap[l]?=some o) (ho:tU o) (hB:B.n≤l):Und B w (w.putObj l o'):=
 ⟨rfl,rfl,rfl,by simp,fun k hk hs=>World.putObj_heap_other (by omega),uW hl ho⟩
theorem bI {r:Loop}:tU (.loop r):=fun _ _ _ h=>by cases h
theorem ga {d:Option (List Deferred)}:tU (.deferred d):=fun _ _ _ h=>by cases h
def St.ids (σ:St) (ks:List Nat):List Nat:=bK (bK (bK [] (tL (pk σ.r ks))) (kV σ.h (bK [] (tL (pk σ.r ks))))) (kV σ.h (bK (bK [] (tL (pk σ.r ks))) (kV σ.h (bK [] (tL (pk σ.r ks))))))
theorem tT {ks:List Nat}:σ.nrm ks={ r:=nf (σ.ids ks) (pk σ.r ks),h:=dH σ.h (σ.ids ks) (σ.ids ks) }:=rfl
theorem wu {ks:List Nat}:(σ.ids ks).Nodup:=aP _ _ (aP _ _ (aP _ _ List.nodup_nil))
theorem Rel.nrm' (H:Rel N M0 B w0 κ M σ a w) (ks:List Nat):Rel N M0 B w0 (κ.ren (σ.ids ks)) M (σ.nrm ks) a w:=by
 rw [tT]
 exact H.ren wu _ (fun t v h=>sg h)
theorem jN {r:List (Nat × V)}:∀ {ks:List Nat} {t:Nat} {v:V},lk (pk r ks) t=some v→t∈ks
 | [],_,_,h=>by simp [pk,lk] at h
 | k::ks,t,v,h=>by
   simp only [pk] at h
   split at h
   · simp only [lk] at h
     split at h
     · rename_i he; simp [he]
     · exact List.mem_cons_of_mem _ (jN h)
   · exact List.mem_cons_of_mem _ (jN h)
theorem t8 {ks:List Nat} {t:Nat} {v:V} (h:lk (σ.nrm ks).r t=some v):t∈ks:=by
 rw [tT] at h
 obtain ⟨u,h1,_⟩:=qe h
 exact jN h1
def tn (N:Nat) (M0:Mem) (B:Bas) (w0:World) (a:Act) (ks:List Nat) (l D:Nat) (τ:St) (r:Loop) (S:Nat→Prop) (Mm:Mem) (W:World):Prop:=
 ∃ κi Mi,Rel N M0 B w0 κi Mi τ a W∧(∀ t v,lk τ.r t=some v→t∈ks)∧(∀ p v,Mi p=some v→Mm p=some v)∧W.heap[l]?=some (.loop r)∧W.heap[D]?=some (.deferred (some []))∧
   (∀ g,S g↔cj κi τ.h g∨g=l∨g=D)∧∀ g,cj κi τ.h g→g≠l∧g≠D
theorem tn.stay {ks:List Nat} {l D:Nat} {τ:St} {r:Loop} {S:Nat→Prop} {Mm Mm':Mem} {W W':World} (h:tn N M0 B w0 a ks l D τ r S Mm W) (hu:Und B W W') (hS:∀ g,S g→W'.heap[g]?=W.heap[g]?)
 (hm:∀ p v,Mm p=some v→Mm' p=some v) (hs:∀ p v,Mm' p=some v→W'.cell? p=some v):tn N M0 B w0 a ks l D τ r S Mm' W':=by
 obtain ⟨κi,Mi,h1,h2,h3,h4,h5,h6,h7⟩:=h
 exact ⟨κi,Mi,h1.stay hu (fun g hg=>hS g ((h6 g).2 (.inl hg))) (fun p v hp=>hs p v (hm p v (h3 p v hp))),h2,fun p v hp=>hm p v (h3 p v hp),by rw [hS l ((h6 l).2 (.inr (.inl rfl)))]; exact h4,by rw [hS D ((h6 D).2 (.inr (.inr rfl)))]; exact h5,h6,h7⟩
def kG:List Nat→List V→List (Nat × V)→List (Nat × V)
 | t::ts,v::vs,r=>kG ts vs ((t,v)::r)
 | _,_,r=>r
theorem Rel.zip:∀ {ts:List Nat} {us:List V} {cs:List Value} {r:List (Nat × V)} {h:List (Option Ob)} {T:Array Value},Rel N M0 B w0 κ M ⟨r,h⟩ ⟨T,[]⟩ w→ac M NX us cs→(∀ t∈ts,t < N∧t ∉ B.ps)→
 Rel N M0 B w0 κ M ⟨kG ts us r,h⟩ ⟨(ts.zip cs).foldl (fun tmps (x:Nat × Value)=>tmps.setIfInBounds x.1 x.2) T,[]⟩ w
 | [],us,cs,r,h,T,H,_,_=>by cases us<;>simpa [kG] using H
 | t::ts,[],cs,r,h,T,H,hu,_=>by
   simp only [ac] at hu
   subst hu
   simpa [kG] using H
 | t::ts,u::us,cs,r,h,T,H,hu,ht=>by
   simp only [ac] at hu
   obtain ⟨c,cs',rfl,h1,h2⟩:=hu
   have:=H.put (d:=t) (ht t (by simp)) (an (X:=XX κ h) h1)
   simp only [kG,List.zip_cons_cons,List.foldl_cons]
   exact Rel.zip (this:Rel N M0 B w0 κ M ⟨(t,u)::r,h⟩ ⟨T.setIfInBounds t c,[]⟩ w) h2 fun t' h'=>ht t' (by simp [h'])
def pS (κi:Kap) (h:List (Option Ob)) (W:World) (ks:List Nat) (cs:Array Value) (fb:Nat):Bas:=⟨W.heap.size,cj κi h,ks,cs,fb,noJ,[]⟩
structure Calm (w w':World):Prop where
 os:w'.os=w.os
 tape:w'.tape=w.tape
 output:w'.output=w.output
 size:w.heap.size≤w'.heap.size
 siz:Siz w w'
theorem Calm.refl (w:World):Calm w w:=⟨rfl,rfl,rfl,Nat.le_refl _,fun _ cur T z h=>⟨cur,T,z,h,rfl⟩⟩
theorem Calm.trans {w1 w2 w3:World} (h:Calm w1 w2) (k:Calm w2 w3):Calm w1 w3:=
 ⟨k.os.trans h.os,k.tape.trans h.tape,k.output.trans h.output,Nat.le_trans h.size k.size,fun i cur T z hc=>by
   obtain ⟨c1,T1,z1,h1,e1⟩:=h.siz i cur T z hc
   obtain ⟨c2,T2,z2,h2,e2⟩:=k.siz i c1 T1 z1 h1
   exact ⟨c2,T2,z2,h2,e2.trans e1⟩⟩
theorem Calm.of_und (h:Und B w w'):Calm w w':=⟨h.os,h.tape,h.output,h.size,h.siz⟩
theorem mW {l:Nat} {o o':Obj} (hl:w.heap[l]?=some o) (ho:tU o):Calm w (w.putObj l o'):=⟨rfl,rfl,rfl,by simp,uW hl ho⟩
theorem dD {B':Bas} {M':Mem} {X:V→Value→Prop} {id:Nat} {ob:Ob} (hJ:B.J=noJ) (hM:∀ p v,M p=some v→M' p=some v) (hw:∀ g,κ.bl id g→w'.heap[g]?=w.heap[g]?) (hc:Calm w w') (hs:∀ p v,M' p=some v→w'.cell? p=some v) (ho:∀ g,κ.bl id g→B'.own g) (hJ':B'.J=noJ)
 (h:aq κ M X B w id ob):aq κ M' X B' w' id ob:=by
 have h1:aq κ M X ⟨0,fun _=>True,[],#[],0,noJ,[]⟩ w id ob:=bZ (B:=B) (fun g hg=>.inl (Nat.zero_le _)) hJ.symm h
 have h2:aq κ M' X ⟨0,fun _=>True,[],#[],0,noJ,[]⟩ w' id ob:=bH hM (fun _ _ h=>h) ⟨rfl,rfl,rfl⟩ hw (gd rfl) ⟨hc.os,hc.tape,hc.output,hc.size,fun k hk=>absurd hk (Nat.not_lt_zero _),hc.siz⟩ hs h1
 exact bZ (B':=B') ho hJ' h2
theorem Rel.rnd {κi:Kap} {Mi Mm:Mem} {τ:St} {W W':World} {ks:List Nat} {cs:Array Value} (hJ:B.J=noJ) (H:Rel N M0 B w0 κi Mi τ a W) (hpin:∀ i,i∈ks→a.tmps[i]?=cs[i]?) (hc:Calm W W') (hb:∀ g,cj κi τ.h g→W'.heap[g]?=W.heap[g]?)
 (hm:∀ p v,Mi p=some v→Mm p=some v) (hMs:Snd Mm W') (hsep:∀ p v,Mm p=some v→¬cj κi τ.h p.block):Rel N Mm (pS κi τ.h W' ks cs B.fb) W' κi Mm τ ⟨a.tmps,[]⟩ W':=
 { dfr:=rfl
   jst:=gd rfl
   pin:=hpin
   size:=H.size
   regs:=fun t v ht=>let ⟨h1,c,h2,h3⟩:=H.regs t v ht; ⟨h1,c,h2,al hm (fun _ _ h=>h) _ _ h3⟩
   heap:=fun id ob h=>dD hJ hm (fun g hg=>hb g ⟨id,ob,h,hg⟩) hc hMs.snd (fun g hg=>.inr ⟨id,ob,h,hg⟩) rfl (H.heap id ob h)
   inj:=H.inj,snd:=hMs.snd
   sep:=fun p v hp id ob h hg=>hsep p v hp ⟨id,ob,h,hg⟩
   sub:=⟨fun _ _ h=>h,fun p v h=>hm p v (H.sub.fmS p v h),H.sub.fmN,Nat.le_trans H.sub.fbn (by show B.n≤W'.heap.size; rw [H.base]; exact Nat.le_trans H.blw.size hc.size),hMs.gl⟩
   new:=fun _ _ h=>.inl h
   base:=rfl
   blw:=Und.refl _ _ }
structure Mid (S:Nat→Prop) (l:Nat) (Mm:Mem) (W:World) (B2:Bas) (M1:Mem) (W1:World):Prop where
 calm:Calm W W1
 block:∀ g,g < W.heap.size→¬S g→g≠l→W1.heap[g]?=W.heap[g]?
 own:∀ g,B2.own g→W.heap.size≤g∨S g
 mem:∀ p v,Mm p=some v→M1 p=some v
 new:∀ p v,M1 p=some v→Mm p=some v∨W.heap.size≤p.block∨S p.block
theorem Mid.refl {κi:Kap} {h:List (Option Ob)} {l:Nat} {Mm:Mem} {W:World} {ks:List Nat} {cs:Array Value} {fb:Nat}:Mid (cj κi h) l Mm W (pS κi h W ks cs fb) Mm W:=
 ⟨Calm.refl _,fun _ _ _ _=>rfl,fun g h=>h,fun _ _ h=>h,fun _ _ h=>.inl h⟩
theorem Mid.next {S:Nat→Prop} {l:Nat} {Mm M1 M2:Mem} {W W1 W2 W':World} {B2:Bas} {κ2:Kap} {τ2:St} {a2:Act} {ks:List Nat} {cs:Array Value} {fb:Nat} (h:Mid S l Mm W B2 M1 W1) (H:Rel N M1 B2 W1 κ2 M2 τ2 a2 W2) (hc:Calm W2 W') (hb:∀ g,g≠l→W'.heap[g]?=W2.heap[g]?):
 Mid S l Mm W (pS κ2 τ2.h W' ks cs fb) M2 W':=by
 have ho:∀ g,B2.own g→W.heap.size≤g∨S g:=h.own
 refine ⟨(h.calm.trans (.of_und H.blw)).trans hc,fun g hg hS hl=>?_,fun g hg=>?_,fun p v hp=>H.sub.sub p v (h.mem p v hp),fun p v hp=>?_⟩
 · have hn:B2.n=W1.heap.size:=H.base
   rw [hb g hl,H.blw.block g (by rw [hn]; have:=h.calm.size; omega) (fun hs=>(ho g (.inr hs)).elim (fun h=>by omega) hS)]
   exact h.block g hg hS hl
 · rcases hg with hg | ⟨id,ob,h1,h2⟩
   · have hg:W'.heap.size≤g:=hg
     have:=h.calm.size
     have:=H.blw.size
     have:=hc.size
     exact .inl (by omega)
   · exact ho g (H.blk_lt h1 h2).1
 · rcases H.new p v hp with h1 | h1
   · exact h.new p v h1
   · exact .inr (ho _ h1)
theorem Rel.unrnd {κi κ2:Kap} {Mi Mm M1 M2:Mem} {τ τ2:St} {W W1 W2:World} {ks:List Nat} {a2:Act} {B2:Bas} {l:Nat} (hJ:B.J=noJ) (H:Rel N M0 B w0 κi Mi τ a W) (hm:∀ p v,Mi p=some v→Mm p=some v) (hnew:∀ p v,Mm p=some v→M0 p=some v∨B.own p.block) (hl:B.n≤l)
 (h:Mid (cj κi τ.h) l Mm W B2 M1 W1) (hps:B2.ps=ks) (hcs:B2.cs=a.tmps) (hfb:B2.fb=B.fb) (hJ2:B2.J=noJ) (H2:Rel N M1 B2 W1 κ2 M2 τ2 a2 W2) (hk:∀ t v,lk τ2.r t=some v→t∈ks):Rel N M0 B w0 κ2 M2 τ2 a W2:=by
 have hBn:B.n≤W.heap.size:=by rw [H.base]; exact H.blw.size
 have ho:∀ g,B2.own g→B.own g:=fun g hg=>(h.own g hg).elim (fun h=>.inl (by omega)) fun ⟨id,ob,h1,h2⟩=>(H.blk_lt h1 h2).1
 have hu1:Und B W W1:=⟨h.calm.os,h.calm.tape,h.calm.output,h.calm.size,fun k hk hs=>h.block k (by omega) (fun ⟨id,ob,h1,h2⟩=>(H.blk_lt h1 h2).1.elim (fun h=>by omega) hs) (by omega),h.calm.siz⟩
 have hu2:Und B W1 W2:=⟨H2.blw.os,H2.blw.tape,H2.blw.output,H2.blw.size,fun k hk hs=>H2.blw.block k (by rw [H2.base]; have:=h.calm.size; omega) (fun h2=>(ho k (.inr h2)).elim (fun h=>by omega) hs),H2.blw.siz⟩
 exact
 { dfr:=H.dfr,jst:=H.jst,pin:=H.pin,size:=H.size
   regs:=fun t v ht=>by
    obtain ⟨h1,c,h2,h3⟩:=H2.regs t v ht
    rw [H2.pin t (by rw [hps]; exact hk t v ht),hcs] at h2
    exact ⟨h1,c,h2,h3⟩
   heap:=fun id ob h=>bZ (B:=B2) (fun g hg=>ho g (H2.blk_lt h hg).1) (by rw [hJ,hJ2]) (H2.heap id ob h)
   inj:=H2.inj,snd:=H2.snd,sep:=H2.sep
   sub:=⟨fun p v hp=>H2.sub.sub p v (h.mem p v (hm p v (H.sub.sub p v hp))),H2.sub.fmS,fun p v hp=>by rw [←hfb]; exact H2.sub.fmN p v hp,H.sub.fbn,H.sub.gl⟩
   new:=fun p v hp=>(H2.new p v hp).elim (fun h1=>(h.new p v h1).elim (hnew p v) fun h2=>.inr (h2.elim (fun h=>.inl (by omega)) fun ⟨id,ob,h1,h2⟩=>(H.blk_lt h1 h2).1)) fun h=>.inr (ho _ h)
   base:=H.base
   blw:=(H.blw.trans hu1).trans hu2 }
theorem rJ (hmx:P.follows .mixedOrders=true) (hJ:B.J=noJ) {ρ:Option Nat} {ks:List Nat} {ps:Array Nat} {assign body:Code} {xa xb:AC} (hLa:LC P N ks assign xa) (hLb:LC P N ks body xb) {κi:Kap} {Mi Mm:Mem} {τ:St} {w1:World} {l D fnid:Nat} {r:Loop}
 (H:Rel N M0 B w0 κi Mi τ a w1) (hm:∀ p v,Mi p=some v→Mm p=some v) (hl:w1.heap[l]?=some (.loop r)) (hlD:∀ g,cj κi τ.h g→g≠l∧g≠D) (hr:r.state=.ready)
 (hMs:Snd Mm w1) (hsep:∀ p v,Mm p=some v→¬cj κi τ.h p.block)
 {us:List V} {cs:Array Value} (hus:ac Mm NX us cs.toList) (hps:∀ t∈ps.toList,t < N∧t ∉ ks) {R:Ending→World→Prop} {post:Ex→St→Prop}
 (hW:W (Cn P) xa (Ex.then (W (Cn P) xb post) (fun _ _=>False)) ⟨kG ps.toList us τ.r,τ.h⟩)
 (hpost:∀ e τ2 κ2 M1 M2 a2 W1 W2 B2,post e τ2→Mid (cj κi τ.h) l Mm w1 B2 M1 W1→B2.ps=ks→B2.cs=a.tmps→B2.fb=B.fb→B2.J=noJ→Rel N M1 B2 W1 κ2 M2 τ2 a2 W2→W2.heap[l]?=some (.loop { r with state:=.busy })→roundPost P l R e.out a2 W2):
 RoundIn (FR ρ) 0 P l fnid ((ps.zip cs).foldl (fun tmps (x:Nat × Value)=>tmps.setIfInBounds x.1 x.2) a.tmps) assign body w1 R:=by
 have H0:Rel N Mm (pS κi τ.h w1 ks a.tmps B.fb) w1 κi Mm τ ⟨a.tmps,[]⟩ w1:=H.rnd hJ (fun _ _=>rfl) (Calm.refl _) (fun _ _=>rfl) hm hMs hsep
 have H1:=Rel.zip H0 hus hps
 have e1:(ps.zip cs).foldl (fun tmps (x:Nat × Value)=>tmps.setIfInBounds x.1 x.2) a.tmps=(ps.toList.zip cs.toList).foldl (fun tmps (x:Nat × Value)=>tmps.setIfInBounds x.1 x.2) a.tmps:=by
  rw [←Array.foldl_toList,Array.toList_zip]
 rw [e1]
 have hll:l < w1.heap.size:=(Array.getElem?_eq_some_iff.1 hl).1
 have hnl:¬cj κi τ.h l:=fun h=>(hlD l h).1 rfl
 refine roundIn_of_wpIn (F:=FR ρ) trivial (gU (ρ:=some l) hmx (ge rfl) (B:=pS κi τ.h w1 ks a.tmps B.fb) hLa ?_ H1 hW)
 intro e κa Ma τa aa Wa hR Ha
 cases e with
 | norm=>
   have hla:Wa.heap[l]?=some (.loop r):=by rw [Ha.blw.block l hll hnl]; exact hl
   refine ⟨_,run_beginRound hla hr,?_⟩
   have hnl2:¬cj κa τa.h l:=fun ⟨id,ob,h1,h2⟩=>(Ha.blk_lt h1 h2).1.elim (fun h=>absurd h (Nat.not_le.2 hll)) hnl
   have hcp:Calm Wa (Wa.putObj l (.loop { r with state:=.busy })):=mW hla bI
   have hsn:∀ p v,Ma p=some v→(Wa.putObj l (.loop { r with state:=.busy })).cell? p=some v:=fun p v hp=>gy hla bI (Ha.snd p v hp)
   have Hb:Rel N Ma (pS κa τa.h (Wa.putObj l (.loop { r with state:=.busy })) ks a.tmps B.fb) (Wa.putObj l (.loop { r with state:=.busy })) κa Ma τa ⟨aa.tmps,[]⟩ (Wa.putObj l (.loop { r with state:=.busy })):=
    Rel.rnd (B:=pS κi τ.h w1 ks a.tmps B.fb) rfl Ha Ha.pin hcp (fun g hg=>World.putObj_heap_other (fun e=>hnl2 (e ▸ hg))) (fun _ _ h=>h) ⟨hsn,Ha.sub.gl.mono Ha.sub.sub⟩ (fun p v hp ⟨id,ob,h1,h2⟩=>Ha.sep p v hp id ob h1 h2)
   have ea:aa=⟨aa.tmps,[]⟩:=by have:=Ha.dfr; cases aa; simp only at this; rw [this]; rfl
   rw [ea]
   have hMid:Mid (cj κi τ.h) l Mm w1 (pS κa τa.h (Wa.putObj l (.loop { r with state:=.busy })) ks a.tmps B.fb) Ma (Wa.putObj l (.loop { r with state:=.busy })):=Mid.refl.next Ha hcp (fun g hg=>World.putObj_heap_other hg)
   refine gU (ρ:=some l) hmx (ge rfl) (B:=pS κa τa.h (Wa.putObj l (.loop { r with state:=.busy })) ks a.tmps B.fb) hLb ?_ Hb hR
   intro e κ2 M2 τ2 a2 W2 hp H2
   refine hpost e τ2 κ2 Ma M2 a2 _ W2 _ hp hMid rfl rfl rfl rfl H2 ?_
   have hl3:l < Wa.heap.size:=(Array.getElem?_eq_some_iff.1 hla).1
   rw [H2.blw.block l (by show l < (Wa.putObj l _).heap.size; simpa using hl3) hnl2]
   exact World.putObj_heap_same hl3
 | exit id=>exact hR.elim
 | goto l=>exact hR.elim
 | ret=>exact hR.elim
end
section
variable {P:Program} {N:Nat} {M0:Mem} {B:Bas} {w0:World} {κ:Kap} {M:Mem} {σ:St} {a:Act} {w w':World}
def tl (st:Nat→St) (stx:St) (ks:List Nat) (i:Nat) (b:Bool):Ex→St→Prop
 | .norm,τ=>b=true∧∃ ms τ',τ.mats ms=some τ'∧τ'.nrm ks=st (i + 1)
 | .ret,τ=>b=false∧∃ ms τ',τ.mats ms=some τ'∧τ'.nrm ks=stx
 | _,_=>False
def gk (fn:FuncId) (a:Act) (ps:Array Tmp) (assign body:Code) (D:Nat) (s:LoopState) (p:Option Code):Loop:={ state:=s,pending:=p,fn,tmps:=a.tmps,params:=ps,assign,body,defers:=D }
def DS (N:Nat) (M0:Mem) (B:Bas) (w0:World) (a:Act) (ks:List Nat) (l D:Nat) (full:List (V × Bool)) (st:Nat→St) (stx:St) (rec:LoopState→Option Code→Loop):Nat→List (V × Bool)→(Nat→Prop)→Mem→World→Prop:=fun k ann S Mm W=>k=l∧
 ((∃ i,ann=full.drop i∧i≤full.length∧(∀ (j:Nat) (v:V) (b:Bool),j < i→full[j]?=some (v,b)→b=true)∧tn N M0 B w0 a ks l D (st i) (rec .ready none) S Mm W)∨
  (ann=[]∧(∃ (j:Nat) (v:V),full[j]?=some (v,false))∧tn N M0 B w0 a ks l D stx (rec .done (some .ret)) S Mm W))
theorem oQ {ks:List Nat} {κi κ2:Kap} {Mi Mm M1 M2:Mem} {τ τ2:St} {W1 W2:World} {a2:Act} {B2:Bas} {l D:Nat} {S:Nat→Prop} {r r2:Loop} (hJ:B.J=noJ) (H:Rel N M0 B w0 κi Mi τ a w) (hm:∀ p v,Mi p=some v→Mm p=some v)
 (hnew:∀ p v,Mm p=some v→M0 p=some v∨B.own p.block) (hl:B.n≤l) (hld:l≠D) (hS:∀ g,S g↔cj κi τ.h g∨g=l∨g=D) (hlD:∀ g,cj κi τ.h g→g≠l∧g≠D) (hlw:l < w.heap.size) (hD:w.heap[D]?=some (.deferred (some [])))
 (h:Mid (cj κi τ.h) l Mm w B2 M1 W1) (hps:B2.ps=ks) (hcs:B2.cs=a.tmps) (hfb:B2.fb=B.fb) (hJ2:B2.J=noJ) (H2:Rel N M1 B2 W1 κ2 M2 τ2 a2 W2) (hk:∀ t v,lk τ2.r t=some v→t∈ks) (hl2:W2.heap[l]?=some (.loop r)):
 tn N M0 B w0 a ks l D τ2 r2 (fun g=>cj κ2 τ2.h g∨g=l∨g=D) M2 (W2.putObj l (.loop r2))∧EnvStep S w (fun g=>cj κ2 τ2.h g∨g=l∨g=D) Mm M2 (W2.putObj l (.loop r2)):=by
 have hDw:D < w.heap.size:=(Array.getElem?_eq_some_iff.1 hD).1
 have hbk:∀ g,cj κ2 τ2.h g→w.heap.size≤g∨cj κi τ.h g:=fun g ⟨id,ob,h1,h2⟩=>h.own g (H2.blk_lt h1 h2).1
 have hb2:∀ g,cj κ2 τ2.h g→g≠l∧g≠D:=fun g hg=>(hbk g hg).elim (fun h=>⟨by omega,by omega⟩) (hlD g)
 have hW:∀ g,g < w.heap.size→¬cj κi τ.h g→g≠l→W2.heap[g]?=w.heap[g]?:=fun g hg hS hl=>by
  rw [H2.blw.block g (by rw [H2.base]; have:=h.calm.size; omega) (fun hs=>(h.own g (.inr hs)).elim (fun h=>by omega) hS)]
  exact h.block g hg hS hl
 have hD2:W2.heap[D]?=some (.deferred (some [])):=by rw [hW D hDw (fun hd=>(hlD D hd).2 rfl) (Ne.symm hld)]; exact hD
 have hl3:l < W2.heap.size:=(Array.getElem?_eq_some_iff.1 hl2).1
 have hcm:Calm w W2:=h.calm.trans (.of_und H2.blw)
 have hcp:=mW (o':=.loop r2) hl2 bI
 have hR:=Rel.unrnd hJ H hm hnew hl h hps hcs hfb hJ2 H2 hk
 have hs3:∀ p v,M2 p=some v→(W2.putObj l (.loop r2)).cell? p=some v:=fun p v hp=>gy hl2 bI (H2.snd p v hp)
 have hS3:∀ p v,M2 p=some v→¬(cj κ2 τ2.h p.block∨p.block=l∨p.block=D):=fun p v hp=>by
  rintro (⟨id,ob,h1,h2⟩ | h1 | h1)
  · exact H2.sep p v hp id ob h1 h2
  · exact gQ hl2 bI (H2.snd p v hp) h1
  · exact gQ hD2 ga (H2.snd p v hp) h1
 refine ⟨⟨κ2,M2,hR.stay (li hl2 bI hl) (fun g hg=>World.putObj_heap_other (hb2 g hg).1) hs3,hk,fun _ _ h=>h,World.putObj_heap_same hl3,by rw [World.putObj_heap_other (Ne.symm hld)]; exact hD2,fun g=>Iff.rfl,hb2⟩,?_⟩
 have hc3:=hcm.trans hcp
 exact { os:=hc3.os,tape:=hc3.tape,output:=hc3.output,size:=hc3.size
         block:=fun g hg hn=>by
          have:g≠l:=fun e=>hn ((hS g).2 (.inr (.inl e)))
          rw [World.putObj_heap_other this]
          exact hW g hg (fun hb=>hn ((hS g).2 (.inl hb))) this
         siz:=hc3.siz
         mem:=fun p v hp=>H2.sub.sub p v (h.mem p v hp)
         snd:=hs3
         new:=fun p v hp=>by
          rcases H2.new p v hp with h1 | h1
          · rcases h.new p v h1 with h2 | h2 | h2
            · exact .inl h2
            · exact .inr (.inl h2)
            · exact .inr (.inr ((hS _).2 (.inl h2)))
          · rcases h.own _ h1 with h2 | h2
            · exact .inr (.inl h2)
            · exact .inr (.inr ((hS _).2 (.inl h2)))
         sep:=hS3
         sub:=fun g hg=>by
          rcases hg with hg | hg | hg
          · exact (hbk g hg).elim .inr fun h=>.inl ((hS g).2 (.inl h))
          · exact .inl ((hS g).2 (.inr (.inl hg)))
          · exact .inl ((hS g).2 (.inr (.inr hg)))
         lt:=fun g hg=>by
          rw [World.putObj_size]
          rcases hg with ⟨id,ob,h1,h2⟩ | hg | hg
          · exact (H2.blk_lt h1 h2).2
          · rw [hg]; exact hl3
          · rw [hg]; exact (Array.getElem?_eq_some_iff.1 hD2).1 }
theorem wW (hmx:P.follows .mixedOrders=true) (hJ:B.J=noJ) {ks:List Nat} {ps:Array Nat} {assign body:Code} {xa xb:AC} (hLa:LC P N ks assign xa) (hLb:LC P N ks body xb) {l D fnid:Nat} (hl:B.n≤l) (hld:l≠D)
 (hps:∀ t∈ps.toList,t < N∧t ∉ ks) {full:List (V × Bool)} {st:Nat→St} {stx:St} (hlen:∀ (i:Nat) (us:List V) (b:Bool),full[i]?=some (.tup us,b)→us.length=ps.size) (hfull:∀ (i:Nat) (v:V),full[i]?=some (v,false)→i + 1=full.length)
 (hround:∀ (i:Nat) (us:List V) (b:Bool),full[i]?=some (.tup us,b)→W (Cn P) xa (Ex.then (W (Cn P) xb (tl st stx ks i b)) (fun _ _=>False)) ⟨kG ps.toList us (st i).r,(st i).h⟩)
 {Mst:Mem} {Bit:Bas} (hBJ:Bit.J=DS N M0 B w0 a ks l D full st stx (gk fnid a ps assign body D)) (hMst:∀ p v,Mst p=some v→M0 p=some v∨B.own p.block) (hown:∀ g,Bit.own g→B.own g):d7 P Mst Bit:=by
 intro k us b rest S Mm W cs hjj hMs hsep hnew hus o a' Nx Q ρ hN
 rw [hBJ] at hjj
 obtain ⟨rfl,(⟨i,hd,hi,htr,κi,Mi,H,hk,hm,hlW,hDW,hS,hlD⟩ | ⟨h0,_⟩)⟩:=hjj
 · have hfi:full[i]?=some (.tup us,b):=by
    have:(full.drop i)[0]?=some (.tup us,b):=by rw [←hd]; rfl
    simpa using this
   have hrest:rest=full.drop (i + 1):=by
    have:(full.drop i).drop 1=rest:=by rw [←hd]; rfl
    rw [←this,List.drop_drop]
   have hil:i < full.length:=(List.getElem?_eq_some_iff.1 hfi).1
   have hsz:cs.size=ps.size:=by
    have:=ap hus
    rw [←hlen i us b hfi,←this]; simp
   rw [run_yield hlW hsz,Oper.uponIn_round]
   have hlw:k < W.heap.size:=(Array.getElem?_eq_some_iff.1 hlW).1
   refine ⟨fun h=>(by cases h),rJ hmx hJ hLa hLb H hm hlW hlD rfl hMs (fun p v hp hb=>hsep p v hp ((hS _).2 (.inl hb))) hus hps (hround i us b hfi) ?_⟩
   intro e τ2 κ2 M1 M2 a2 W1 W2 B2 hp hMid hps2 hcs2 hfb2 hJ2 H2 hl2
   have hnew':∀ p v,Mm p=some v→M0 p=some v∨B.own p.block:=fun p v hp=>(hnew p v hp).elim (hMst p v) fun h=>.inr (hown _ h)
   cases e with
   | norm=>
     obtain ⟨rfl,ms,τ',h1,h2⟩:=hp
     obtain ⟨κ3,M3,H3⟩:=H2.mats h1
     have H4:=H3.nrm' ks
     have hk4:∀ t v,lk (st (i + 1)).r t=some v→t∈ks:=fun t v h=>t8 (by rw [h2]; exact h)
     rw [h2] at H4
     obtain ⟨hE,hst⟩:=oQ (r2:=gk fnid a ps assign body D .ready none) hJ H hm hnew' hl hld hS hlD hlw hDW hMid hps2 hcs2 hfb2 hJ2 H4 hk4 hl2
     refine ⟨_,_,run_endRound none hl2,hN _ _ _ ?_ hst⟩
     rw [hBJ]
     refine ⟨rfl,.inl ⟨i + 1,hrest,hil,fun j v b' hj hjb=>?_,hE⟩⟩
     rcases Nat.lt_or_ge j i with h | h
     · exact htr j v b' h hjb
     · obtain rfl:j=i:=by omega
       rw [hfi] at hjb
       cases hjb; rfl
   | ret=>
     obtain ⟨rfl,ms,τ',h1,h2⟩:=hp
     obtain ⟨κ3,M3,H3⟩:=H2.mats h1
     have H4:=H3.nrm' ks
     have hk4:∀ t v,lk stx.r t=some v→t∈ks:=fun t v h=>t8 (by rw [h2]; exact h)
     rw [h2] at H4
     obtain ⟨hE,hst⟩:=oQ (r2:=gk fnid a ps assign body D .done (some .ret)) hJ H hm hnew' hl hld hS hlD hlw hDW hMid hps2 hcs2 hfb2 hJ2 H4 hk4 hl2
     refine ⟨_,_,run_endRound (some .ret) hl2,hN _ _ _ ?_ hst⟩
     rw [hBJ]
     refine ⟨rfl,.inr ⟨?_,⟨i,_,hfi⟩,hE⟩⟩
     rw [hrest,List.drop_eq_nil_iff,hfull i _ hfi]
     exact Nat.le_refl _
   | exit id=>exact hp.elim
   | goto t=>exact hp.elim
 · cases h0
theorem wV {ks:List Nat} {l D:Nat} {full:List (V × Bool)} {st:Nat→St} {stx:St} {rec:LoopState→Option Code→Loop} {Bit:Bas} (hBJ:Bit.J=DS N M0 B w0 a ks l D full st stx rec) (hn:B.n≤Bit.n) (hown:∀ g,Bit.own g→B.own g):m8 Bit:=by
 intro k ann S Mm Mm' W W' hj hu hS hm hs
 rw [hBJ] at hj ⊢
 have hu':Und B W W':=⟨hu.os,hu.tape,hu.output,hu.size,fun g hg hs=>hu.block g (by omega) (fun h=>(hown g (.inr h)).elim (fun h=>by omega) hs),hu.siz⟩
 obtain ⟨rfl,(⟨i,h1,h2,h3,h4⟩ | ⟨h1,h2,h4⟩)⟩:=hj
 · exact ⟨rfl,.inl ⟨i,h1,h2,h3,h4.stay hu' hS hm hs⟩⟩
 · exact ⟨rfl,.inr ⟨h1,h2,h4.stay hu' hS hm hs⟩⟩
abbrev dJ (D:Nat):Deferred:={ target:=.collected D,args:=#[] }
def dqB (B:Bas) (D:Nat):Bas:=⟨B.n,B.S,B.ps,B.cs,B.fb,fun _ l S _ w=>l=[]∧(∀ g,S g↔g=D)∧w.heap[D]?=some (.deferred (some [])),dJ D::B.df⟩
theorem yQ {D:Nat} {Mst:Mem}:d7 P Mst (dqB B D):=fun _ _ _ _ _ _ _ _ h=>by cases h.1
theorem yP {D:Nat}:m8 (dqB B D):=fun k l S M M' w w' h hu hS _ _=>⟨h.1,h.2.1,by rw [hS D ((h.2.1 D).2 rfl)]; exact h.2.2⟩
theorem CC {B':Bas} {X:V→Value→Prop} {id:Nat} {ob:Ob} (hJ:B.J=noJ) (ho:∀ g,κ.bl id g→B'.own g) (h:aq κ M X B w id ob):aq κ M X B' w id ob:=by
 cases ob with
 | gh l=>obtain ⟨k,_,h1,_⟩:=h; rw [hJ] at h1; exact h1.elim
 | box cs=>exact bZ (B:=B) (B':=⟨B'.n,B'.S,B'.ps,B'.cs,B'.fb,B.J,B'.df⟩) ho rfl h
 | arr e sz l=>exact bZ (B:=B) (B':=⟨B'.n,B'.S,B'.ps,B'.cs,B'.fb,B.J,B'.df⟩) ho rfl h
 | mat e e2 sz l=>exact bZ (B:=B) (B':=⟨B'.n,B'.S,B'.ps,B'.cs,B'.fb,B.J,B'.df⟩) ho rfl h
 | mp kt l=>exact bZ (B:=B) (B':=⟨B'.n,B'.S,B'.ps,B'.cs,B'.fb,B.J,B'.df⟩) ho rfl h
 | itr s p=>exact bZ (B:=B) (B':=⟨B'.n,B'.S,B'.ps,B'.cs,B'.fb,B.J,B'.df⟩) ho rfl h
theorem Rel.dq {D:Nat} (hJ:B.J=noJ) (H:Rel N M0 B w0 κ M σ a w) (hD:w.heap[D]?=some (.deferred (some []))) (hn:B.n≤D) (hb:∀ g,cj κ σ.h g→g≠D):
 Rel N M0 (dqB B D) w0 (ba κ σ.h.length (.func (.yield 0) #[] #[]) (fun _=>Go.undef) (fun g=>g=D)) M ⟨σ.r,σ.h++[some (.gh [])]⟩ { a with defers:=dJ D::a.defers } w:=by
 have H':Rel N M0 (dqB B D) w0 κ M σ { a with defers:=dJ D::a.defers } w:=
  { dfr:=by show dJ D::a.defers=dJ D::B.df; rw [H.dfr]
    jst:=yP,pin:=H.pin,size:=H.size,regs:=H.regs
    heap:=fun id ob h=>CC hJ (fun g hg=>(H.blk_lt h hg).1) (H.heap id ob h)
    inj:=H.inj,snd:=H.snd,sep:=H.sep,sub:=⟨H.sub.sub,H.sub.fmS,H.sub.fmN,H.sub.fbn,H.sub.gl⟩,new:=H.new,base:=H.base
    blw:=⟨H.blw.os,H.blw.tape,H.blw.output,H.blw.size,H.blw.block,H.blw.siz⟩ }
 refine H'.newOb' (w':=w) (Below.refl _ _) (fun g hg j oj hj hj'=>hb g ⟨j,oj,hj,hj'⟩ hg) (fun p v hp hg=>gQ hD ga (H.snd p v hp) hg) ?_
 simp only [aq]
 rw [aF,av]
 exact ⟨0,rfl,⟨rfl,fun g=>Iff.rfl,hD⟩,fun g hg=>⟨by rw [hg]; exact .inl hn,by rw [hg]; exact (Array.getElem?_eq_some_iff.1 hD).1⟩⟩
theorem Calls.mono' {f:FuncId} {args:Array Value} {R R':Ending→World→Prop} (h:Calls P f args w R) (hr:∀ e w',R e w'→R' e w'):Calls P f args w R':=h.mono hr
theorem vO (hmx:P.follows .mixedOrders=true) (hJ:B.J=noJ) (H:Rel N M0 B w0 κ M σ a w) {ks:List Nat} {ps:Array Nat} {assign body:Code} {xa xb:AC} (hLa:LC P N ks assign xa) (hLb:LC P N ks body xb)
 (hps:∀ t∈ps.toList,t < N∧t ∉ ks) {full:List (V × Bool)} {st:Nat→St} {stx:St} (hlen:∀ (i:Nat) (us:List V) (b:Bool),full[i]?=some (.tup us,b)→us.length=ps.size) (hfull:∀ (i:Nat) (v:V),full[i]?=some (v,false)→i + 1=full.length)
 (hround:∀ (i:Nat) (us:List V) (b:Bool),full[i]?=some (.tup us,b)→W (Cn P) xa (Ex.then (W (Cn P) xb (tl st stx ks i b)) (fun _ _=>False)) ⟨kG ps.toList us (st i).r,(st i).h⟩)
 {g:Operand} {g':AO} {tg:TypeId} (hg:cO P tg g=some g') {gf:FuncId} {id:Nat} {cs cs':List V} (hgv:σ.ev g'=some (.fn (.func gf) [] [.ptr id 0])) (hbx:σ.h[id]?=some (some (.box cs))) (hcs:purs [] cs=some cs')
 (hid:id ∉ σ.ids ks) (hst0:σ.nrm ks=st 0) (hen:∀ args w,(callFunc gf args).run P w=.ok (.enter gf args) w)
 (hF:FnH P gf [0] [.ref 0 0,.ptr 1 0] [some (.gh full),some (.box cs')] (.tup []) [some (.gh [])])
 {Q:Exit→Act→World→Prop}
 (hdone:(∀ p∈full,p.2=true)→∀ κ' M' w' D,Rel N M0 (dqB B D) w0 κ' M' ⟨(st full.length).r,(st full.length).h++[some (.gh [])]⟩ { a with defers:=dJ D::a.defers } w'→Q .normal { a with defers:=dJ D::a.defers } w')
 (hstop:(∃ p∈full,p.2=false)→∀ κ' M' w' D,Rel N M0 (dqB B D) w0 κ' M' ⟨stx.r,stx.h++[some (.gh [])]⟩ { a with defers:=dJ D::a.defers } w'→Q .ret { a with defers:=dJ D::a.defers } w'):
 (Code.rangeFunc g ps assign body).wpIn (FR none) 0 P Q a w:=by
 refine wpIn_rangeFunc ?_
 intro fnid hfn
 obtain ⟨D,hDe⟩:∃ D,w.heap.size=D:=⟨_,rfl⟩
 obtain ⟨l,hle⟩:∃ l,w.heap.size + 1=l:=⟨_,rfl⟩
 obtain ⟨W1,hW1⟩:∃ W1,(w.alloc (.deferred (some []))).alloc (.loop (gk fnid a ps assign body D .ready none))=W1:=⟨_,rfl⟩
 have hent:=run_enterLoop_outer (P:=P) (w:=w) fnid a.tmps ps assign body
 rw [hDe,show D + 1=l by omega] at hent
 have hent':(Instr.enterLoop fnid a.tmps ps assign body (FR none).round).run P w=.ok (l,[dJ D]) W1:=by rw [←hW1]; exact hent
 have hL1:W1.heap[l]?=some (.loop (gk fnid a ps assign body D .ready none)):=by
  rw [←hW1,←hle]; have:=World.alloc_heap_new (w.alloc (.deferred (some []))) (.loop (gk fnid a ps assign body D .ready none)); rwa [World.size_alloc] at this
 have hD1:W1.heap[D]?=some (.deferred (some [])):=by
  rw [←hW1,←hDe]; exact (Below.heap_alloc _ _ _ (by simp)).trans (World.alloc_heap_new w _)
 have hbel:Below w.heap.size w W1:=by
  rw [←hW1]; exact (((Below.refl _ w).alloc (Nat.le_refl _) _).alloc (by simp) _)
 have hBn:B.n≤w.heap.size:=by rw [H.base]; exact H.blw.size
 have hfv:=H.op hg hgv
 simp only [rep] at hfv
 obtain ⟨a1,a2,hev,hr1,hr2⟩:=hfv
 simp only [ac] at hr1 hr2
 have ha1:a1=#[]:=by cases a1; simp at hr1; rw [hr1]
 obtain ⟨c,c',hr2,hc,rfl⟩:=hr2
 have ha2:a2=#[c]:=by cases a2; simp at hr2; rw [hr2]
 subst ha1 ha2
 have hc':=hc
 simp only [rep,XX] at hc
 obtain ⟨b0,hb1,hb2⟩:=hc.2.2 cs hbx
 subst hb2
 -- the state at the start
 have H1:=H.grow0 hbel
 have H2:=H1.nrm' ks
 rw [hst0] at H2
 have hk0:∀ t v,lk (st 0).r t=some v→t∈ks:=fun t v h=>t8 (by rw [hst0]; exact h)
 have hbl0:∀ g,cj (κ.ren (σ.ids ks)) (st 0).h g→∃ j ob,j≠id∧σ.h[j]?=some (some ob)∧κ.bl j g:=by
  rintro g ⟨j,ob,h1,h2⟩
  rw [←hst0,tT] at h1
  obtain ⟨i,ob',g1,g2,_⟩:=cW h1
  refine ⟨i,ob',fun e=>hid (e ▸ List.mem_of_getElem? g1),g2,?_⟩
  simpa [Kap.ren,List.getD,g1] using h2
 have hlD0:∀ g,cj (κ.ren (σ.ids ks)) (st 0).h g→g≠l∧g≠D:=fun g hg=>by
  obtain ⟨j,ob,_,h1,h2⟩:=hbl0 g hg
  have:=(H.blk_lt h1 h2).2
  omega
 let S0:Nat→Prop:=fun g=>cj (κ.ren (σ.ids ks)) (st 0).h g∨g=l∨g=D
 let κit:Kap:=⟨fun j=>if j=0 then .func (.yield l) #[] #[] else κ id,fun _ _=>Go.undef,fun j=>if j=0 then S0 else κ.bl id,fun _=>none⟩
 let J:=DS N M0 B w0 a ks l D full st stx (gk fnid a ps assign body D)
 let Hit:List (Option Ob):=[some (.gh full),some (.box cs')]
 let Bit:Bas:=co κit Hit W1 [0] (#[.func (.yield l) #[] #[]]++#[Value.pointer (some ⟨b0,0,none⟩)]) J
 have hWs:W1.heap.size=w.heap.size + 2:=by rw [←hW1]; simp
 have hown:∀ g,Bit.own g→B.own g:=by
  rintro g (h | ⟨j,ob,h1,h2⟩)
  · have h:W1.heap.size≤g:=h
    exact .inl (by omega)
  · match j,h1,h2 with
    | 0,h1,h2=>
      have h2:S0 g:=h2
      rcases h2 with h2 | h2 | h2
      · obtain ⟨j,ob,_,h3,h4⟩:=hbl0 g h2; exact (H.blk_lt h3 h4).1
      · exact .inl (by omega)
      · exact .inl (by omega)
    | 1,h1,h2=>
      have h2:κ.bl id g:=h2
      exact (H.blk_lt hbx h2).1
    | j + 2,h1,h2=>simp [Hit] at h1
 have hpre:Heap κit M Bit W1 Hit:=
  { heap:=fun j ob hj=>by
     match j,hj with
     | 0,hj=>
       have:ob=.gh full:=by simpa [Hit] using hj.symm
       subst this
       refine ⟨l,rfl,⟨rfl,.inl ⟨0,rfl,Nat.zero_le _,fun j v b h=>absurd h (Nat.not_lt_zero _),_,M,H2,hk0,fun _ _ h=>h,hL1,hD1,fun g=>Iff.rfl,hlD0⟩⟩,fun g hg=>⟨.inr ⟨0,_,rfl,hg⟩,?_⟩⟩
       have hg:S0 g:=hg
       rcases hg with hg | hg | hg
       · obtain ⟨j,ob,_,h3,h4⟩:=hbl0 g hg
         have:=(H.blk_lt h3 h4).2; omega
       · omega
       · omega
     | 1,hj=>
       have:ob=.box cs':=by simpa [Hit] using hj.symm
       subst this
       have ho:=H1.heap id _ hbx
       simp only [aq] at ho
       obtain ⟨b,arr,T,h1,h2,h3,h4,h5,h6⟩:=ho
       have h7:=aN H1 (fun _ _ h=>h) (fun i hi=>by rw [(cn hcs).1] at hi; cases hi) h4 ((cn hcs).2 σ.h)
       exact ⟨b,arr,T,h1,.inr ⟨1,_,rfl,(h6 b).2 rfl⟩,h3,aE (fun _ _ h=>h) (fun _ _ h=>h.elim) _ _ h7,h5,h6⟩
     | j + 2,hj=>simp [Hit] at hj
    inj:=fun i j oi oj g hi hj gi gj=>by
     have key:∀ g,S0 g→κ.bl id g→False:=fun g h1 h2=>by
      have:=(H.blk_lt hbx h2).2
      rcases h1 with h1 | h1 | h1
      · obtain ⟨j,ob,h3,h4,h5⟩:=hbl0 g h1
        exact h3 (H.inj j id ob _ g h4 hbx h5 h2)
      · omega
      · omega
     match i,j,hi,hj,gi,gj with
     | 0,0,_,_,_,_=>rfl
     | 1,1,_,_,_,_=>rfl
     | 0,1,_,_,gi,gj=>exact (key g gi gj).elim
     | 1,0,_,_,gi,gj=>exact (key g gj gi).elim
     | i + 2,_,hi,_,_,_=>simp [Hit] at hi
     | _,j + 2,_,hj,_,_=>simp [Hit] at hj
    snd:=H1.snd
    sep:=fun p v hp j ob hj hg=>by
     have:=H.mem_lt hp
     match j,hj,hg with
     | 0,_,hg=>
       have hg:S0 p.block:=hg
       rcases hg with hg | hg | hg
       · obtain ⟨j,ob,_,h3,h4⟩:=hbl0 _ hg; exact H.sep p v hp j ob h3 h4
       · omega
       · omega
     | 1,_,hg=>exact H.sep p v hp id _ hbx hg
     | j + 2,hj,_=>simp [Hit] at hj
    fmS:=fun _ _ h=>by cases h
    gl:=H.sub.gl.mono H.sub.sub
    jst:=wV (Bit:=Bit) rfl (by show B.n≤W1.heap.size; omega) hown }
 have hJC:d7 P M Bit:=wW hmx hJ hLa hLb (by omega) (by omega) hps hlen hfull hround rfl H.new hown
 have hus:ac M (XX κit Hit) [.ref 0 0,.ptr 1 0] (#[Value.func (.yield l) #[] #[]]++#[Value.pointer (some ⟨b0,0,none⟩)]).toList:=by
  simp only [ac,rep,XX]
  refine ⟨_,_,rfl,⟨rfl,by simp [Hit],fun e sz l h=>by simp [Hit] at h,fun e e2 sz l h=>by simp [Hit] at h,fun o ho hn=>rfl⟩,_,_,rfl,⟨rfl,by simp [Hit],fun cs1 h1=>⟨b0,hb1,rfl⟩⟩,rfl⟩
 refine ⟨l,[dJ D],W1,{ target:=.fn (.func gf) #[Value.pointer (some ⟨b0,0,none⟩)],args:=#[.func (.yield l) #[] #[]] },W1,gf,#[.func (.yield l) #[] #[]]++#[Value.pointer (some ⟨b0,0,none⟩)],W1,hent',?_,fun _ _=>trivial,?_,fun h=>(by cases h),?_⟩
 · simp only [resolve,hev]
   simp [go_sem]
 · simp [invoke,go_sem,hen]
 · have hcall:=hF M W1 κit _ J hJC hpre hus (default:Oper) a (fun _ w''=>rangePost (FR none) 0 P l Q { a with defers:=[dJ D]++a.defers } (.returned Go.undef) w'') (fun _ _ _=>False) (fun c2 M' w' κ' hr hu hh hM1 hM2 hpin=>?_)
   · rw [hen,Oper.upon_enter] at hcall
     refine mX (Calls.mono' hcall ?_)
     intro e w'' he
     cases e with
     | returned v=>exact he
     | panicked chain=>exact he.elim
     | outgrown=>obtain ⟨_,_,h⟩:=he; exact h.elim
   · obtain ⟨k,hk1,⟨rfl,hj⟩,hk3⟩:=hh.heap 0 _ rfl
     rcases hj with ⟨i,hd,hi,htr,κi,Mi,Hi,hki,hmi,hlW,hDW,hS,hlD⟩ | ⟨_,⟨j,v,hjv⟩,κi,Mi,Hi,hki,hmi,hlW,hDW,hS,hlD⟩
     · have hie:i=full.length:=by have:=List.drop_eq_nil_iff.1 hd.symm; omega
       subst hie
       refine ⟨none,_,run_endLoop hlW (by simp [gk]),?_⟩
       have Hs:=Hi.stay (li (o':=.loop { gk fnid a ps assign body D .ready none with state:=.exhausted }) hlW bI (by omega)) (fun g hg=>World.putObj_heap_other (hlD g hg).1) (fun p v hp=>gy hlW bI (Hi.snd p v hp))
       refine hdone (fun p hp=>?_) _ _ _ D (Hs.dq hJ (by rw [World.putObj_heap_other (by omega)]; exact hDW) (by omega) (fun g hg=>(hlD g hg).2))
       obtain ⟨j,hj,hjp⟩:=List.getElem_of_mem hp
       exact htr j p.1 p.2 hj (by rw [List.getElem?_eq_getElem hj,hjp])
     · refine ⟨some .ret,_,run_endLoop hlW (by simp [gk]),?_⟩
       have Hs:=Hi.stay (li (o':=.loop { gk fnid a ps assign body D .done (some .ret) with state:=.exhausted }) hlW bI (by omega)) (fun g hg=>World.putObj_heap_other (hlD g hg).1) (fun p v hp=>gy hlW bI (Hi.snd p v hp))
       exact wpIn_ret (hstop ⟨_,List.mem_of_getElem? hjv,rfl⟩ _ _ _ D (Hs.dq hJ (by rw [World.putObj_heap_other (by omega)]; exact hDW) (by omega) (fun g hg=>(hlD g hg).2)))
end
def sS:Code→List Code
 | .seq a b=>sS a++sS b
 | c=>[c]
def wpL (F:Fence) (n:Nat) (P:Program):List Code→(Exit→Act→World→Prop)→Act→World→Prop
 | [],Q,a,w=>Q .normal a w
 | c::l,Q,a,w=>c.wpIn F n P (Exit.then (wpL F n P l Q) Q) a w
section
variable {F:Fence} {n:Nat} {P:Program}
theorem iv {m:List Code} {Q:Exit→Act→World→Prop}:∀ (l:List Code),wpL F n P (l++m) Q=wpL F n P l (Exit.then (wpL F n P m Q) Q)
 | []=>by funext a w; rfl
 | c::l=>by
   funext a w
   simp only [List.cons_append,wpL]
   rw [iv l]
   congr 1
   funext e
   cases e<;>rfl
theorem w4 (c:Code):∀ {Q:Exit→Act→World→Prop} {a:Act} {w:World},wpL F n P (sS c) Q a w→c.wpIn F n P Q a w:=by
 have one:∀ (c:Code) {Q:Exit→Act→World→Prop} {a:Act} {w:World},wpL F n P [c] Q a w→c.wpIn F n P Q a w:=fun c Q a w h=>wpIn_mono h fun e a w h=>by cases e<;>exact h
 induction c with
 | seq x y ihx ihy=>
   intro Q a w h
   rw [sS,iv] at h
   exact wpIn_seq (wpIn_mono (ihx h) fun e a w h=>by
    cases e with
    | normal=>exact ihy h
    | _=>exact h)
 | _=>exact one _
end
def kF:List AC→AC
 | []=>.skip
 | x::xs=>.seq x (kF xs)
inductive LCl (P:Program) (N:Nat) (ps:List Nat):List Code→List AC→Prop
 | nil:LCl P N ps [] []
 | cons {c x l xs}:LC P N ps c x→LCl P N ps l xs→LCl P N ps (c::l) (x::xs)
section
variable {P:Program} {N:Nat} {M0:Mem} {B:Bas} {w0:World} {κ:Kap} {M:Mem} {σ:St} {a:Act} {w w':World}
theorem tj (hmx:P.follows .mixedOrders=true) (hJC:d7 P M0 B) {ρ:Option Nat} {l:List Code} {xs:List AC} (h:LCl P N B.ps l xs):∀ {Q:Exit→Act→World→Prop} {R:Ex→St→Prop},
 (∀ e κ M σ a w,R e σ→Rel N M0 B w0 κ M σ a w→Q e.out a w)→∀ {κ:Kap} {M:Mem} {σ:St} {a:Act} {w:World},Rel N M0 B w0 κ M σ a w→W (Cn P) (kF xs) R σ→wpL (FR ρ) 0 P l Q a w:=by
 induction h with
 | nil=>intro Q R hQ κ M σ a w H hW; exact hQ .norm _ _ _ _ _ hW H
 | cons hc _ ih=>
   intro Q R hQ κ M σ a w H hW
   refine gU hmx hJC hc ?_ H hW
   intro e κ M σ a w hR H
   cases e with
   | norm=>exact ih hQ H hR
   | exit id=>exact hQ (.exit id) _ _ _ _ _ hR H
   | goto l=>exact hQ (.goto l) _ _ _ _ _ hR H
   | ret=>exact hQ .ret _ _ _ _ _ hR H
structure RImg where
 pre:List AC
 g:AO
 ps:List Nat
 xa:AC
 xb:AC
 post:List AC
 rs:List RV
def lJ:List Code→List Code→Option (List Code × Nat × Operand × Array Tmp × Code × Code × List Code)
 | _,[]=>none
 | acc,c::l=>match c with
   | .block id (.rangeFunc g ps a b)=>some (acc.reverse,id,g,ps,a,b,l)
   | c=>lJ (c::acc) l
theorem j6:∀ {l acc:List Code} {pre post:List Code} {id:Nat} {g:Operand} {ps:Array Tmp} {a b:Code},lJ acc l=some (pre,id,g,ps,a,b,post)→acc.reverse++l=pre++.block id (.rangeFunc g ps a b)::post
 | [],_,_,_,_,_,_,_,_,h=>by simp [lJ] at h
 | c::l,acc,pre,post,id,g,ps,a,b,h=>by
   unfold lJ at h
   split at h
   · cases h; rfl
   · have:=j6 h
     simpa using this
def pD (P:Program) (N:Nat) (ps E:List Nat):List Code→List (List Nat)→Option (List AC × List (List Nat))
 | [],K=>some ([],K)
 | c::l,K=>match aO P N ps E c K with
   | some (x,K')=>match pD P N ps E l K' with
     | some (xs,K'')=>some (x::xs,K'')
     | none=>none
   | none=>none
theorem iZ {ps E:List Nat}:∀ {l:List Code} {K K':List (List Nat)} {xs:List AC},pD P N ps E l K=some (xs,K')→LCl P N ps l xs
 | [],K,K',xs,h=>by simp only [pD,Option.some.injEq,Prod.mk.injEq] at h; rw [←h.1]; exact .nil
 | c::l,K,K',xs,h=>by
   simp only [pD] at h
   split at h
   · rename_i x K1 h1
     split at h
     · rename_i xs' K2 h2
       cases h
       exact .cons (ci h1) (iZ h2)
     · cases h
   · cases h
def qm (P:Program) (fn:Func) (E ks:List Nat) (K:List (List Nat)) (n:Nat):Option RImg:=
 match fn.body with
 | some c=>match lJ [] (sS c) with
   | some (pre,_,g,ps,a,b,post)=>match pD P fn.ntmps [] E pre K with
     | some (xs,K1)=>match aO P fn.ntmps ks E a K1 with
       | some (xa,K2)=>match aO P fn.ntmps ks E b K2 with
         | some (xb,K3)=>match pD P fn.ntmps [] E post K3,cO P 0 g,jX P fn.results.toList with
           | some (ys,[]),some g',some rs=>if (fn.name == "runtime.NumGoroutine")=false∧n≤fn.ntmps∧ps.toList.all (fun t=>decide (t < fn.ntmps) && !(c5 t ks))=true then some ⟨xs,g',ps.toList,xa,xb,ys,rs⟩ else none
           | _,_,_=>none
         | none=>none
       | none=>none
     | none=>none
   | none=>none
 | none=>none
def uP (P:Program) (g:AO) (ks:List Nat) (full:List (V × Bool)) (s0:St):Ex→St→Prop
 | .norm,σ=>∃ (gf:FuncId) (id:Nat) (cs cs':List V),σ.ev g=some (.fn (.func gf) [] [.ptr id 0])∧σ.h[id]?=some (some (.box cs))∧purs [] cs=some cs'∧c5 id (σ.ids ks)=false∧σ.nrm ks=s0∧
    (∀ args w,(callFunc gf args).run P w=.ok (.enter gf args) w)∧FnH P gf [0] [.ref 0 0,.ptr 1 0] [some (.gh full),some (.box cs')] (.tup []) [some (.gh [])]
 | _,_=>False
def sC:List (Option Ob)→Bool
 | []=>false
 | some (.gh [])::_=>true
 | _::h=>sC h
theorem pr:∀ {h:List (Option Ob)},sC h=true→∃ id:Nat,h[id]?=some (some (.gh []))
 | [],h=>by simp [sC] at h
 | x::l,h=>by
   unfold sC at h
   split at h
   · rename_i e; cases e
   · rename_i e; cases e; exact ⟨0,rfl⟩
   · rename_i e; cases e; obtain ⟨id,hi⟩:=pr h; exact ⟨id + 1,by simpa using hi⟩
def DI (rs:List RV) (r:V) (e:Ex) (σ:St):Prop:=Res rs (·=r) e σ∧sC σ.h=true
theorem AS {B':Bas} {X:V→Value→Prop} {id:Nat} {ob:Ob} (hng:∀ l,ob≠.gh l) (hw:∀ g,κ.bl id g→w'.heap[g]?=w.heap[g]?) (hc:Calm w w') (hs:∀ p v,M p=some v→w'.cell? p=some v) (ho:∀ g,κ.bl id g→B'.own g)
 (h:aq κ M X B w id ob):aq κ M X B' w' id ob:=by
 cases ob with
 | gh l=>exact (hng l rfl).elim
 | box cs=>
   have h':aq κ M X ⟨B.n,B.S,B.ps,B.cs,B.fb,noJ,B.df⟩ w id (.box cs):=h
   have h2:aq κ M X ⟨B'.n,B'.S,B'.ps,B'.cs,B'.fb,noJ,B'.df⟩ w' id (.box cs):=dD (B:=⟨B.n,B.S,B.ps,B.cs,B.fb,noJ,B.df⟩) rfl (fun _ _ h=>h) hw hc hs ho rfl h'
   exact h2
 | arr e sz l=>
   have h':aq κ M X ⟨B.n,B.S,B.ps,B.cs,B.fb,noJ,B.df⟩ w id (.arr e sz l):=h
   have h2:aq κ M X ⟨B'.n,B'.S,B'.ps,B'.cs,B'.fb,noJ,B'.df⟩ w' id (.arr e sz l):=dD (B:=⟨B.n,B.S,B.ps,B.cs,B.fb,noJ,B.df⟩) rfl (fun _ _ h=>h) hw hc hs ho rfl h'
   exact h2
 | mat e e2 sz l=>
   have h':aq κ M X ⟨B.n,B.S,B.ps,B.cs,B.fb,noJ,B.df⟩ w id (.mat e e2 sz l):=h
   have h2:aq κ M X ⟨B'.n,B'.S,B'.ps,B'.cs,B'.fb,noJ,B'.df⟩ w' id (.mat e e2 sz l):=dD (B:=⟨B.n,B.S,B.ps,B.cs,B.fb,noJ,B.df⟩) rfl (fun _ _ h=>h) hw hc hs ho rfl h'
   exact h2
 | mp kt l=>
   have h':aq κ M X ⟨B.n,B.S,B.ps,B.cs,B.fb,noJ,B.df⟩ w id (.mp kt l):=h
   have h2:aq κ M X ⟨B'.n,B'.S,B'.ps,B'.cs,B'.fb,noJ,B'.df⟩ w' id (.mp kt l):=dD (B:=⟨B.n,B.S,B.ps,B.cs,B.fb,noJ,B.df⟩) rfl (fun _ _ h=>h) hw hc hs ho rfl h'
   exact h2
 | itr s p=>
   have h':aq κ M X ⟨B.n,B.S,B.ps,B.cs,B.fb,noJ,B.df⟩ w id (.itr s p):=h
   have h2:aq κ M X ⟨B'.n,B'.S,B'.ps,B'.cs,B'.fb,noJ,B'.df⟩ w' id (.itr s p):=dD (B:=⟨B.n,B.S,B.ps,B.cs,B.fb,noJ,B.df⟩) rfl (fun _ _ h=>h) hw hc hs ho rfl h'
   exact h2
theorem Rel.shut {D:Nat} {id:Nat} (H:Rel N M0 (dqB B D) w0 κ M σ a w) (hid:σ.h[id]?=some (some (.gh []))) (hn:B.n≤D):
 Rel N M0 ⟨B.n,B.S,B.ps,B.cs,B.fb,fun _ l _ _ _=>l=[],dJ D::B.df⟩ w0 κ M σ a (w.putObj D (.deferred none)):=by
 obtain ⟨k,_,⟨_,hS,hD⟩,_⟩:=H.heap id _ hid
 have hs:∀ p v,M p=some v→(w.putObj D (.deferred none)).cell? p=some v:=fun p v hp=>gy hD ga (H.snd p v hp)
 have hc:=mW (o':=.deferred none) hD ga
 exact
 { dfr:=H.dfr,jst:=fun _ _ _ _ _ _ _ h _ _ _ _=>h,pin:=H.pin,size:=H.size,regs:=H.regs
   heap:=fun j ob h=>by
    by_cases hg:∃ l,ob=.gh l
    · obtain ⟨l,rfl⟩:=hg
      obtain ⟨k',h1,⟨h2,_,_⟩,h4⟩:=H.heap j _ h
      exact ⟨k',h1,h2,fun g hg=>⟨(h4 g hg).1,by rw [World.putObj_size]; exact (h4 g hg).2⟩⟩
    · refine AS (B:=dqB B D) (fun l e=>hg ⟨l,e⟩) (fun g hb=>World.putObj_heap_other (fun e=>?_)) hc hs (fun g hb=>(H.blk_lt h hb).1) (H.heap j ob h)
      subst e
      have:=H.inj id j _ ob g hid h ((hS g).2 rfl) hb
      subst this
      rw [hid] at h
      cases h
      exact hg ⟨_,rfl⟩
   inj:=H.inj,snd:=hs,sep:=H.sep,sub:=⟨H.sub.sub,H.sub.fmS,H.sub.fmN,H.sub.fbn,H.sub.gl⟩,new:=H.new,base:=H.base
   blw:=(⟨H.blw.os,H.blw.tape,H.blw.output,H.blw.size,H.blw.block,H.blw.siz⟩:Und ⟨B.n,B.S,B.ps,B.cs,B.fb,fun _ l _ _ _=>l=[],dJ D::B.df⟩ w0 w).trans (li hD ga hn) }
theorem FnE.of_rng {f:FuncId} {fn:Func} {us:List V} {r:V} {E ks:List Nat} {K:List (List Nat)} {n:Nat} {im:RImg} (hm:P.follows .mixedOrders=true) (hf:P.funcs[f]?=some fn) (hi:qm P fn E ks K n=some im) (hun:us.length=n)
 {full:List (V × Bool)} {st:Nat→St} {stx:St} (hlen:∀ (i:Nat) (us:List V) (b:Bool),full[i]?=some (.tup us,b)→us.length=im.ps.length) (hfull:∀ (i:Nat) (v:V),full[i]?=some (v,false)→i + 1=full.length)
 (hpre:oks us→W (Cn P) (kF im.pre) (uP P im.g ks full (st 0)) ⟨ent 0 us,[]⟩)
 (hround:∀ (i:Nat) (us:List V) (b:Bool),full[i]?=some (.tup us,b)→W (Cn P) im.xa (Ex.then (W (Cn P) im.xb (tl st stx ks i b)) (fun _ _=>False)) ⟨kG im.ps us (st i).r,(st i).h⟩)
 (hdone:(∀ p∈full,p.2=true)→W (Cn P) (kF im.post) (DI im.rs r) ⟨(st full.length).r,(st full.length).h++[some (.gh [])]⟩)
 (hstop:(∃ p∈full,p.2=false)→DI im.rs r .ret ⟨stx.r,stx.h++[some (.gh [])]⟩):FnE P f us r:=by
 unfold qm at hi
 split at hi
 rotate_left
 · cases hi
 rename_i c hb
 split at hi
 rotate_left
 · cases hi
 rename_i pre bid g ps ca cb post hsp
 split at hi
 rotate_left
 · cases hi
 rename_i xs K1 hpr
 split at hi
 rotate_left
 · cases hi
 rename_i xa K2 hxa
 split at hi
 rotate_left
 · cases hi
 rename_i xb K3 hxb
 split at hi
 rotate_left
 · cases hi
 rename_i ys g' rs hpo hg hrs
 split at hi
 rotate_left
 · cases hi
 rename_i hcond
 cases hi
 obtain ⟨hname,hnn,hpsa⟩:=hcond
 simp only at hlen hpre hround hdone hstop
 have hps:∀ t∈ps.toList,t < fn.ntmps∧t ∉ ks:=fun t ht=>by
  have:=List.all_eq_true.1 hpsa t ht
  simp only [Bool.and_eq_true,decide_eq_true_eq,Bool.not_eq_true'] at this
  exact ⟨this.1,fun h=>by rw [cZ.2 h] at this; simp at this⟩
 refine { call:=fun args w=>?_,does:=fun M w cs hM hus=>?_ }
 · unfold callFunc
   simp only [beq_eq_false_iff_ne,ne_eq] at hname
   simp [Sem.run_bind,hf,hb,hname]
 have hl:cs.size=us.length:=by have:=ap hus; simpa using this
 refine y6 (ρ:=none) (n:=0) (callsIn_of_wp_marks (F:=FR none) hf hb trivial ?_ rfl)
 have H:Rel fn.ntmps M ⟨w.heap.size,fun _=>False,[],#[],w.heap.size,noJ,[]⟩ w ⟨fun _=>Go.undef,fun _ _=>Go.undef,fun _ _=>False,fun _=>none⟩ M ⟨ent 0 us,[]⟩ { tmps:=cs++Array.replicate (fn.ntmps - cs.size) Go.undef,defers:=[] } w:=
  { dfr:=rfl,jst:=gd rfl,pin:=fun i hi=>by cases hi
    size:=by simp; omega
    regs:=fun t v ht=>by
     obtain ⟨_,h2⟩:=mf ht
     simp only [Nat.sub_zero] at h2
     have hlt:t < us.length:=(List.getElem?_eq_some_iff.1 h2).1
     obtain ⟨c,h3,h4⟩:=bw hus h2
     refine ⟨by omega,c,?_,al (fun _ _ h=>h) (fun _ _ h=>h.elim) _ _ h4⟩
     rw [Array.getElem?_append_left (by omega)]
     simpa using h3
    heap:=fun id ob h=>by simp at h
    inj:=fun i j oi oj g h=>by simp at h
    snd:=hM.snd
    sep:=fun p v _ id ob h=>by simp at h
    sub:=⟨fun _ _ h=>h,fun _ _ h=>(by cases h),fun _ _ h=>(by cases h),Nat.le_refl _,hM.gl⟩
    new:=fun _ _ h=>.inl h
    base:=rfl
    blw:=Und.refl _ _ }
 -- the end
 have fin:∀ (D:Nat) (e:Ex) (κ1:Kap) (M1:Mem) (σ:St) (a:Act) (w1:World),DI rs r e σ→Rel fn.ntmps M (dqB ⟨w.heap.size,fun _=>False,[],#[],w.heap.size,noJ,[]⟩ D) w κ1 M1 σ a w1→
  bodyPostM (FR none) 0 P fn (fun e w'=>∃ (c:Value) (M':Mem),e=.returned c∧rep M' NX r c∧Below w.heap.size w w'∧(∀ p v,M' p=some v→w'.cell? p=some v)∧(∀ p v,M p=some v→M' p=some v)∧∀ p v,M' p=some v→M p=some v∨w.heap.size≤p.block) e.out a w1:=by
  intro D e κ1 M1 σ a w1 hR Hd
  obtain ⟨hR,hgh⟩:=hR
  obtain ⟨gid,hgid⟩:=pr hgh
  obtain ⟨k,_,⟨_,hS,hD⟩,hown⟩:=Hd.heap gid _ hgid
  have hDn:w.heap.size≤D:=by
   rcases (hown D ((hS D).2 rfl)).1 with h | h
   · exact h
   · exact h.elim
  have H1:=Hd.shut (B:=⟨w.heap.size,fun _=>False,[],#[],w.heap.size,noJ,[]⟩) hgid hDn
  simp only [Res] at hR
  obtain ⟨he,hR⟩:=hR
  split at hR
  · rename_i vs hvs
    split at hR
    · rename_i ws hws
      obtain ⟨ds,k1,k2⟩:=dS hrs H1 hvs
      obtain ⟨H2,hM1⟩:=H1.kill (ah vs) (bN hws)
      have k3:ac (ext M1 (w1.putObj D (.deferred none)) (gF κ1 (ah vs))) NX ws ds:=by
       refine aN H1 hM1 (fun id hid g hg p hpb=>?_) k1 hws
       unfold ext
       rw [if_pos (bQ.2 ⟨id,hid,by rw [hpb]; exact hg⟩)]
      have hleave:LeavesInM (FR none) 0 P fn a.tmps (fun e w'=>∃ (c:Value) (M':Mem),e=.returned c∧rep M' NX r c∧Below w.heap.size w w'∧(∀ p v,M' p=some v→w'.cell? p=some v)∧(∀ p v,M p=some v→M' p=some v)∧∀ p v,M' p=some v→M p=some v∨w.heap.size≤p.block) a.defers .returning w1:=by
       have hdf:a.defers=[dJ D]:=Hd.dfr
       rw [hdf]
       refine ⟨by simp,.inl ⟨D,_,rfl,run_takeDeferred hD,?_⟩⟩
       refine ⟨_,k2,_,_,rfl,?_,⟨H1.blw.os,H1.blw.tape,H1.blw.output,H1.blw.size,fun k hk=>H1.blw.block k hk id⟩,H2.snd,H2.sub.sub,fun p v h=>(H2.new p v h).imp_right fun h=>h.elim id False.elim⟩
       subst hR
       exact rz k3
      cases e with
      | norm=>exact hleave
      | ret=>exact hleave
      | exit id=>exact he.elim
      | goto l=>exact he.elim
    · exact hR.elim
  · exact hR.elim
 refine w4 c ?_
 have hspl:=j6 hsp
 simp only [List.reverse_nil,List.nil_append] at hspl
 rw [hspl,iv]
 refine tj hm (ge rfl) (B:=⟨w.heap.size,fun _=>False,[],#[],w.heap.size,noJ,[]⟩) (iZ hpr) ?_ H (hpre (bG hus))
 intro e κ1 M1 σ a w1 hR H1
 cases e with
 | norm=>
   obtain ⟨gf,id,bcs,bcs',e1,e2,e3,e4,e5,e6,e7⟩:=hR
   refine wpIn_block (vO hm rfl H1 (ci hxa) (ci hxb) hps (by simpa using hlen) hfull hround hg e1 e2 e3 (fun h=>by rw [cZ.2 h] at e4; cases e4) e5 e6 e7 ?_ ?_)
   · intro hall κ' M' w' D Hd
     refine tj hm yQ (B:=dqB ⟨w.heap.size,fun _=>False,[],#[],w.heap.size,noJ,[]⟩ D) (iZ hpo) ?_ Hd (hdone hall)
     exact fun e κ M σ a w h1 h2=>fin D e κ M σ a w h1 h2
   · intro hex κ' M' w' D Hd
     exact fin D .ret κ' M' _ _ w' (hstop hex) Hd
 | exit id=>exact hR.elim
 | goto l=>exact hR.elim
 | ret=>exact hR.elim
end
end Go.Abs
end
