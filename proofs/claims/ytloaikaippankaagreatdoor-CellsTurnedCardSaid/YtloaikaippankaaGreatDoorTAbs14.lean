/-
  Short words for the abstract machine's code. No condition.
  A program that goes through images: what it tells is so. For calls whose arguments are all known. No condition.
  A call that hands back the address of a variable that it made, as a call that hands back plain data. No condition.
  A range over a function: what holds behind the iterator, by its contract, and behind the rounds, by their image. No condition.
  A range over a function, whole: the iterator's contract and the rounds' images, tied. No condition.
  A function that goes through a range over a function: its contract, from its images. No condition.
-/
import Derived.Test.YtloaikaippankaaGreatDoorTAbs8
import Derived.RangeFuncRecord
set_option linter.unusedVariables false
set_option linter.unusedSimpArgs false
set_option linter.unusedSectionVars false
section
namespace Go.Abs
theorem Cn_p {P:Program}:(Cn P).p=Fn P:=rfl
theorem Cn_n {P:Program}:(Cn P).n=FnN P:=rfl
theorem Cn_e {P:Program}:(Cn P).e=FnH P:=rfl
def o1 (d:Nat) (a:Act'):AOp:=⟨some d,a,none⟩
def o0 (a:Act'):AOp:=⟨none,a,none⟩
def gt (t:Nat) (o:AOp):AOp:=⟨o.d,o.a,some (t,true)⟩
def gf (t:Nat) (o:AOp):AOp:=⟨o.d,o.a,some (t,false)⟩
def ts:List Nat→List AO
 | []=>[]
 | t::l=>.t t::ts l
def m (d x:Nat):AOp:=⟨some d,.mov (.t x),none⟩
def mv (d:Nat) (v:V):AOp:=⟨some d,.mov (.v v),none⟩
def mi (d:Nat) (n:Int):AOp:=⟨some d,.mov (.v (.int .i64 n)),none⟩
def mb (d:Nat) (b:Bool):AOp:=⟨some d,.mov (.v (.bool b)),none⟩
def bt (d:Nat) (op:BinOp) (x y:Nat):AOp:=⟨some d,.bin op (.t x) (.t y),none⟩
def bi (d:Nat) (op:BinOp) (x:Nat) (n:Int):AOp:=⟨some d,.bin op (.t x) (.v (.int .i64 n)),none⟩
def bu (d:Nat) (op:BinOp) (x:Nat) (n:Int):AOp:=⟨some d,.bin op (.t x) (.v (.int .u8 n)),none⟩
def bs (d:Nat) (op:BinOp) (x:Nat) (s:List UInt8):AOp:=⟨some d,.bin op (.t x) (.v (.str s)),none⟩
def nt' (d x:Nat):AOp:=⟨some d,.un .not (.t x),none⟩
def ls (d x:Nat):AOp:=⟨some d,.lens (.t x),none⟩
def lq (d x:Nat):AOp:=⟨some d,.lenq (.t x),none⟩
def fa (d x o:Nat):AOp:=⟨some d,.fa (.t x) o,none⟩
def fl (d x o:Nat):AOp:=⟨some d,.fld (.t x) o 1 false,none⟩
def l1 (d x:Nat):AOp:=⟨some d,.ld (.t x) 1 false,none⟩
def la (d x n:Nat):AOp:=⟨some d,.ld (.t x) n true,none⟩
def ia (d x i s:Nat):AOp:=⟨some d,.ia (.t x) (.t i) s,none⟩
def ix (d x i:Nat):AOp:=⟨some d,.ixs (.t x) (.t i),none⟩
def pa (d x y:Nat):AOp:=⟨some d,.pick (.t x) (.t y) (.v (.bool false)),none⟩
def po (d x y:Nat):AOp:=⟨some d,.pick (.t x) (.v (.bool true)) (.t y),none⟩
def ex (d x i:Nat):AOp:=⟨some d,.ext (.t x) i,none⟩
def bx (d x:Nat):AOp:=⟨some d,.box (.t x),none⟩
def st (n x y:Nat):AOp:=⟨none,.st n (.t x) (.t y),none⟩
def ca (d f:Nat) (l:List Nat):AOp:=⟨some d,.call f (ts l),none⟩
def ch (d f:Nat) (l:List Nat):AOp:=⟨some d,.callH f (ts l),none⟩
def cv (d g:Nat) (l:List Nat):AOp:=⟨some d,.callv (.t g) (ts l),none⟩
def Q:List AC→AC
 | []=>.skip
 | [a]=>a
 | a::l=>.seq a (Q l)
def OQ:List AOp→OT→OT
 | [],t=>t
 | x::xs,t=>.op x (OQ xs t)
def C (c:Nat) (a b:AC):AC:=.cond (.t c) a b
theorem OQ0 {t:OT}:OQ [] t=t:=rfl
theorem OQ1 {x:AOp} {xs:List AOp} {t:OT}:OQ (x::xs) t=.op x (OQ xs t):=rfl
attribute [simp] OQ0 OQ1
section
variable {Φ:Ctr} {K:St→Prop} {σ:St} {Q':Ex→St→Prop}
theorem PZ {d:Nat} {a:Act'}:wop Φ (o1 d a) K σ=af Φ (some d) (a) K σ:=propext Iff.rfl
theorem NP {d:Nat} {a:Act'}:aC Φ (o1 d a) K σ=ag Φ (some d) (a) K σ:=propext Iff.rfl
theorem P0 {a:Act'}:wop Φ (o0 a) K σ=af Φ (none) (a) K σ:=propext Iff.rfl
theorem NQ {a:Act'}:aC Φ (o0 a) K σ=ag Φ (none) (a) K σ:=propext Iff.rfl
theorem wop_m {d x:Nat}:wop Φ (m d x) K σ=af Φ (some d) (.mov (.t x)) K σ:=propext Iff.rfl
theorem Qq {d x:Nat}:aC Φ (m d x) K σ=ag Φ (some d) (.mov (.t x)) K σ:=propext Iff.rfl
theorem P3 {d:Nat} {v:V}:wop Φ (mv d v) K σ=af Φ (some d) (.mov (.v v)) K σ:=propext Iff.rfl
theorem NR {d:Nat} {v:V}:aC Φ (mv d v) K σ=ag Φ (some d) (.mov (.v v)) K σ:=propext Iff.rfl
theorem P4 {d:Nat} {n:Int}:wop Φ (mi d n) K σ=af Φ (some d) (.mov (.v (.int .i64 n))) K σ:=propext Iff.rfl
theorem NS {d:Nat} {n:Int}:aC Φ (mi d n) K σ=ag Φ (some d) (.mov (.v (.int .i64 n))) K σ:=propext Iff.rfl
theorem P5 {d:Nat} {b:Bool}:wop Φ (mb d b) K σ=af Φ (some d) (.mov (.v (.bool b))) K σ:=propext Iff.rfl
theorem NT {d:Nat} {b:Bool}:aC Φ (mb d b) K σ=ag Φ (some d) (.mov (.v (.bool b))) K σ:=propext Iff.rfl
theorem Qm {d:Nat} {op:BinOp} {x y:Nat}:wop Φ (bt d op x y) K σ=af Φ (some d) (.bin op (.t x) (.t y)) K σ:=propext Iff.rfl
theorem Oe {d:Nat} {op:BinOp} {x y:Nat}:aC Φ (bt d op x y) K σ=ag Φ (some d) (.bin op (.t x) (.t y)) K σ:=propext Iff.rfl
theorem Qo {d:Nat} {op:BinOp} {x:Nat} {n:Int}:wop Φ (bi d op x n) K σ=af Φ (some d) (.bin op (.t x) (.v (.int .i64 n))) K σ:=propext Iff.rfl
theorem Og {d:Nat} {op:BinOp} {x:Nat} {n:Int}:aC Φ (bi d op x n) K σ=ag Φ (some d) (.bin op (.t x) (.v (.int .i64 n))) K σ:=propext Iff.rfl
theorem Ql {d:Nat} {op:BinOp} {x:Nat} {n:Int}:wop Φ (bu d op x n) K σ=af Φ (some d) (.bin op (.t x) (.v (.int .u8 n))) K σ:=propext Iff.rfl
theorem Od {d:Nat} {op:BinOp} {x:Nat} {n:Int}:aC Φ (bu d op x n) K σ=ag Φ (some d) (.bin op (.t x) (.v (.int .u8 n))) K σ:=propext Iff.rfl
theorem Qn {d:Nat} {op:BinOp} {x:Nat} {s:List UInt8}:wop Φ (bs d op x s) K σ=af Φ (some d) (.bin op (.t x) (.v (.str s))) K σ:=propext Iff.rfl
theorem Of {d:Nat} {op:BinOp} {x:Nat} {s:List UInt8}:aC Φ (bs d op x s) K σ=ag Φ (some d) (.bin op (.t x) (.v (.str s))) K σ:=propext Iff.rfl
theorem NK {d x:Nat}:wop Φ (nt' d x) K σ=af Φ (some d) (.un .not (.t x)) K σ:=propext Iff.rfl
theorem KF {d x:Nat}:aC Φ (nt' d x) K σ=ag Φ (some d) (.un .not (.t x)) K σ:=propext Iff.rfl
theorem P6 {d x:Nat}:wop Φ (ls d x) K σ=af Φ (some d) (.lens (.t x)) K σ:=propext Iff.rfl
theorem NU {d x:Nat}:aC Φ (ls d x) K σ=ag Φ (some d) (.lens (.t x)) K σ:=propext Iff.rfl
theorem P7 {d x:Nat}:wop Φ (lq d x) K σ=af Φ (some d) (.lenq (.t x)) K σ:=propext Iff.rfl
theorem NV {d x:Nat}:aC Φ (lq d x) K σ=ag Φ (some d) (.lenq (.t x)) K σ:=propext Iff.rfl
theorem Qf {d x o:Nat}:wop Φ (fa d x o) K σ=af Φ (some d) (.fa (.t x) o) K σ:=propext Iff.rfl
theorem N6 {d x o:Nat}:aC Φ (fa d x o) K σ=ag Φ (some d) (.fa (.t x) o) K σ:=propext Iff.rfl
theorem Qe {d x o:Nat}:wop Φ (fl d x o) K σ=af Φ (some d) (.fld (.t x) o 1 false) K σ:=propext Iff.rfl
theorem N5 {d x o:Nat}:aC Φ (fl d x o) K σ=ag Φ (some d) (.fld (.t x) o 1 false) K σ:=propext Iff.rfl
theorem P9 {d x:Nat}:wop Φ (l1 d x) K σ=af Φ (some d) (.ld (.t x) 1 false) K σ:=propext Iff.rfl
theorem NY {d x:Nat}:aC Φ (l1 d x) K σ=ag Φ (some d) (.ld (.t x) 1 false) K σ:=propext Iff.rfl
theorem P8 {d x n:Nat}:wop Φ (la d x n) K σ=af Φ (some d) (.ld (.t x) n true) K σ:=propext Iff.rfl
theorem NW {d x n:Nat}:aC Φ (la d x n) K σ=ag Φ (some d) (.ld (.t x) n true) K σ:=propext Iff.rfl
theorem Qb {d x i s:Nat}:wop Φ (ia d x i s) K σ=af Φ (some d) (.ia (.t x) (.t i) s) K σ:=propext Iff.rfl
theorem N1 {d x i s:Nat}:aC Φ (ia d x i s) K σ=ag Φ (some d) (.ia (.t x) (.t i) s) K σ:=propext Iff.rfl
theorem Qa {d x i:Nat}:wop Φ (ix d x i) K σ=af Φ (some d) (.ixs (.t x) (.t i)) K σ:=propext Iff.rfl
theorem NZ {d x i:Nat}:aC Φ (ix d x i) K σ=ag Φ (some d) (.ixs (.t x) (.t i)) K σ:=propext Iff.rfl
theorem PY {d x y:Nat}:wop Φ (pa d x y) K σ=af Φ (some d) (.pick (.t x) (.t y) (.v (.bool false))) K σ:=propext Iff.rfl
theorem NO {d x y:Nat}:aC Φ (pa d x y) K σ=ag Φ (some d) (.pick (.t x) (.t y) (.v (.bool false))) K σ:=propext Iff.rfl
theorem PX {d x y:Nat}:wop Φ (po d x y) K σ=af Φ (some d) (.pick (.t x) (.v (.bool true)) (.t y)) K σ:=propext Iff.rfl
theorem NN {d x y:Nat}:aC Φ (po d x y) K σ=ag Φ (some d) (.pick (.t x) (.v (.bool true)) (.t y)) K σ:=propext Iff.rfl
theorem Qg {d x i:Nat}:wop Φ (ex d x i) K σ=af Φ (some d) (.ext (.t x) i) K σ:=propext Iff.rfl
theorem N7 {d x i:Nat}:aC Φ (ex d x i) K σ=ag Φ (some d) (.ext (.t x) i) K σ:=propext Iff.rfl
theorem Qk {d x:Nat}:wop Φ (bx d x) K σ=af Φ (some d) (.box (.t x)) K σ:=propext Iff.rfl
theorem Oc {d x:Nat}:aC Φ (bx d x) K σ=ag Φ (some d) (.box (.t x)) K σ:=propext Iff.rfl
theorem PW {n x y:Nat}:wop Φ (st n x y) K σ=af Φ (none) (.st n (.t x) (.t y)) K σ:=propext Iff.rfl
theorem NM {n x y:Nat}:aC Φ (st n x y) K σ=ag Φ (none) (.st n (.t x) (.t y)) K σ:=propext Iff.rfl
theorem Qj {d f:Nat} {l:List Nat}:wop Φ (ca d f l) K σ=af Φ (some d) (.call f (ts l)) K σ:=propext Iff.rfl
theorem Oa {d f:Nat} {l:List Nat}:aC Φ (ca d f l) K σ=ag Φ (some d) (.call f (ts l)) K σ:=propext Iff.rfl
theorem Qi {d f:Nat} {l:List Nat}:wop Φ (ch d f l) K σ=af Φ (some d) (.callH f (ts l)) K σ:=propext Iff.rfl
theorem N9 {d f:Nat} {l:List Nat}:aC Φ (ch d f l) K σ=ag Φ (some d) (.callH f (ts l)) K σ:=propext Iff.rfl
theorem Qh {d g:Nat} {l:List Nat}:wop Φ (cv d g l) K σ=af Φ (some d) (.callv (.t g) (ts l)) K σ:=propext Iff.rfl
theorem N8 {d g:Nat} {l:List Nat}:aC Φ (cv d g l) K σ=ag Φ (some d) (.callv (.t g) (ts l)) K σ:=propext Iff.rfl
def skO (o:AOp) (K:St→Prop) (σ:St):Prop:=K (σ.put o.d (.tup []))
theorem Ow {o:AOp}:skO o K σ=K (σ.put o.d (.tup [])):=propext Iff.rfl
def un (o:AOp):AOp:=⟨o.d,o.a,none⟩
theorem Qc {t:Nat} {o:AOp}:wop Φ (gt t o) K σ=gM (lk σ.r t) true (wop Φ (un o) K) (skO o K) σ:=by
 simp only [gt,KD]; rfl
theorem Qd {t:Nat} {o:AOp}:wop Φ (gf t o) K σ=gM (lk σ.r t) false (wop Φ (un o) K) (skO o K) σ:=by
 simp only [gf,KD]; rfl
theorem N3 {t:Nat} {o:AOp}:aC Φ (gt t o) K σ=gM (lk σ.r t) true (aC Φ (un o) K) (skO o K) σ:=by
 simp only [gt,Fw]; rfl
theorem N4 {t:Nat} {o:AOp}:aC Φ (gf t o) K σ=gM (lk σ.r t) false (aC Φ (un o) K) (skO o K) σ:=by
 simp only [gf,Fw]; rfl
theorem Nm {d:Nat} {a:Act'}:wop Φ (un (o1 d a)) K σ=af Φ (some d) (a) K σ:=propext Iff.rfl
theorem Kf {d:Nat} {a:Act'}:aC Φ (un (o1 d a)) K σ=ag Φ (some d) (a) K σ:=propext Iff.rfl
theorem Nn {a:Act'}:wop Φ (un (o0 a)) K σ=af Φ (none) (a) K σ:=propext Iff.rfl
theorem Kg {a:Act'}:aC Φ (un (o0 a)) K σ=ag Φ (none) (a) K σ:=propext Iff.rfl
theorem PV {d x:Nat}:wop Φ (un (m d x)) K σ=af Φ (some d) (.mov (.t x)) K σ:=propext Iff.rfl
theorem NJ {d x:Nat}:aC Φ (un (m d x)) K σ=ag Φ (some d) (.mov (.t x)) K σ:=propext Iff.rfl
theorem No {d:Nat} {v:V}:wop Φ (un (mv d v)) K σ=af Φ (some d) (.mov (.v v)) K σ:=propext Iff.rfl
theorem Kh {d:Nat} {v:V}:aC Φ (un (mv d v)) K σ=ag Φ (some d) (.mov (.v v)) K σ:=propext Iff.rfl
theorem Np {d:Nat} {n:Int}:wop Φ (un (mi d n)) K σ=af Φ (some d) (.mov (.v (.int .i64 n))) K σ:=propext Iff.rfl
theorem Ki {d:Nat} {n:Int}:aC Φ (un (mi d n)) K σ=ag Φ (some d) (.mov (.v (.int .i64 n))) K σ:=propext Iff.rfl
theorem Nq {d:Nat} {b:Bool}:wop Φ (un (mb d b)) K σ=af Φ (some d) (.mov (.v (.bool b))) K σ:=propext Iff.rfl
theorem Kj {d:Nat} {b:Bool}:aC Φ (un (mb d b)) K σ=ag Φ (some d) (.mov (.v (.bool b))) K σ:=propext Iff.rfl
theorem NG {d:Nat} {op:BinOp} {x y:Nat}:wop Φ (un (bt d op x y)) K σ=af Φ (some d) (.bin op (.t x) (.t y)) K σ:=propext Iff.rfl
theorem Ky {d:Nat} {op:BinOp} {x y:Nat}:aC Φ (un (bt d op x y)) K σ=ag Φ (some d) (.bin op (.t x) (.t y)) K σ:=propext Iff.rfl
theorem NI {d:Nat} {op:BinOp} {x:Nat} {n:Int}:wop Φ (un (bi d op x n)) K σ=af Φ (some d) (.bin op (.t x) (.v (.int .i64 n))) K σ:=propext Iff.rfl
theorem KA {d:Nat} {op:BinOp} {x:Nat} {n:Int}:aC Φ (un (bi d op x n)) K σ=ag Φ (some d) (.bin op (.t x) (.v (.int .i64 n))) K σ:=propext Iff.rfl
theorem NF {d:Nat} {op:BinOp} {x:Nat} {n:Int}:wop Φ (un (bu d op x n)) K σ=af Φ (some d) (.bin op (.t x) (.v (.int .u8 n))) K σ:=propext Iff.rfl
theorem Kx {d:Nat} {op:BinOp} {x:Nat} {n:Int}:aC Φ (un (bu d op x n)) K σ=ag Φ (some d) (.bin op (.t x) (.v (.int .u8 n))) K σ:=propext Iff.rfl
theorem NH {d:Nat} {op:BinOp} {x:Nat} {s:List UInt8}:wop Φ (un (bs d op x s)) K σ=af Φ (some d) (.bin op (.t x) (.v (.str s))) K σ:=propext Iff.rfl
theorem Kz {d:Nat} {op:BinOp} {x:Nat} {s:List UInt8}:aC Φ (un (bs d op x s)) K σ=ag Φ (some d) (.bin op (.t x) (.v (.str s))) K σ:=propext Iff.rfl
theorem Kb {d x:Nat}:wop Φ (un (nt' d x)) K σ=af Φ (some d) (.un .not (.t x)) K σ:=propext Iff.rfl
theorem Iq {d x:Nat}:aC Φ (un (nt' d x)) K σ=ag Φ (some d) (.un .not (.t x)) K σ:=propext Iff.rfl
theorem Nr {d x:Nat}:wop Φ (un (ls d x)) K σ=af Φ (some d) (.lens (.t x)) K σ:=propext Iff.rfl
theorem Kk {d x:Nat}:aC Φ (un (ls d x)) K σ=ag Φ (some d) (.lens (.t x)) K σ:=propext Iff.rfl
theorem Ns {d x:Nat}:wop Φ (un (lq d x)) K σ=af Φ (some d) (.lenq (.t x)) K σ:=propext Iff.rfl
theorem Kl {d x:Nat}:aC Φ (un (lq d x)) K σ=ag Φ (some d) (.lenq (.t x)) K σ:=propext Iff.rfl
theorem Nz {d x o:Nat}:wop Φ (un (fa d x o)) K σ=af Φ (some d) (.fa (.t x) o) K σ:=propext Iff.rfl
theorem Kr {d x o:Nat}:aC Φ (un (fa d x o)) K σ=ag Φ (some d) (.fa (.t x) o) K σ:=propext Iff.rfl
theorem Ny {d x o:Nat}:wop Φ (un (fl d x o)) K σ=af Φ (some d) (.fld (.t x) o 1 false) K σ:=propext Iff.rfl
theorem Kq {d x o:Nat}:aC Φ (un (fl d x o)) K σ=ag Φ (some d) (.fld (.t x) o 1 false) K σ:=propext Iff.rfl
theorem Nu {d x:Nat}:wop Φ (un (l1 d x)) K σ=af Φ (some d) (.ld (.t x) 1 false) K σ:=propext Iff.rfl
theorem Kn {d x:Nat}:aC Φ (un (l1 d x)) K σ=ag Φ (some d) (.ld (.t x) 1 false) K σ:=propext Iff.rfl
theorem Nt {d x n:Nat}:wop Φ (un (la d x n)) K σ=af Φ (some d) (.ld (.t x) n true) K σ:=propext Iff.rfl
theorem Km {d x n:Nat}:aC Φ (un (la d x n)) K σ=ag Φ (some d) (.ld (.t x) n true) K σ:=propext Iff.rfl
theorem Nw {d x i s:Nat}:wop Φ (un (ia d x i s)) K σ=af Φ (some d) (.ia (.t x) (.t i) s) K σ:=propext Iff.rfl
theorem Kp {d x i s:Nat}:aC Φ (un (ia d x i s)) K σ=ag Φ (some d) (.ia (.t x) (.t i) s) K σ:=propext Iff.rfl
theorem Nv {d x i:Nat}:wop Φ (un (ix d x i)) K σ=af Φ (some d) (.ixs (.t x) (.t i)) K σ:=propext Iff.rfl
theorem Ko {d x i:Nat}:aC Φ (un (ix d x i)) K σ=ag Φ (some d) (.ixs (.t x) (.t i)) K σ:=propext Iff.rfl
theorem Nl {d x y:Nat}:wop Φ (un (pa d x y)) K σ=af Φ (some d) (.pick (.t x) (.t y) (.v (.bool false))) K σ:=propext Iff.rfl
theorem Ke {d x y:Nat}:aC Φ (un (pa d x y)) K σ=ag Φ (some d) (.pick (.t x) (.t y) (.v (.bool false))) K σ:=propext Iff.rfl
theorem Nk {d x y:Nat}:wop Φ (un (po d x y)) K σ=af Φ (some d) (.pick (.t x) (.v (.bool true)) (.t y)) K σ:=propext Iff.rfl
theorem Kd {d x y:Nat}:aC Φ (un (po d x y)) K σ=ag Φ (some d) (.pick (.t x) (.v (.bool true)) (.t y)) K σ:=propext Iff.rfl
theorem NA {d x i:Nat}:wop Φ (un (ex d x i)) K σ=af Φ (some d) (.ext (.t x) i) K σ:=propext Iff.rfl
theorem Ks {d x i:Nat}:aC Φ (un (ex d x i)) K σ=ag Φ (some d) (.ext (.t x) i) K σ:=propext Iff.rfl
theorem NE {d x:Nat}:wop Φ (un (bx d x)) K σ=af Φ (some d) (.box (.t x)) K σ:=propext Iff.rfl
theorem Kw {d x:Nat}:aC Φ (un (bx d x)) K σ=ag Φ (some d) (.box (.t x)) K σ:=propext Iff.rfl
theorem Nj {n x y:Nat}:wop Φ (un (st n x y)) K σ=af Φ (none) (.st n (.t x) (.t y)) K σ:=propext Iff.rfl
theorem Kc {n x y:Nat}:aC Φ (un (st n x y)) K σ=ag Φ (none) (.st n (.t x) (.t y)) K σ:=propext Iff.rfl
theorem ND {d f:Nat} {l:List Nat}:wop Φ (un (ca d f l)) K σ=af Φ (some d) (.call f (ts l)) K σ:=propext Iff.rfl
theorem Kv {d f:Nat} {l:List Nat}:aC Φ (un (ca d f l)) K σ=ag Φ (some d) (.call f (ts l)) K σ:=propext Iff.rfl
theorem NC {d f:Nat} {l:List Nat}:wop Φ (un (ch d f l)) K σ=af Φ (some d) (.callH f (ts l)) K σ:=propext Iff.rfl
theorem Ku {d f:Nat} {l:List Nat}:aC Φ (un (ch d f l)) K σ=ag Φ (some d) (.callH f (ts l)) K σ:=propext Iff.rfl
theorem NB {d g:Nat} {l:List Nat}:wop Φ (un (cv d g l)) K σ=af Φ (some d) (.callv (.t g) (ts l)) K σ:=propext Iff.rfl
theorem Kt {d g:Nat} {l:List Nat}:aC Φ (un (cv d g l)) K σ=ag Φ (some d) (.callv (.t g) (ts l)) K σ:=propext Iff.rfl
theorem d_o1 {d:Nat} {a:Act'}:(o1 d a).d=some d:=rfl
theorem d_o0 {a:Act'}:(o0 a).d=none:=rfl
theorem d_m {d x:Nat}:(m d x).d=some d:=rfl
theorem d_mv {d:Nat} {v:V}:(mv d v).d=some d:=rfl
theorem d_mi {d:Nat} {n:Int}:(mi d n).d=some d:=rfl
theorem d_mb {d:Nat} {b:Bool}:(mb d b).d=some d:=rfl
theorem d_bt {d:Nat} {op:BinOp} {x y:Nat}:(bt d op x y).d=some d:=rfl
theorem d_bi {d:Nat} {op:BinOp} {x:Nat} {n:Int}:(bi d op x n).d=some d:=rfl
theorem d_bu {d:Nat} {op:BinOp} {x:Nat} {n:Int}:(bu d op x n).d=some d:=rfl
theorem d_bs {d:Nat} {op:BinOp} {x:Nat} {s:List UInt8}:(bs d op x s).d=some d:=rfl
theorem d_ntp {d x:Nat}:(nt' d x).d=some d:=rfl
theorem d_ls {d x:Nat}:(ls d x).d=some d:=rfl
theorem d_lq {d x:Nat}:(lq d x).d=some d:=rfl
theorem d_fa {d x o:Nat}:(fa d x o).d=some d:=rfl
theorem d_fl {d x o:Nat}:(fl d x o).d=some d:=rfl
theorem d_l1 {d x:Nat}:(l1 d x).d=some d:=rfl
theorem d_la {d x n:Nat}:(la d x n).d=some d:=rfl
theorem d_ia {d x i s:Nat}:(ia d x i s).d=some d:=rfl
theorem d_ix {d x i:Nat}:(ix d x i).d=some d:=rfl
theorem d_pa {d x y:Nat}:(pa d x y).d=some d:=rfl
theorem d_po {d x y:Nat}:(po d x y).d=some d:=rfl
theorem d_ex {d x i:Nat}:(ex d x i).d=some d:=rfl
theorem d_bx {d x:Nat}:(bx d x).d=some d:=rfl
theorem d_st {n x y:Nat}:(st n x y).d=none:=rfl
theorem d_ca {d f:Nat} {l:List Nat}:(ca d f l).d=some d:=rfl
theorem d_ch {d f:Nat} {l:List Nat}:(ch d f l).d=some d:=rfl
theorem d_cv {d g:Nat} {l:List Nat}:(cv d g l).d=some d:=rfl
theorem d_un {o:AOp}:(un o).d=o.d:=rfl
theorem W_Q1 {a:AC}:W Φ (Q [a]) Q' σ=W Φ a Q' σ:=propext Iff.rfl
theorem W_Q2 {a b:AC} {l:List AC}:W Φ (Q (a::b::l)) Q' σ=W Φ a (Ex.then (W Φ (Q (b::l)) Q') Q') σ:=propext Iff.rfl
theorem W_C {c:Nat} {a b:AC}:W Φ (C c a b) Q' σ=cM (lk σ.r c) (W Φ a Q') (W Φ b Q') σ:=propext Iff.rfl
end
attribute [simp] Ow Qc Qd N3 N4 W_Q1 W_Q2 W_C PZ NP Nm Kf P0 NQ Nn Kg wop_m Qq PV NJ P3 NR No Kh P4 NS Np Ki P5 NT Nq Kj Qm Oe NG Ky Qo Og NI KA Ql Od NF Kx Qn Of NH Kz NK KF Kb Iq P6 NU Nr Kk P7 NV Ns Kl Qf N6 Nz Kr Qe N5 Ny Kq P9 NY Nu Kn P8 NW Nt Km Qb N1 Nw Kp Qa NZ Nv Ko PY NO Nl Ke PX NN Nk Kd Qg N7 NA Ks Qk Oc NE Kw PW NM Nj Kc Qj Oa ND Kv Qi N9 NC Ku Qh N8 NB Kt
attribute [simp] Cn_p Cn_n Cn_e ts d_o1 d_o0 d_m d_mv d_mi d_mb d_bt d_bi d_bu d_bs d_ntp d_ls d_lq d_fa d_fl d_l1 d_la d_ia d_ix d_pa d_po d_ex d_bx d_st d_ca d_ch d_cv d_un
def RA:Go.Fn→Go.Fn→Bool
 | .func f,.func g=>decide (f=g)
 | _,_=>false
theorem JO {f g:Go.Fn} (h:RA f g=true):f=g:=by
 cases f<;>cases g<;>simp [RA] at h
 rw [h]
mutual
def eqV:V→V→Bool
 | .int k n,.int k' n'=>decide (k=k') && decide (n=n')
 | .bool a,.bool b=>decide (a=b)
 | .str a,.str b=>decide (a=b)
 | .nil a,.nil b=>decide (a=b)
 | .seq a l,.seq b m=>decide (a=b) && tX l m
 | .ref a n,.ref b m=>decide (a=b) && decide (n=m)
 | .strct a,.strct b=>tX a b
 | .ptr a n,.ptr b m=>decide (a=b) && decide (n=m)
 | .eptr a n i o,.eptr b m j p=>decide (a=b) && (decide (n=m) && (decide (i=j) && decide (o=p)))
 | .mref a i n,.mref b j m=>decide (a=b) && (decide (i=j) && decide (n=m))
 | .fseq a l,.fseq b m=>decide (a=b) && tX l m
 | .mptr a i n k o,.mptr b j m l p=>decide (a=b) && (decide (i=j) && (decide (n=m) && (decide (k=l) && decide (o=p))))
 | .sptr x o,.sptr y p=>eqV x y && decide (o=p)
 | .nilptr,.nilptr=>true
 | .fn f a b,.fn g c d=>RA f g && (tX a c && tX b d)
 | .nilfn,.nilfn=>true
 | .iface t x,.iface u y=>decide (t=u) && eqV x y
 | .niliface,.niliface=>true
 | .tup a,.tup b=>tX a b
 | .junk,.junk=>true
 | _,_=>false
def tX:List V→List V→Bool
 | [],[]=>true
 | u::us,v::vs=>eqV u v && tX us vs
 | _,_=>false
end
mutual
theorem gy:∀ {u v:V},eqV u v=true→u=v
 | .int _ _,v,h=>by cases v<;>simp_all [eqV]
 | .bool _,v,h=>by cases v<;>simp_all [eqV]
 | .str _,v,h=>by cases v<;>simp_all [eqV]
 | .nil _,v,h=>by cases v<;>simp_all [eqV]
 | .ref _ _,v,h=>by cases v<;>simp_all [eqV]
 | .ptr _ _,v,h=>by cases v<;>simp_all [eqV]
 | .eptr _ _ _ _,v,h=>by cases v<;>simp_all [eqV]
 | .mref _ _ _,v,h=>by cases v<;>simp_all [eqV]
 | .mptr _ _ _ _ _,v,h=>by cases v<;>simp_all [eqV]
 | .nilptr,v,h=>by cases v<;>simp_all [eqV]
 | .nilfn,v,h=>by cases v<;>simp_all [eqV]
 | .niliface,v,h=>by cases v<;>simp_all [eqV]
 | .junk,v,h=>by cases v<;>simp_all [eqV]
 | .seq a l,v,h=>by
   cases v<;>simp only [eqV,Bool.and_eq_true,decide_eq_true_eq,reduceCtorEq] at h
   rw [h.1,c7 h.2]
 | .fseq a l,v,h=>by
   cases v<;>simp only [eqV,Bool.and_eq_true,decide_eq_true_eq,reduceCtorEq] at h
   rw [h.1,c7 h.2]
 | .strct l,v,h=>by
   cases v<;>simp only [eqV,Bool.and_eq_true,decide_eq_true_eq,reduceCtorEq] at h
   rw [c7 h]
 | .tup l,v,h=>by
   cases v<;>simp only [eqV,Bool.and_eq_true,decide_eq_true_eq,reduceCtorEq] at h
   rw [c7 h]
 | .sptr x o,v,h=>by
   cases v<;>simp only [eqV,Bool.and_eq_true,decide_eq_true_eq,reduceCtorEq] at h
   rw [gy h.1,h.2]
 | .iface t x,v,h=>by
   cases v<;>simp only [eqV,Bool.and_eq_true,decide_eq_true_eq,reduceCtorEq] at h
   rw [h.1,gy h.2]
 | .fn f a b,v,h=>by
   cases v<;>simp only [eqV,Bool.and_eq_true,decide_eq_true_eq,reduceCtorEq] at h
   rw [JO h.1,c7 h.2.1,c7 h.2.2]
theorem c7:∀ {u v:List V},tX u v=true→u=v
 | [],v,h=>by cases v<;>simp_all [tX]
 | u::us,v,h=>by
   cases v<;>simp only [tX,Bool.and_eq_true,reduceCtorEq] at h
   rw [gy h.1,c7 h.2]
end
def je:List Rw→List Rw→Bool
 | [],[]=>true
 | .g i::a,.g j::b=>decide (i=j) && je a b
 | .a u::a,.a v::b=>tX u v && je a b
 | _,_=>false
theorem nT:∀ {a b:List Rw},je a b=true→a=b
 | [],b,h=>by cases b<;>simp_all [je]
 | .g i::a,b,h=>by
   match b,h with
   | .g j::b,h=>simp only [je,Bool.and_eq_true,decide_eq_true_eq] at h; rw [h.1,nT h.2]
   | .a _::b,h=>simp [je] at h
   | [],h=>simp [je] at h
 | .a u::a,b,h=>by
   match b,h with
   | .a v::b,h=>simp only [je,Bool.and_eq_true] at h; rw [c7 h.1,nT h.2]
   | .g _::b,h=>simp [je] at h
   | [],h=>simp [je] at h
def JM:List (V × V)→List (V × V)→Bool
 | [],[]=>true
 | (u,v)::a,(x,y)::b=>eqV u x && (eqV v y && JM a b)
 | _,_=>false
theorem Bk:∀ {a b:List (V × V)},JM a b=true→a=b
 | [],b,h=>by cases b<;>simp_all [JM]
 | (u,v)::a,b,h=>by
   match b,h with
   | (x,y)::b,h=>simp only [JM,Bool.and_eq_true] at h; rw [gy h.1,gy h.2.1,Bk h.2.2]
   | [],h=>simp [JM] at h
def eqO:Option Ob→Option Ob→Bool
 | none,none=>true
 | some (.box a),some (.box b)=>tX a b
 | some (.arr e sz l),some (.arr e' sz' l')=>decide (e=e') && (decide (sz=sz') && tX l l')
 | some (.mat e e2 sz l),some (.mat e' e2' sz' l')=>decide (e=e') && (decide (e2=e2') && (decide (sz=sz') && je l l'))
 | some (.mp kt l),some (.mp kt' l')=>decide (kt=kt') && JM l l'
 | _,_=>false
theorem Mu {a b:Option Ob} (h:eqO a b=true):a=b:=by
 rcases a with _ | a<;>rcases b with _ | b
 · rfl
 · cases b<;>simp [eqO] at h
 · cases a<;>simp [eqO] at h
 · cases a<;>cases b<;>simp only [eqO,Bool.and_eq_true,decide_eq_true_eq,reduceCtorEq] at h
   · rw [c7 h]
   · rw [h.1,h.2.1,c7 h.2.2]
   · rw [h.1,h.2.1,h.2.2.1,nT h.2.2.2]
   · rw [h.1,Bk h.2]
def eqH:List (Option Ob)→List (Option Ob)→Bool
 | [],[]=>true
 | a::l,b::m=>eqO a b && eqH l m
 | _,_=>false
theorem EZ:∀ {a b:List (Option Ob)},eqH a b=true→a=b
 | [],b,h=>by cases b<;>simp_all [eqH]
 | x::a,b,h=>by
   match b,h with
   | y::b,h=>simp only [eqH,Bool.and_eq_true] at h; rw [Mu h.1,EZ h.2]
   | [],h=>simp [eqH] at h
def eqR:List (Nat × V)→List (Nat × V)→Bool
 | [],[]=>true
 | (n,v)::l,(k,u)::m=>decide (n=k) && (eqV v u && eqR l m)
 | _,_=>false
theorem EY:∀ {a b:List (Nat × V)},eqR a b=true→a=b
 | [],b,h=>by cases b<;>simp_all [eqR]
 | (n,v)::a,b,h=>by
   match b,h with
   | (k,u)::b,h=>simp only [eqR,Bool.and_eq_true,decide_eq_true_eq] at h; rw [h.1,gy h.2.1,EY h.2.2]
   | [],h=>simp [eqR] at h
def eqS (σ τ:St):Bool:=eqR σ.r τ.r && eqH σ.h τ.h
theorem Mt {σ τ:St} (h:eqS σ τ=true):σ=τ:=by
 obtain ⟨r,h1⟩:=σ
 obtain ⟨r',h2⟩:=τ
 simp only [eqS,Bool.and_eq_true] at h
 rw [EY h.1,EZ h.2]
structure Env where
 p:FuncId→List V→Option (V × Bool)
 ps:FuncId→Option (List Nat)
 h:FuncId→List V→List (Option Ob)→Option (V × List (Option Ob))
def DB (env:Env) (d:Option Nat) (f:FuncId) (vs us:List V) (σ:St):Option St:=
 match env.p f us with
 | some (r,nw)=>if bY r=true∨ai vs=[]∨nw=true then some (σ.put d r) else some ((σ.kill (ai vs)).put d r)
 | none=>none
def Hr (env:Env) (d:Option Nat) (f:FuncId) (vs:List V) (σ:St) (q:Nat) (m:List Nat):Option St:=
 match env.h f (cW m vs) (fD σ.h m m) with
 | some (r,H')=>if kin q (fD σ.h m m) H'=true then some (St.put ⟨σ.r,σ.back q m H'⟩ d (bck (t6 q m σ.h.length H'.length) r)) else none
 | none=>none
def mE (env:Env) (d:Option Nat) (f:FuncId) (vs:List V) (σ:St):Option St:=
 match env.ps f with
 | some ps=>if σ.curs (bH vs ps)=true then Hr env d f vs σ (dY σ.h (bH vs ps) vs).1 (dY σ.h (bH vs ps) vs).2 else none
 | none=>none
def fy (env:Env) (d:Option Nat) (a:Act') (σ:St):Option St:=
 match a with
 | .alc z=>some ({ σ with h:=σ.h++[some (Ob.box z)] }.put d (.ptr σ.h.length 0))
 | .box x=>match σ.ev x with
   | some v=>if nt v=true then some ({ σ with h:=σ.h++[some (Ob.box (cl v))] }.put d (.ptr σ.h.length 0)) else none
   | none=>none
 | .st n p x=>match σ.ev p,σ.ev x with
   | some a,some v=>if nt v=true then (match σ.stor n a (cl v) with
     | some σ'=>some (σ'.put d (.tup []))
     | none=>none) else none
   | _,_=>none
 | .s2b x=>match σ.ev x with
   | some (.str s)=>if s.length≤140737488355328 then some (σ.put d (.seq 1 (fN s))) else none
   | _=>none
 | .lit _ sz xs=>match σ.evs xs with
   | some vs=>match purs σ.h vs with
     | some us=>if bo sz us=true∧us.length≤16777216 then some ((σ.kill (ai vs)).put d (.seq sz us)) else none
     | none=>none
   | none=>none
 | .app x y e sz by'=>match σ.ev x,σ.ev y with
   | some u,some v=>match src σ.h v with
     | some (.seq sz' l)=>if sz'=sz then
       (match u with
       | .nil _=>if l.length * by'≤140737488355328 then some ({ σ with h:=σ.h++[some (Ob.arr e sz l)] }.put d (.ref σ.h.length l.length)) else none
       | .ref id n=>match σ.arr? id with
         | some (e',sz',l0)=>if e'=e∧sz'=sz∧n=l0.length∧(n + l.length) * by'≤140737488355328 then
           some ({ σ with h:=σ.h.set id (some (Ob.arr e sz (l0++l))) }.put d (.ref id (n + l.length))) else none
         | none=>none
       | _=>none) else none
     | _=>none
   | _,_=>none
 | .mks e sz by' z n=>match σ.ev n with
   | some (.int _ m)=>if 0≤m∧m * by'≤140737488355328 then
     some ({ σ with h:=σ.h++[some (Ob.arr e sz (List.replicate m.toNat z))] }.put d (.ref σ.h.length m.toNat)) else none
   | _=>none
 | .mk0 e sz by' n=>match σ.ev n with
   | some (.int _ m)=>if 0≤m∧m * by'≤140737488355328 then
     some ({ σ with h:=σ.h++[some (Ob.arr e sz [])] }.put d (.ref σ.h.length 0)) else none
   | _=>none
 | .mkm e by' e2 sz n=>match σ.ev n with
   | some (.int _ m)=>if 0≤m∧m * by'≤140737488355328 then
     some ({ σ with h:=σ.h++[some (Ob.mat e e2 sz (List.replicate m.toNat (.a [])))] }.put d (.ref σ.h.length m.toNat)) else none
   | _=>none
 | .call f xs=>match σ.evs xs with
   | some vs=>match purs σ.h vs with
     | some us=>DB env d f vs us σ
     | none=>mE env d f vs σ
   | none=>none
 | .callv g xs=>match σ.ev g,σ.evs xs with
   | some (.fn (.func f) a b),some vs=>match purs σ.h (a++vs++b) with
     | some us=>DB env d f (a++vs++b) us σ
     | none=>mE env d f (a++vs++b) σ
   | _,_=>none
 | .callH f xs=>match σ.evs xs with
   | some vs=>mE env d f vs σ
   | none=>none
 | .mkp kt=>some ({ σ with h:=σ.h++[some (Ob.mp kt [])] }.put d (.ref σ.h.length 0))
 | .mup kt x k v=>match σ.ev x,σ.ev k,σ.ev v with
   | some (.ref id _),some kv,some u=>match σ.mp? id,pur σ.h u with
     | some (kt',l),some u'=>if kt'=kt∧aO kt kv=true∧aq u=[]∧nt u'=true then some ({ σ with h:=σ.h.set id (some (Ob.mp kt (io kv u' l))) }.put d (.tup [])) else none
     | _,_=>none
   | _,_,_=>none
 | .inv tbl x xs=>match σ.ev x,σ.evs xs with
   | some (.iface t v),some vs=>match lkF tbl t with
     | some f=>(match purs σ.h (v::vs) with
       | some us=>DB env d f (v::vs) us σ
       | none=>mE env d f (v::vs) σ)
     | none=>none
   | _,_=>none
 | .ltr e sz xs=>match σ.evs xs with
   | some vs=>match purs σ.h vs with
     | some us=>if bo sz us=true∧us.length≤16777216 then some (St.put ⟨(σ.kill (ai vs)).r,(σ.kill (ai vs)).h++[some (Ob.arr e sz us)]⟩ d (.ref (σ.kill (ai vs)).h.length us.length)) else none
     | none=>none
   | none=>none
 | .yld _ _=>none
 | .rgs _=>none
 | .nxs _=>none
 | .trc x hi sz=>match σ.ev x,σ.ev hi with
   | some (.ref id n),some (.int _ b)=>match σ.arr? id with
     | some (e,sz',l)=>if sz'=sz∧n=l.length∧0≤b∧b≤n then some ({ σ with h:=σ.h.set id none++[some (Ob.arr e sz (l.take b.toNat))] }.put d (.ref σ.h.length b.toNat)) else none
     | none=>none
   | _,_=>none
 | a=>match σ.val a with
   | some v=>some (σ.put d v)
   | none=>none
def BA (env:Env) (d:Option Nat) (f:FuncId) (vs us:List V) (σ:St):Option St:=
 match env.p f us with
 | some (r,nw)=>if bY r=true∨ai vs=[]∨nw=true then some (σ.put d r) else none
 | none=>none
def lP (env:Env) (d:Option Nat) (a:Act') (σ:St):Option St:=
 match a with
 | .lit _ sz xs=>match σ.evs xs with
   | some vs=>match purs [] vs with
     | some us=>if bo sz us=true∧us.length≤16777216 then some (σ.put d (.seq sz us)) else none
     | none=>none
   | none=>none
 | .call f xs=>match σ.evs xs with
   | some vs=>match purs σ.h vs with
     | some us=>BA env d f vs us σ
     | none=>none
   | none=>none
 | .callv g xs=>match σ.ev g,σ.evs xs with
   | some (.fn (.func f) a b),some vs=>match purs σ.h (a++vs++b) with
     | some us=>BA env d f (a++vs++b) us σ
     | none=>none
   | _,_=>none
 | .callH f xs=>match σ.evs xs with
   | some vs=>mE env d f vs σ
   | none=>none
 | .inv _ _ _=>none
 | .trc _ _ _=>none
 | .ltr _ _ _=>none
 | a=>fy env d a σ
def xop (x:Option Nat→Act'→St→Option St) (o:AOp) (σ:St):Option St:=
 match o.g with
 | none=>x o.d o.a σ
 | some (t,b)=>match lk σ.r t with
   | some (.bool y)=>if y=b then x o.d o.a σ else some (σ.put o.d (.tup []))
   | some (.tup [])=>some (σ.put o.d (.tup []))
   | _=>none
def Bz (x:Option Nat→Act'→St→Option St):List AOp→St→Option St
 | [],σ=>some σ
 | o::os,σ=>match xop x o σ with
   | some τ=>Bz x os τ
   | none=>none
def ui (env:Env) (ks:List Nat):OT→St→Option St
 | .nil,σ=>some (σ.nrm ks)
 | .op o t,σ=>match xop (lP env) o σ with
   | some τ=>ui env ks t τ
   | none=>none
 | .both a b,σ=>match ui env ks a σ,ui env ks b σ with
   | some τ,some τ'=>if eqS τ τ'=true then some τ else none
   | _,_=>none
def Dy (f:St→Option (Ex × St)) (ks:List Nat):Nat→St→Option (Ex × St)
 | 0,_=>none
 | n + 1,τ=>match f τ with
   | some (.norm,τ')=>Dy f ks n (τ'.nrm ks)
   | some (e,τ')=>some (e,τ')
   | none=>none
def DA (l:Nat) (f:St→Option (Ex × St)) (ks:List Nat):Nat→St→Option (Ex × St)
 | 0,_=>none
 | n + 1,τ=>match f τ with
   | some (.goto l',τ')=>if l'=l then DA l f ks n (τ'.nrm ks) else none
   | some (e,τ')=>some (e,τ')
   | none=>none
def cF (env:Env) (fuel:Nat):AC→St→Option (Ex × St)
 | .skip,σ=>some (.norm,σ)
 | .reg ops ks,σ=>match Bz (fy env) ops σ with
   | some σ'=>some (.norm,σ.cls σ' ks)
   | none=>none
 | .regD ops ks,σ=>match Bz (lP env) ops σ with
   | some σ'=>some (.norm,σ.cls σ' ks)
   | none=>none
 | .regE _ _,_=>none
 | .regF t ks,σ=>match ui env ks t σ with
   | some σ'=>some (.norm,σ')
   | none=>none
 | .scope l ks a b,σ=>match cF env fuel a σ with
   | some (.goto l',τ)=>if l'=l then DA l (cF env fuel b) ks fuel (τ.nrm ks) else none
   | r=>r
 | .label _,σ=>some (.norm,σ)
 | .goto l,σ=>some (.goto l,σ)
 | .bad,_=>none
 | .seq a b,σ=>match cF env fuel a σ with
   | some (.norm,τ)=>cF env fuel b τ
   | r=>r
 | .cond c a b,σ=>match σ.ev c with
   | some (.bool t)=>if t=true then cF env fuel a σ else cF env fuel b σ
   | _=>none
 | .block id c,σ=>match cF env fuel c σ with
   | some (.exit id',τ)=>if id'=id then some (.norm,τ) else some (.exit id',τ)
   | r=>r
 | .loop ks c,σ=>Dy (cF env fuel c) ks fuel (σ.nrm ks)
 | .exit id,σ=>some (.exit id,σ)
 | .ret,σ=>some (.ret,σ)
structure EnvOK (env:Env) (Φ:Ctr):Prop where
 p:∀ f us r nw,env.p f us=some (r,nw)→Φ.p f us r∧(nw=true→Φ.n f us r)
 h:∀ f us H r H' ps,env.ps f=some ps→env.h f us H=some (r,H')→Φ.e f ps us H r H'
section
variable {env:Env} {Φ:Ctr} (hE:EnvOK env Φ) {d:Option Nat} {σ τ:St} {K:St→Prop}
include hE
theorem mD {f:FuncId} {vs us:List V} (h:DB env d f vs us σ=some τ) (hK:K τ):lQ Φ d f vs us K σ:=by
 unfold DB at h
 split at h
 · rename_i r nw hr
   obtain ⟨h1,h2⟩:=hE.p _ _ _ _ hr
   split at h
   · rename_i hc
     cases h
     refine ⟨r,.inl ⟨?_,fun _=>hK⟩⟩
     rcases hc with h | h | h
     · exact .inl ⟨h1,.inl h⟩
     · exact .inl ⟨h1,.inr h⟩
     · exact .inr (h2 h)
   · cases h
     exact ⟨r,.inr (.inl ⟨h1,fun _=>hK⟩)⟩
 · cases h
theorem ro {f:FuncId} {vs us:List V} (h:BA env d f vs us σ=some τ) (hK:K τ):mI Φ d f vs us K σ:=by
 unfold BA at h
 split at h
 · rename_i r nw hr
   obtain ⟨h1,h2⟩:=hE.p _ _ _ _ hr
   split at h
   · rename_i hc
     cases h
     refine ⟨r,?_,hK⟩
     rcases hc with h | h | h
     · exact .inl ⟨h1,.inl h⟩
     · exact .inl ⟨h1,.inr h⟩
     · exact .inr (h2 h)
   · cases h
 · cases h
theorem pB {f:FuncId} {vs:List V} (h:mE env d f vs σ=some τ) (hK:K τ):oB Φ d f vs K σ:=by
 unfold mE at h
 split at h
 · rename_i ps hps
   split at h
   · rename_i hc
     unfold Hr at h
     split at h
     · rename_i r H' hr
       split at h
       · rename_i hk
         cases h
         exact ⟨ps,hc,r,H',hk,hE.h _ _ _ _ _ _ hps hr,hK⟩
       · cases h
     · cases h
   · cases h
 · cases h
theorem ig {f:FuncId} {vs:List V} (h:mE env d f vs σ=some τ) (hK:K τ):fB Φ d f vs K σ:=by
 obtain ⟨ps,h1,r,H',h2,h3,h4⟩:=pB hE h hK
 exact ⟨ps,h1,r,H',h2,h3,fun _ _=>h4⟩
theorem kO {a:Act'} (h:fy env d a σ=some τ) (hK:K τ):af Φ d a K σ:=by
 cases a with
 | alc z=>simp only [fy,Option.some.injEq] at h; subst h; exact hK
 | box x=>
   simp only [fy] at h
   simp only [af]
   split at h
   · rename_i v hv
     simp only [hv]
     split at h
     · rename_i hc; cases h; simp only [if_pos hc]; exact hK
     · cases h
   · cases h
 | st n p x=>
   simp only [fy] at h
   simp only [af]
   split at h
   · rename_i v u hv hu
     simp only [hv,hu]
     split at h
     · rename_i hc
       simp only [if_pos hc]
       split at h
       · rename_i σ' hs; simp only [hs]; cases h; exact hK
       · cases h
     · cases h
   · cases h
 | s2b x=>
   simp only [fy] at h
   simp only [af]
   split at h
   · rename_i s hv
     simp only [hv]
     split at h
     · rename_i hc; cases h; exact ⟨hc,hK⟩
     · cases h
   · cases h
 | lit e0 sz xs=>
   simp only [fy] at h
   simp only [af]
   split at h
   · rename_i vs hv
     simp only [hv]
     split at h
     · rename_i us hu
       simp only [hu]
       split at h
       · rename_i hc; cases h; exact ⟨hc.1,hc.2,hK⟩
       · cases h
     · cases h
   · cases h
 | ltr e0 sz xs=>
   simp only [fy] at h
   simp only [af]
   split at h
   · rename_i vs hv
     simp only [hv]
     split at h
     · rename_i us hu
       simp only [hu]
       split at h
       · rename_i hc; cases h; exact ⟨hc.1,hc.2,hK⟩
       · cases h
     · cases h
   · cases h
 | app x y e sz by'=>
   simp only [fy] at h
   simp only [af]
   split at h
   · rename_i u v hu hv
     simp only [hu,hv]
     split at h
     · rename_i sz' l hs
       simp only [hs]
       split at h
       · rename_i hc
         refine ⟨hc,?_⟩
         split at h
         · split at h
           · rename_i hb; cases h; exact ⟨hb,hK⟩
           · cases h
         · split at h
           · rename_i e' sz2 l0 ha
             simp only [ha]
             split at h
             · rename_i hb; cases h; exact ⟨hb.1,hb.2.1,hb.2.2.1,hb.2.2.2,hK⟩
             · cases h
           · cases h
         · cases h
       · cases h
     · cases h
   · cases h
 | mk0 e sz by' n=>
   simp only [fy] at h
   simp only [af]
   split at h
   · rename_i k m hv
     simp only [hv]
     split at h
     · rename_i hc; cases h; exact ⟨hc.1,hc.2,hK⟩
     · cases h
   · cases h
 | mks e sz by' z n=>
   simp only [fy] at h
   simp only [af]
   split at h
   · rename_i k m hv
     simp only [hv]
     split at h
     · rename_i hc; cases h; exact ⟨hc.1,hc.2,hK⟩
     · cases h
   · cases h
 | mkm e by' e2 sz n=>
   simp only [fy] at h
   simp only [af]
   split at h
   · rename_i k m hv
     simp only [hv]
     split at h
     · rename_i hc; cases h; exact ⟨hc.1,hc.2,hK⟩
     · cases h
   · cases h
 | call f xs=>
   simp only [fy] at h
   simp only [af]
   split at h
   · rename_i vs hv
     simp only [hv]
     split at h
     · rename_i us hu; simp only [hu]; exact mD hE h hK
     · rename_i hu; simp only [hu]; exact ig hE h hK
   · cases h
 | callv g xs=>
   simp only [fy] at h
   simp only [af]
   split at h
   · rename_i f a b vs hg hv
     simp only [hg,hv]
     split at h
     · rename_i us hu; simp only [hu]; exact mD hE h hK
     · rename_i hu; simp only [hu]; exact ig hE h hK
   · cases h
 | callH f xs=>
   simp only [fy] at h
   simp only [af]
   split at h
   · rename_i vs hv; simp only [hv]; exact ig hE h hK
   · cases h
 | mkp kt=>simp only [fy,Option.some.injEq] at h; subst h; exact hK
 | mup kt x k v=>
   simp only [fy] at h
   simp only [af]
   split at h
   · rename_i id n kv u h1 h2 h3
     simp only [h1,h2,h3]
     split at h
     · rename_i kt' l u' h4 h5
       simp only [h4,h5]
       split at h
       · rename_i hc; cases h; exact ⟨hc.1,hc.2.1,hc.2.2.1,hc.2.2.2,hK⟩
       · cases h
     · cases h
   · cases h
 | inv tbl x xs=>
   simp only [fy] at h
   simp only [af]
   split at h
   · rename_i t v vs h1 h2
     simp only [h1,h2]
     split at h
     · rename_i f hf
       simp only [hf]
       split at h
       · rename_i us hu; simp only [hu]; exact mD hE h hK
       · rename_i hu; simp only [hu]; exact ig hE h hK
     · cases h
   · cases h
 | yld g xs=>simp only [fy] at h; cases h
 | rgs x=>simp only [fy] at h; cases h
 | nxs x=>simp only [fy] at h; cases h
 | trc x hi sz=>
   simp only [fy] at h
   simp only [af]
   split at h
   · rename_i id n k b h1 h2
     simp only [h1,h2]
     split at h
     · rename_i e sz' l h3
       simp only [h3]
       split at h
       · rename_i hc; cases h; exact ⟨hc.1,hc.2.1,hc.2.2.1,hc.2.2.2,hK⟩
       · cases h
     · cases h
   · cases h
 | _=>
   simp only [fy] at h
   simp only [af]
   split at h
   · rename_i v hv; simp only [hv]; cases h; exact hK
   · cases h
theorem mF {a:Act'} (h:lP env d a σ=some τ) (hK:K τ):ag Φ d a K σ:=by
 have key:fy env d a σ=some τ→af Φ d a K σ:=fun h'=>kO hE h' hK
 cases a with
 | lit e0 sz xs=>
   simp only [lP] at h
   simp only [ag]
   split at h
   · rename_i vs hv
     simp only [hv]
     split at h
     · rename_i us hu
       simp only [hu]
       split at h
       · rename_i hc; cases h; exact ⟨hc.1,hc.2,hK⟩
       · cases h
     · cases h
   · cases h
 | call f xs=>
   simp only [lP] at h
   simp only [ag]
   split at h
   · rename_i vs hv
     simp only [hv]
     split at h
     · rename_i us hu; simp only [hu]; exact ro hE h hK
     · cases h
   · cases h
 | callv g xs=>
   simp only [lP] at h
   simp only [ag]
   split at h
   · rename_i f a b vs hg hv
     simp only [hg,hv]
     split at h
     · rename_i us hu; simp only [hu]; exact ro hE h hK
     · cases h
   · cases h
 | callH f xs=>
   simp only [lP] at h
   simp only [ag]
   split at h
   · rename_i vs hv; simp only [hv]; exact pB hE h hK
   · cases h
 | inv=>simp only [lP] at h; cases h
 | trc=>simp only [lP] at h; cases h
 | ltr=>simp only [lP] at h; cases h
 | _=>exact key h
theorem In {o:AOp} (h:xop (fy env) o σ=some τ) (hK:K τ):wop Φ o K σ:=by
 obtain ⟨od,oa,og⟩:=o
 cases og with
 | none=>exact kO hE h hK
 | some p=>
   obtain ⟨t,b⟩:=p
   simp only [xop] at h
   simp only [wop]
   split at h
   · rename_i y hy
     simp only [hy]
     split at h
     · rename_i hyb
       subst hyb
       cases y
       · simp only [Bool.false_eq_true,if_false]; exact ⟨fun h'=>(by cases h'),fun _=>kO hE h hK⟩
       · simp only [if_true]; exact ⟨fun _=>kO hE h hK,fun h'=>(by cases h')⟩
     · rename_i hyb
       cases h
       cases y<;>cases b
       · exact absurd rfl hyb
       · simp only [if_true]; exact ⟨fun h'=>(by cases h'),fun _=>hK⟩
       · simp only [Bool.false_eq_true,if_false]; exact ⟨fun _=>hK,fun h'=>(by cases h')⟩
       · exact absurd rfl hyb
   · rename_i hy; simp only [hy]; cases h; exact hK
   · cases h
theorem vX {o:AOp} (h:xop (lP env) o σ=some τ) (hK:K τ):aC Φ o K σ:=by
 obtain ⟨od,oa,og⟩:=o
 cases og with
 | none=>exact mF hE h hK
 | some p=>
   obtain ⟨t,b⟩:=p
   simp only [xop] at h
   simp only [aC]
   split at h
   · rename_i y hy
     simp only [hy]
     split at h
     · rename_i hyb
       subst hyb
       cases y
       · simp only [Bool.false_eq_true,if_false]; exact ⟨fun h'=>(by cases h'),fun _=>mF hE h hK⟩
       · simp only [if_true]; exact ⟨fun _=>mF hE h hK,fun h'=>(by cases h')⟩
     · rename_i hyb
       cases h
       cases y<;>cases b
       · exact absurd rfl hyb
       · simp only [if_true]; exact ⟨fun h'=>(by cases h'),fun _=>hK⟩
       · simp only [Bool.false_eq_true,if_false]; exact ⟨fun _=>hK,fun h'=>(by cases h')⟩
       · exact absurd rfl hyb
   · rename_i hy; simp only [hy]; cases h; exact hK
   · cases h
theorem vW:∀ {os:List AOp} {σ:St},Bz (fy env) os σ=some τ→K τ→s7 Φ os K σ
 | [],σ,h,hK=>by simp only [Bz,Option.some.injEq] at h; subst h; exact hK
 | o::os,σ,h,hK=>by
   simp only [Bz] at h
   split at h
   · rename_i τ' h1; exact In hE h1 (vW h hK)
   · cases h
theorem uj:∀ {os:List AOp} {σ:St},Bz (lP env) os σ=some τ→K τ→rq Φ os K σ
 | [],σ,h,hK=>by simp only [Bz,Option.some.injEq] at h; subst h; exact hK
 | o::os,σ,h,hK=>by
   simp only [Bz] at h
   split at h
   · rename_i τ' h1; exact vX hE h1 (uj h hK)
   · cases h
theorem jB {ks:List Nat}:∀ {t:OT} {σ τ:St},ui env ks t σ=some τ→K τ→f0 Φ t (fun σ'=>K (σ'.nrm ks)) σ
 | .nil,σ,τ,h,hK=>by simp only [ui,Option.some.injEq] at h; subst h; exact hK
 | .op o t,σ,τ,h,hK=>by
   simp only [ui] at h
   split at h
   · rename_i τ' h1; exact vX hE h1 (jB h hK)
   · cases h
 | .both a b,σ,τ,h,hK=>by
   simp only [ui] at h
   split at h
   · rename_i τ1 τ2 h1 h2
     split at h
     · rename_i he
       cases h
       have:=Mt he
       subst this
       exact ⟨jB h1 hK,jB h2 hK⟩
     · cases h
   · cases h
omit hE in
theorem Dx {f:St→Option (Ex × St)} {ks:List Nat} {c:AC} (hf:∀ {σ:St} {e:Ex} {τ:St} {Q:Ex→St→Prop},f σ=some (e,τ)→Q e τ→W Φ c Q σ) {Q:Ex→St→Prop} {n:Nat} {σ:St} {e:Ex} {τ:St}
 (h:Dy f ks n (σ.nrm ks)=some (e,τ)) (hQ:Q e τ):W Φ (.loop ks c) Q σ:=by
 refine ⟨fun k υ=>∃ e τ,Dy f ks k υ=some (e,τ)∧Q e τ,⟨n,[],σ,rfl,e,τ,h,hQ⟩,?_⟩
 rintro k υ ⟨e',τ',h',hQ'⟩
 cases k with
 | zero=>cases h'
 | succ k=>
   simp only [Dy] at h'
   split at h'
   · rename_i τ1 h1
     exact hf h1 ⟨k,[],τ1,rfl,⟨e',τ',h',hQ'⟩,Nat.lt_succ_self _⟩
   · rename_i e1 τ1 hne h1
     cases h'
     refine hf h1 ?_
     cases e' with
     | norm=>exact (hne rfl).elim
     | _=>exact hQ'
   · cases h'
omit hE in
theorem Dz {l:Nat} {f:St→Option (Ex × St)} {ks:List Nat} {a c:AC} (hf:∀ {σ:St} {e:Ex} {τ:St} {Q:Ex→St→Prop},f σ=some (e,τ)→Q e τ→W Φ c Q σ) {Q:Ex→St→Prop} {σ:St} {J:St}
 (ha:∀ {Q':Ex→St→Prop},Q' (.goto l) J→W Φ a Q' σ) {n:Nat} {e:Ex} {τ:St} (h:DA l f ks n (J.nrm ks)=some (e,τ)) (hQ:Q e τ):W Φ (.scope l ks a c) Q σ:=by
 refine ⟨fun k υ=>∃ e τ,DA l f ks k υ=some (e,τ)∧Q e τ,ha ⟨rfl,n,[],J,rfl,e,τ,h,hQ⟩,?_⟩
 rintro k υ ⟨e',τ',h',hQ'⟩
 cases k with
 | zero=>cases h'
 | succ k=>
   simp only [DA] at h'
   split at h'
   · rename_i l' τ1 h1
     split at h'
     · rename_i hl
       exact hf h1 ⟨hl,k,[],τ1,rfl,⟨e',τ',h',hQ'⟩,Nat.lt_succ_self _⟩
     · cases h'
   · rename_i e1 τ1 hne h1
     cases h'
     refine hf h1 ?_
     cases e' with
     | goto l'=>exact (hne l' rfl).elim
     | _=>exact hQ'
   · cases h'
theorem mC {fuel:Nat}:∀ {c:AC} {σ:St} {e:Ex} {τ:St} {Q:Ex→St→Prop},cF env fuel c σ=some (e,τ)→Q e τ→W Φ c Q σ:=by
 intro c
 induction c with
 | skip=>intro σ e τ Q h hQ; simp only [cF,Option.some.injEq,Prod.mk.injEq] at h; obtain ⟨rfl,rfl⟩:=h; exact hQ
 | reg ops ks=>
   intro σ e τ Q h hQ
   simp only [cF] at h
   split at h
   · rename_i σ' h1; cases h; exact vW hE h1 hQ
   · cases h
 | regD ops ks=>
   intro σ e τ Q h hQ
   simp only [cF] at h
   split at h
   · rename_i σ' h1; cases h; exact uj hE h1 hQ
   · cases h
 | regE=>intro σ e τ Q h hQ; simp only [cF] at h; cases h
 | regF t ks=>
   intro σ e τ Q h hQ
   simp only [cF] at h
   split at h
   · rename_i σ' h1; cases h; exact jB hE h1 hQ
   · cases h
 | scope l ks a b iha ihb=>
   intro σ e τ Q h hQ
   simp only [cF] at h
   split at h
   · rename_i l' J h1
     split at h
     · rename_i hl
       subst hl
       exact Dz ihb (fun hq=>iha h1 hq) h hQ
     · cases h
   · rename_i hne
     refine ⟨fun _ _=>False,iha h ?_,fun _ _ h=>h.elim⟩
     cases e with
     | goto l'=>exact (hne l' τ h).elim
     | _=>exact hQ
 | label l=>intro σ e τ Q h hQ; simp only [cF,Option.some.injEq,Prod.mk.injEq] at h; obtain ⟨rfl,rfl⟩:=h; exact hQ
 | goto l=>intro σ e τ Q h hQ; simp only [cF,Option.some.injEq,Prod.mk.injEq] at h; obtain ⟨rfl,rfl⟩:=h; exact hQ
 | bad=>intro σ e τ Q h hQ; simp only [cF] at h; cases h
 | seq a b iha ihb=>
   intro σ e τ Q h hQ
   simp only [cF] at h
   split at h
   · rename_i τ1 h1; exact iha h1 (ihb h hQ)
   · rename_i hne
     refine iha h ?_
     cases e with
     | norm=>exact (hne τ h).elim
     | _=>exact hQ
 | cond c a b iha ihb=>
   intro σ e τ Q h hQ
   simp only [cF] at h
   rw [Sx]
   split at h
   · rename_i t ht
     simp only [ht]
     cases t
     · exact ⟨fun h'=>(by cases h'),fun _=>ihb (by simpa using h) hQ⟩
     · exact ⟨fun _=>iha (by simpa using h) hQ,fun h'=>(by cases h')⟩
   · cases h
 | block id c ih=>
   intro σ e τ Q h hQ
   simp only [cF] at h
   rw [Ii]
   split at h
   · rename_i id' τ1 h1
     refine ih h1 ?_
     rw [sf]
     split at h
     · rename_i hi; cases h; rw [if_pos hi]; exact hQ
     · rename_i hi; cases h; rw [if_neg hi]; exact hQ
   · rename_i hne
     refine ih h ?_
     cases e with
     | exit id'=>exact (hne id' τ h).elim
     | _=>exact hQ
 | loop ks c ih=>intro σ e τ Q h hQ; simp only [cF] at h; exact Dx ih h hQ
 | exit id=>intro σ e τ Q h hQ; simp only [cF,Option.some.injEq,Prod.mk.injEq] at h; obtain ⟨rfl,rfl⟩:=h; exact hQ
 | ret=>intro σ e τ Q h hQ; simp only [cF,Option.some.injEq,Prod.mk.injEq] at h; obtain ⟨rfl,rfl⟩:=h; exact hQ
end
structure FD where
 c:AC
 rs:List RV
 n:Nat
 ps:List Nat
structure FTab where
 p:FuncId→Option FD
 h:FuncId→Option FD
 g:FuncId→List V→Option V
def Mq:Ex→Bool
 | .exit _=>false
 | .goto _=>false
 | _=>true
def xres (rs:List RV):Ex × St→Option (V × Bool)
 | (e,σ)=>if Mq e=true then (match σ.rvs rs with
   | some vs=>match purs σ.h vs with
     | some us=>some (ii us,xD σ.h vs)
     | none=>none
   | none=>none) else none
def BV (m:List Nat) (r:List (Nat × V)) (us:List V):List Nat→Bool
 | []=>true
 | i::is=>(match lk r i,us[i]? with
   | some v,some u=>eqV (ren m v) u
   | _,_=>false) && BV m r us is
def J8 (σ:St) (ps:List Nat) (us:List V) (vs:List V) (m:List Nat):Option (V × List (Option Ob)):=
 if BV m σ.r us ps=true then some (ii (cW m vs),fD σ.h m m) else none
def PG (rs:List RV) (ps:List Nat) (us:List V):Ex × St→Option (V × List (Option Ob))
 | (e,σ)=>if Mq e=true then (match σ.rvs rs with
   | some vs=>J8 σ ps us vs (dY σ.h (rP (pk σ.r ps)) vs).2
   | none=>none) else none
def oZ (T:FTab) (fuel:Nat):Nat→Env
 | 0=>⟨fun f us=>(T.g f us).map fun r=>(r,false),fun _=>none,fun _ _ _=>none⟩
 | n + 1=>
   { p:=fun f us=>match T.g f us with
       | some r=>some (r,false)
       | none=>match T.p f with
         | some D=>if us.length=D.n then (match cF (oZ T fuel n) fuel D.c ⟨ent 0 us,[]⟩ with
           | some x=>xres D.rs x
           | none=>none) else none
         | none=>none
     ps:=fun f=>(T.h f).map (·.ps)
     h:=fun f us H=>match T.h f with
       | some D=>if us.length=D.n then (match cF (oZ T fuel n) fuel D.c ⟨ent 0 us,H⟩ with
         | some x=>PG D.rs D.ps us x
         | none=>none) else none
       | none=>none }
def Img (P:Program) (f:FuncId) (D:FD):Prop:=∃ fn K E,P.funcs[f]?=some fn∧am P fn D.ps E K D.n=some (D.c,D.rs)
structure TabOK (P:Program) (T:FTab):Prop where
 p:∀ f D,T.p f=some D→Img P f D∧D.ps=[]
 h:∀ f D,T.h f=some D→Img P f D
 g:∀ f us r,T.g f us=some r→Fn P f us r
theorem uA {m:List Nat} {r:List (Nat × V)} {us:List V}:∀ {is:List Nat},BV m r us is=true→AH m r us is
 | [],_=>trivial
 | i::is,h=>by
   simp only [BV,Bool.and_eq_true] at h
   refine ⟨?_,uA h.2⟩
   have h1:=h.1
   split at h1
   · rename_i v u hv hu; first | (simp only [hv,hu]; exact gy h1) | exact gy h1
   · cases h1
theorem Sy {rs:List RV} {post:V→Prop} {e:Ex} {σ:St} (he:Mq e=true) (h:match σ.rvs rs with
 | some vs=>match purs σ.h vs with
   | some us=>post (ii us)
   | none=>False
 | none=>False):Res rs post e σ:=⟨(by cases e<;>first | trivial | cases he),h⟩
theorem PB {rs:List RV} {r:V} {e:Ex} {σ:St} (he:Mq e=true) (h:match σ.rvs rs with
 | some vs=>xD σ.h vs=true∧(match purs σ.h vs with
   | some us=>ii us=r
   | none=>False)
 | none=>False):Dw rs r e σ:=⟨(by cases e<;>first | trivial | cases he),h⟩
theorem PC {rs:List RV} {ps:List Nat} {us:List V} {r:V} {H':List (Option Ob)} {e:Ex} {σ:St} (he:Mq e=true) (h:match σ.rvs rs with
 | some vs=>DT σ ps us r H' vs (dY σ.h (rP (pk σ.r ps)) vs).2
 | none=>False):Fp rs ps us r H' e σ:=⟨(by cases e<;>first | trivial | cases he),h⟩
theorem FnN.of_imageE {P:Program} {f:FuncId} {fn:Func} {E:List Nat} {us:List V} {r:V} {x:AC} {K:List (List Nat)} {rs:List RV} {n:Nat} (hm:P.follows .mixedOrders=true) (hf:P.funcs[f]?=some fn)
 (hi:am P fn [] E K n=some (x,rs)) (hn:us.length=n) (hW:oks us→W (Cn P) x (Dw rs r) ⟨ent 0 us,[]⟩):FnN P f us r:=by
 unfold am at hi
 split at hi
 · split at hi
   · split at hi
     · rename_i hc
       cases hi
       exact FnN.of_W hm hf ‹_› hc.1 (jy ‹_›) ‹_› (by rw [hn]; exact hc.2.1) hW
     · cases hi
   · cases hi
 · cases hi
theorem Img.of_image {P:Program} {f:FuncId} {fn:Func} {K:List (List Nat)} {n:Nat} {c:AC} {rs:List RV} (hf:P.funcs[f]?=some fn) (h:an P fn K n=some (c,rs)):Img P f ⟨c,rs,n,[]⟩:=by
 refine ⟨fn,K,[],hf,?_⟩
 show am P fn [] [] K n=some (c,rs)
 unfold an at h
 unfold am
 cases hb:fn.body with
 | none=>rw [hb] at h; cases h
 | some x=>
   rw [hb] at h
   dsimp only at h ⊢
   split at h
   · rename_i y rs' hx hr
     split at h
     · rename_i hc
       cases h
       exact if_pos ⟨hc.1,hc.2,rfl⟩
     · cases h
   · cases h
theorem Img.of_imageE {P:Program} {f:FuncId} {fn:Func} {ps E:List Nat} {K:List (List Nat)} {n:Nat} {c:AC} {rs:List RV} (hf:P.funcs[f]?=some fn) (h:am P fn ps E K n=some (c,rs)):Img P f ⟨c,rs,n,ps⟩:=⟨fn,K,E,hf,h⟩
theorem cK {P:Program} {T:FTab} (hm:P.follows .mixedOrders=true) (hT:TabOK P T) (fuel:Nat) (n:Nat):EnvOK (oZ T fuel n) (Cn P):=by
 induction n with
 | zero=>
   refine ⟨fun f us r nw h=>?_,fun f us H r H' ps h=>by simp [oZ] at h⟩
   simp only [oZ,Option.map_eq_some_iff,Prod.mk.injEq] at h
   obtain ⟨r',h1,rfl,rfl⟩:=h
   exact ⟨hT.g _ _ _ h1,fun h=>by cases h⟩
 | succ n ih=>
   refine ⟨fun f us r nw h=>?_,fun f us H r H' ps h h'=>?_⟩
   · simp only [oZ] at h
     split at h
     · rename_i r' h1
       cases h
       exact ⟨hT.g _ _ _ h1,fun h=>by cases h⟩
     · split at h
       · rename_i D hD
         obtain ⟨⟨fn,K,E,hf,hi⟩,hps⟩:=hT.p _ _ hD
         rw [hps] at hi
         split at h
         · rename_i hl
           split at h
           · rename_i x hx
             obtain ⟨e,σ⟩:=x
             simp only [xres] at h
             split at h
             · rename_i he
               split at h
               · rename_i vs hvs
                 split at h
                 · rename_i ws hws
                   cases h
                   exact ⟨Fn.of_imageE hm hf hi hl fun _=>mC ih hx (Sy he (by simp only [hvs,hws])),fun hfr=>FnN.of_imageE hm hf hi hl fun _=>mC ih hx (PB he (by simp only [hvs,hws]; exact ⟨hfr,trivial⟩))⟩
                 · cases h
               · cases h
             · cases h
           · cases h
         · cases h
       · cases h
   · simp only [oZ] at h h'
     split at h'
     · rename_i D hD
       simp only [hD,Option.map_some,Option.some.injEq] at h
       subst h
       obtain ⟨fn,K,E,hf,hi⟩:=hT.h _ _ hD
       split at h'
       · rename_i hl
         split at h'
         · rename_i x hx
           obtain ⟨e,σ⟩:=x
           simp only [PG] at h'
           split at h'
           · rename_i he
             split at h'
             · rename_i vs hvs
               unfold J8 at h'
               split at h'
               · rename_i hp
                 cases h'
                 exact FnH.of_image hm hf hi hl fun _ _=>mC ih hx (PC he (by simp only [hvs]; exact ⟨uA hp,rfl,rfl⟩))
               · cases h'
             · cases h'
           · cases h'
         · cases h'
       · cases h'
     · cases h'
end Go.Abs
end
section
namespace Go.Abs
open Go.RowKit
theorem Heap.boxed {P:Program} {J:Nat→List (V × Bool)→(Nat→Prop)→Mem→World→Prop} {κ:Kap} {κ0:Kap} {M:Mem} {w w':World} {ca:Array Value} {H':List (Option Ob)} (h:Heap κ M (cI κ0 [] w [] ca J) w' H') (hu:Und (cI κ0 [] w [] ca J) w w') {cs cs':List V} {id:Nat} {c:Value}
 (hb:H'[id]?=some (some (.box cs))) (hp:purs H' cs=some cs') (hr:rep M (XX κ H') (.ptr id 0) c):
 ∃ M',(∀ p v,M p=some v→M' p=some v)∧(∀ p v,M' p=some v→w'.cell? p=some v)∧(∀ p v,M' p=some v→M p=some v∨w.heap.size≤p.block)∧rep M' NX (.sptr (.strct cs') 0) c:=by
 have H:Rel 0 M (cI κ0 [] w [] ca J) w κ M ⟨[],H'⟩ { tmps:=#[],defers:=[] } w':=
  { dfr:=rfl,jst:=h.jst,pin:=fun i hi=>(by cases hi),size:=rfl,regs:=fun t v ht=>(by simp [lk] at ht),heap:=h.heap,inj:=h.inj,snd:=h.snd,sep:=h.sep
    sub:=⟨fun _ _ h=>h,h.fmS,fun _ _ _=>Nat.zero_le _,Nat.zero_le _,h.gl⟩,new:=fun _ _ h=>.inl h,base:=rfl,blw:=hu }
 obtain ⟨ids,tH⟩:∃ ids,ids=id::ai cs:=⟨_,rfl⟩
 obtain ⟨H2,hM⟩:=H.kill ids (fun i hi=>by
  rw [tH] at hi
  rcases List.mem_cons.1 hi with rfl | hi
  · exact ⟨_,hb⟩
  · exact dg hp i hi)
 have hob:=h.heap id _ hb
 simp only [aK] at hob
 obtain ⟨b,arr,T,h1,h2,h3,h4,h5,h6⟩:=hob
 simp only [rep,XX] at hr
 obtain ⟨b',e1,e2⟩:=hr.2.2 _ hb
 rw [h1] at e1
 cases e1
 refine ⟨ext M w' (lL κ ids),hM,H2.snd,fun p v hv=>?_,?_⟩
 · rcases H2.new p v hv with h | h | ⟨i,ob,g1,_⟩
   · exact .inl h
   · exact .inr h
   · simp at g1
 · have k3:aa (ext M w' (lL κ ids)) NX cs' arr.toList:=by
    refine bv H hM (fun i hi g hg p hpb=>?_) h4 hp
    unfold ext
    rw [if_pos (cZ.2 ⟨i,by rw [tH]; exact List.mem_cons_of_mem _ hi,by rw [hpb]; exact hg⟩)]
   simp only [rep]
   refine ⟨b,0,.agg arr,by simpa using e2,⟨arr,rfl,k3,h5⟩,h5,fun j hj=>?_⟩
   have hk:lL κ ids b:=cZ.2 ⟨id,by rw [tH]; simp,(h6 b).2 rfl⟩
   unfold ext
   rw [if_pos hk]
   simp [World.cell?,h3,Value.cells]
theorem FnH.start {M:Mem} {w:World} (h:Snd M w) (ca:Array Value):Heap ⟨fun _=>undef,fun _ _=>undef,fun _ _=>False,fun _=>none⟩ M (cI ⟨fun _=>undef,fun _ _=>undef,fun _ _=>False,fun _=>none⟩ [] w [] ca noJ) w []:=
 { heap:=fun id ob h=>by simp at h,inj:=fun i j oi oj g h=>by simp at h,snd:=h.snd,sep:=fun p v _ id ob h=>by simp at h,fmS:=fun _ _ h=>(by cases h),gl:=h.gl,jst:=wJ rfl }
theorem FnH.boxed1 {P:Program} {f:FuncId} {us:List V} {H':List (Option Ob)} {cs cs':List V} (h:FnH P f [] us [] (.ptr 0 0) H') (hb:H'[0]?=some (some (.box cs))) (hp:purs H' cs=some cs'):Fn P f us (.sptr (.strct cs') 0):=by
 intro M w ca hM hus o a Nx Q hN
 refine h M w _ ca noJ (rY rfl) (FnH.start hM ca) (aR (fun _ _ h=>h) (fun _ _ h=>h.elim) _ _ hus) o a Nx Q ?_
 intro c M' w' κ' hr hu hh hM1 hM2 _
 obtain ⟨M2,k1,k2,k3,k4⟩:=hh.boxed (P:=P) hu hb hp hr
 refine hN c M2 w' k4 ⟨hu.os,hu.tape,hu.output,hu.size,fun k hk=>hu.block k hk (fun ⟨i,ob,g1,_⟩=>by simp at g1)⟩ k2 (fun p v h=>k1 p v (hM1 p v h)) (fun p v h=>?_)
 rcases k3 p v h with h | h
 · rcases hM2 p v h with h | h | ⟨i,ob,g1,_⟩
   · exact .inl h
   · exact .inr h
   · simp at g1
 · exact .inr h
theorem FnH.boxed2 {P:Program} {f:FuncId} {us:List V} {H':List (Option Ob)} {cs cs':List V} {x:V} (h:FnH P f [] us [] (.tup [.ptr 0 0,x]) H') (hx:bY x=true) (hb:H'[0]?=some (some (.box cs))) (hp:purs H' cs=some cs'):Fn P f us (.tup [.sptr (.strct cs') 0,x]):=by
 intro M w ca hM hus o a Nx Q hN
 refine h M w _ ca noJ (rY rfl) (FnH.start hM ca) (aR (fun _ _ h=>h) (fun _ _ h=>h.elim) _ _ hus) o a Nx Q ?_
 intro c M' w' κ' hr hu hh hM1 hM2 _
 simp only [rep,aa] at hr
 obtain ⟨arr,rfl,c1,cs1,e1,hr1,c2,cs2,e2,hr2,e3⟩:=hr
 obtain ⟨M2,k1,k2,k3,k4⟩:=hh.boxed (P:=P) hu hb hp (c:=c1) (by simpa only [rep] using hr1)
 refine hN _ M2 w' ?_ ⟨hu.os,hu.tape,hu.output,hu.size,fun k hk=>hu.block k hk (fun ⟨i,ob,g1,_⟩=>by simp at g1)⟩ k2 (fun p v h=>k1 p v (hM1 p v h)) (fun p v h=>?_)
 · simp only [rep,aa] at k4 ⊢
   exact ⟨arr,rfl,c1,_,e1,k4,c2,_,e2,kj hx hr2,e3⟩
 · rcases k3 p v h with h | h
   · rcases hM2 p v h with h | h | ⟨i,ob,g1,_⟩
     · exact .inl h
     · exact .inr h
     · simp at g1
   · exact .inr h
section
variable {P:Program} {N:Nat} {M0:Mem} {B:Bas} {w0:World} {κ:Kap} {M:Mem} {σ:St} {a:Act} {w w':World}
end
section
variable {P:Program} {N:Nat} {M0:Mem} {B:Bas} {w0:World} {κ:Kap} {M:Mem} {σ:St} {a:Act} {w w':World}
end
section
variable {F:Fence} {n:Nat} {P:Program}
end
section
variable {P:Program} {N:Nat} {M0:Mem} {B:Bas} {w0:World} {κ:Kap} {M:Mem} {σ:St} {a:Act} {w w':World}
end
end Go.Abs
end
