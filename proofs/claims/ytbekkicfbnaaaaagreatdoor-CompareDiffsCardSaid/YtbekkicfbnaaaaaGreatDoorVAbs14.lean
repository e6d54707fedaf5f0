/- Short words for the abstract machine's code. No condition. -/
import Derived.Test.YtbekkicfbnaaaaaGreatDoorVAbs8
import Derived.RangeFuncRecord
set_option linter.all false open Iff renaming rfl->zA
open Bool renaming and_eq_true->zAa,false_eq_true->zAd
open Option.some renaming injEq->zAb
open Prod.mk renaming injEq->zAc
open Nat renaming lt_succ_self->zAe,zero_le->zAg
open List renaming replicate->zAf open Option renaming some->ś,none->ń open Bool renaming true->ť,false->ğ
section
namespace Go.Abs
theorem Cn_p{P}:(Cn P).p=Fn P:=rfl
theorem Cn_n{P}:(Cn P).n=FnN P:=rfl
theorem Cn_e{P}:(Cn P).e=FnH P:=rfl
def o1(d:Nat)(a:Act'):AOp:=⟨ś d,a,ń⟩
def o0(a:Act'):AOp:=⟨ń,a,ń⟩
def gt(t:Nat)(o:AOp):AOp:=⟨o.d,o.a,ś (t,ť)⟩
def gf(t:Nat)(o:AOp):AOp:=⟨o.d,o.a,ś (t,ğ)⟩
def ts:List Nat->List AO
 |[]=>[]
 |t::l=>.t t::ts l
def m(d x:Nat):AOp:=⟨ś d,.mov (.t x),ń⟩
def mv(d:Nat)(v:V):AOp:=⟨ś d,.mov (.v v),ń⟩
def mi(d:Nat)(n:Int):AOp:=⟨ś d,.mov (.v (.int .i64 n)),ń⟩
def mb(d:Nat)(b:Bool):AOp:=⟨ś d,.mov (.v (.bool b)),ń⟩
def bt(d:Nat)(op:BinOp)(x y:Nat):AOp:=⟨ś d,.bin op (.t x) (.t y),ń⟩
def bi(d:Nat)(op:BinOp)(x:Nat)(n:Int):AOp:=⟨ś d,.bin op (.t x) (.v (.int .i64 n)),ń⟩
def bu(d:Nat)(op:BinOp)(x:Nat)(n:Int):AOp:=⟨ś d,.bin op (.t x) (.v (.int .u8 n)),ń⟩
def bs(d:Nat)(op:BinOp)(x:Nat)(s:List UInt8):AOp:=⟨ś d,.bin op (.t x) (.v (.str s)),ń⟩
def nt'(d x:Nat):AOp:=⟨ś d,.un .not (.t x),ń⟩
def ls(d x:Nat):AOp:=⟨ś d,.lens (.t x),ń⟩
def lq(d x:Nat):AOp:=⟨ś d,.lenq (.t x),ń⟩
def fa(d x o:Nat):AOp:=⟨ś d,.fa (.t x) o,ń⟩
def fl(d x o:Nat):AOp:=⟨ś d,.fld (.t x) o 1 ğ,ń⟩
def l1(d x:Nat):AOp:=⟨ś d,.ld (.t x) 1 ğ,ń⟩
def la(d x n:Nat):AOp:=⟨ś d,.ld (.t x) n ť,ń⟩
def ia(d x i s:Nat):AOp:=⟨ś d,.ia (.t x) (.t i) s,ń⟩
def ix(d x i:Nat):AOp:=⟨ś d,.ixs (.t x) (.t i),ń⟩
def pa(d x y:Nat):AOp:=⟨ś d,.pick (.t x) (.t y) (.v (.bool ğ)),ń⟩
def po(d x y:Nat):AOp:=⟨ś d,.pick (.t x) (.v (.bool ť)) (.t y),ń⟩
def ex(d x i:Nat):AOp:=⟨ś d,.ext (.t x) i,ń⟩
def bx(d x:Nat):AOp:=⟨ś d,.box (.t x),ń⟩
def st(n x y:Nat):AOp:=⟨ń,.st n (.t x) (.t y),ń⟩
def ca(d f:Nat)(l:List Nat):AOp:=⟨ś d,.call f (ts l),ń⟩
def ch(d f:Nat)(l:List Nat):AOp:=⟨ś d,.callH f (ts l),ń⟩
def cv(d g:Nat)(l:List Nat):AOp:=⟨ś d,.callv (.t g) (ts l),ń⟩
def Q:List AC->AC
 |[]=>.skip
 |[a]=>a
 |a::l=>.seq a (Q l)
def OQ:List AOp->OT->OT
 |[],t=>t
 |x::xs,t=>.op x (OQ xs t)
def C(c:Nat)(a b:AC):AC:=.cond (.t c) a b
theorem OQ0{t}:OQ [] t=t:=rfl
theorem OQ1{x xs t}:OQ (x::xs) t=.op x (OQ xs t):=rfl
attribute [simp] OQ0 OQ1
section
variable{Φ:Ctr}{K:St->Prop}{σ:St}{Q':Ex->St->Prop}
theorem ajE{d a}:wop Φ (o1 d a) K σ=ak Φ (ś d) (a) K σ:=propext zA
theorem ahr{d a}:a8 Φ (o1 d a) K σ=an Φ (ś d) (a) K σ:=propext zA
theorem ajF{a}:wop Φ (o0 a) K σ=ak Φ (ń) (a) K σ:=propext zA
theorem ahs{a}:a8 Φ (o0 a) K σ=an Φ (ń) (a) K σ:=propext zA
theorem wop_m{d x}:wop Φ (m d x) K σ=ak Φ (ś d) (.mov (.t x)) K σ:=propext zA
theorem aj3{d x}:a8 Φ (m d x) K σ=an Φ (ś d) (.mov (.t x)) K σ:=propext zA
theorem ajG{d v}:wop Φ (mv d v) K σ=ak Φ (ś d) (.mov (.v v)) K σ:=propext zA
theorem aht{d v}:a8 Φ (mv d v) K σ=an Φ (ś d) (.mov (.v v)) K σ:=propext zA
theorem ajH{d n}:wop Φ (mi d n) K σ=ak Φ (ś d) (.mov (.v (.int .i64 n))) K σ:=propext zA
theorem ahu{d n}:a8 Φ (mi d n) K σ=an Φ (ś d) (.mov (.v (.int .i64 n))) K σ:=propext zA
theorem ajI{d b}:wop Φ (mb d b) K σ=ak Φ (ś d) (.mov (.v (.bool b))) K σ:=propext zA
theorem ahv{d b}:a8 Φ (mb d b) K σ=an Φ (ś d) (.mov (.v (.bool b))) K σ:=propext zA
theorem ajZ{d op x y}:wop Φ (bt d op x y) K σ=ak Φ (ś d) (.bin op (.t x) (.t y)) K σ:=propext zA
theorem ahM{d op x y}:a8 Φ (bt d op x y) K σ=an Φ (ś d) (.bin op (.t x) (.t y)) K σ:=propext zA
theorem aj1{d op x n}:wop Φ (bi d op x n) K σ=ak Φ (ś d) (.bin op (.t x) (.v (.int .i64 n))) K σ:=propext zA
theorem ahO{d op x n}:a8 Φ (bi d op x n) K σ=an Φ (ś d) (.bin op (.t x) (.v (.int .i64 n))) K σ:=propext zA
theorem ajY{d op x n}:wop Φ (bu d op x n) K σ=ak Φ (ś d) (.bin op (.t x) (.v (.int .u8 n))) K σ:=propext zA
theorem ahL{d op x n}:a8 Φ (bu d op x n) K σ=an Φ (ś d) (.bin op (.t x) (.v (.int .u8 n))) K σ:=propext zA
theorem aj0{d op x s}:wop Φ (bs d op x s) K σ=ak Φ (ś d) (.bin op (.t x) (.v (.str s))) K σ:=propext zA
theorem ahN{d op x s}:a8 Φ (bs d op x s) K σ=an Φ (ś d) (.bin op (.t x) (.v (.str s))) K σ:=propext zA
theorem ahm{d x}:wop Φ (nt' d x) K σ=ak Φ (ś d) (.un .not (.t x)) K σ:=propext zA
theorem ad9{d x}:a8 Φ (nt' d x) K σ=an Φ (ś d) (.un .not (.t x)) K σ:=propext zA
theorem ajJ{d x}:wop Φ (ls d x) K σ=ak Φ (ś d) (.lens (.t x)) K σ:=propext zA
theorem ahw{d x}:a8 Φ (ls d x) K σ=an Φ (ś d) (.lens (.t x)) K σ:=propext zA
theorem ajK{d x}:wop Φ (lq d x) K σ=ak Φ (ś d) (.lenq (.t x)) K σ:=propext zA
theorem ahx{d x}:a8 Φ (lq d x) K σ=an Φ (ś d) (.lenq (.t x)) K σ:=propext zA
theorem ajS{d x o}:wop Φ (fa d x o) K σ=ak Φ (ś d) (.fa (.t x) o) K σ:=propext zA
theorem ahF{d x o}:a8 Φ (fa d x o) K σ=an Φ (ś d) (.fa (.t x) o) K σ:=propext zA
theorem ajR{d x o}:wop Φ (fl d x o) K σ=ak Φ (ś d) (.fld (.t x) o 1 ğ) K σ:=propext zA
theorem ahE{d x o}:a8 Φ (fl d x o) K σ=an Φ (ś d) (.fld (.t x) o 1 ğ) K σ:=propext zA
theorem ajM{d x}:wop Φ (l1 d x) K σ=ak Φ (ś d) (.ld (.t x) 1 ğ) K σ:=propext zA
theorem ahz{d x}:a8 Φ (l1 d x) K σ=an Φ (ś d) (.ld (.t x) 1 ğ) K σ:=propext zA
theorem ajL{d x n}:wop Φ (la d x n) K σ=ak Φ (ś d) (.ld (.t x) n ť) K σ:=propext zA
theorem ahy{d x n}:a8 Φ (la d x n) K σ=an Φ (ś d) (.ld (.t x) n ť) K σ:=propext zA
theorem ajO{d x i s}:wop Φ (ia d x i s) K σ=ak Φ (ś d) (.ia (.t x) (.t i) s) K σ:=propext zA
theorem ahB{d x i s}:a8 Φ (ia d x i s) K σ=an Φ (ś d) (.ia (.t x) (.t i) s) K σ:=propext zA
theorem ajN{d x i}:wop Φ (ix d x i) K σ=ak Φ (ś d) (.ixs (.t x) (.t i)) K σ:=propext zA
theorem ahA{d x i}:a8 Φ (ix d x i) K σ=an Φ (ś d) (.ixs (.t x) (.t i)) K σ:=propext zA
theorem ajD{d x y}:wop Φ (pa d x y) K σ=ak Φ (ś d) (.pick (.t x) (.t y) (.v (.bool ğ))) K σ:=propext zA
theorem ahq{d x y}:a8 Φ (pa d x y) K σ=an Φ (ś d) (.pick (.t x) (.t y) (.v (.bool ğ))) K σ:=propext zA
theorem ajC{d x y}:wop Φ (po d x y) K σ=ak Φ (ś d) (.pick (.t x) (.v (.bool ť)) (.t y)) K σ:=propext zA
theorem ahp{d x y}:a8 Φ (po d x y) K σ=an Φ (ś d) (.pick (.t x) (.v (.bool ť)) (.t y)) K σ:=propext zA
theorem ajT{d x i}:wop Φ (ex d x i) K σ=ak Φ (ś d) (.ext (.t x) i) K σ:=propext zA
theorem ahG{d x i}:a8 Φ (ex d x i) K σ=an Φ (ś d) (.ext (.t x) i) K σ:=propext zA
theorem ajX{d x}:wop Φ (bx d x) K σ=ak Φ (ś d) (.box (.t x)) K σ:=propext zA
theorem ahK{d x}:a8 Φ (bx d x) K σ=an Φ (ś d) (.box (.t x)) K σ:=propext zA
theorem ajB{n x y}:wop Φ (st n x y) K σ=ak Φ (ń) (.st n (.t x) (.t y)) K σ:=propext zA
theorem aho{n x y}:a8 Φ (st n x y) K σ=an Φ (ń) (.st n (.t x) (.t y)) K σ:=propext zA
theorem ajW{d f l}:wop Φ (ca d f l) K σ=ak Φ (ś d) (.call f (ts l)) K σ:=propext zA
theorem ahJ{d f l}:a8 Φ (ca d f l) K σ=an Φ (ś d) (.call f (ts l)) K σ:=propext zA
theorem ajV{d f l}:wop Φ (ch d f l) K σ=ak Φ (ś d) (.callH f (ts l)) K σ:=propext zA
theorem ahI{d f l}:a8 Φ (ch d f l) K σ=an Φ (ś d) (.callH f (ts l)) K σ:=propext zA
theorem ajU{d g l}:wop Φ (cv d g l) K σ=ak Φ (ś d) (.callv (.t g) (ts l)) K σ:=propext zA
theorem ahH{d g l}:a8 Φ (cv d g l) K σ=an Φ (ś d) (.callv (.t g) (ts l)) K σ:=propext zA
def skO(o:AOp)(K:St->Prop)(σ:St):Prop:=K (σ.put o.d (.tup []))
theorem ahZ{o}:skO o K σ=K (σ.put o.d (.tup [])):=propext zA
def un(o:AOp):AOp:=⟨o.d,o.a,ń⟩
theorem ajP{t o}:wop Φ (gt t o) K σ=gM (lk σ.r t) ť (wop Φ (un o) K) (skO o K) σ:=by
 simp only[gt,ad7];rfl
theorem ajQ{t o}:wop Φ (gf t o) K σ=gM (lk σ.r t) ğ (wop Φ (un o) K) (skO o K) σ:=by
 simp only[gf,ad7];rfl
theorem ahC{t o}:a8 Φ (gt t o) K σ=gM (lk σ.r t) ť (a8 Φ (un o) K) (skO o K) σ:=by
 simp only[gt,XG];rfl
theorem ahD{t o}:a8 Φ (gf t o) K σ=gM (lk σ.r t) ğ (a8 Φ (un o) K) (skO o K) σ:=by
 simp only[gf,XG];rfl
theorem agZ{d a}:wop Φ (un (o1 d a)) K σ=ak Φ (ś d) (a) K σ:=propext zA
theorem adJ{d a}:a8 Φ (un (o1 d a)) K σ=an Φ (ś d) (a) K σ:=propext zA
theorem ag0{a}:wop Φ (un (o0 a)) K σ=ak Φ (ń) (a) K σ:=propext zA
theorem adK{a}:a8 Φ (un (o0 a)) K σ=an Φ (ń) (a) K σ:=propext zA
theorem ajA{d x}:wop Φ (un (m d x)) K σ=ak Φ (ś d) (.mov (.t x)) K σ:=propext zA
theorem ahl{d x}:a8 Φ (un (m d x)) K σ=an Φ (ś d) (.mov (.t x)) K σ:=propext zA
theorem ag1{d v}:wop Φ (un (mv d v)) K σ=ak Φ (ś d) (.mov (.v v)) K σ:=propext zA
theorem adL{d v}:a8 Φ (un (mv d v)) K σ=an Φ (ś d) (.mov (.v v)) K σ:=propext zA
theorem ag2{d n}:wop Φ (un (mi d n)) K σ=ak Φ (ś d) (.mov (.v (.int .i64 n))) K σ:=propext zA
theorem adM{d n}:a8 Φ (un (mi d n)) K σ=an Φ (ś d) (.mov (.v (.int .i64 n))) K σ:=propext zA
theorem ag3{d b}:wop Φ (un (mb d b)) K σ=ak Φ (ś d) (.mov (.v (.bool b))) K σ:=propext zA
theorem adN{d b}:a8 Φ (un (mb d b)) K σ=an Φ (ś d) (.mov (.v (.bool b))) K σ:=propext zA
theorem ahi{d op x y}:wop Φ (un (bt d op x y)) K σ=ak Φ (ś d) (.bin op (.t x) (.t y)) K σ:=propext zA
theorem ad2{d op x y}:a8 Φ (un (bt d op x y)) K σ=an Φ (ś d) (.bin op (.t x) (.t y)) K σ:=propext zA
theorem ahk{d op x n}:wop Φ (un (bi d op x n)) K σ=ak Φ (ś d) (.bin op (.t x) (.v (.int .i64 n))) K σ:=propext zA
theorem ad4{d op x n}:a8 Φ (un (bi d op x n)) K σ=an Φ (ś d) (.bin op (.t x) (.v (.int .i64 n))) K σ:=propext zA
theorem ahh{d op x n}:wop Φ (un (bu d op x n)) K σ=ak Φ (ś d) (.bin op (.t x) (.v (.int .u8 n))) K σ:=propext zA
theorem ad1{d op x n}:a8 Φ (un (bu d op x n)) K σ=an Φ (ś d) (.bin op (.t x) (.v (.int .u8 n))) K σ:=propext zA
theorem ahj{d op x s}:wop Φ (un (bs d op x s)) K σ=ak Φ (ś d) (.bin op (.t x) (.v (.str s))) K σ:=propext zA
theorem ad3{d op x s}:a8 Φ (un (bs d op x s)) K σ=an Φ (ś d) (.bin op (.t x) (.v (.str s))) K σ:=propext zA
theorem adF{d x}:wop Φ (un (nt' d x)) K σ=ak Φ (ś d) (.un .not (.t x)) K σ:=propext zA
theorem abv{d x}:a8 Φ (un (nt' d x)) K σ=an Φ (ś d) (.un .not (.t x)) K σ:=propext zA
theorem ag4{d x}:wop Φ (un (ls d x)) K σ=ak Φ (ś d) (.lens (.t x)) K σ:=propext zA
theorem adO{d x}:a8 Φ (un (ls d x)) K σ=an Φ (ś d) (.lens (.t x)) K σ:=propext zA
theorem ag5{d x}:wop Φ (un (lq d x)) K σ=ak Φ (ś d) (.lenq (.t x)) K σ:=propext zA
theorem adP{d x}:a8 Φ (un (lq d x)) K σ=an Φ (ś d) (.lenq (.t x)) K σ:=propext zA
theorem ahb{d x o}:wop Φ (un (fa d x o)) K σ=ak Φ (ś d) (.fa (.t x) o) K σ:=propext zA
theorem adV{d x o}:a8 Φ (un (fa d x o)) K σ=an Φ (ś d) (.fa (.t x) o) K σ:=propext zA
theorem aha{d x o}:wop Φ (un (fl d x o)) K σ=ak Φ (ś d) (.fld (.t x) o 1 ğ) K σ:=propext zA
theorem adU{d x o}:a8 Φ (un (fl d x o)) K σ=an Φ (ś d) (.fld (.t x) o 1 ğ) K σ:=propext zA
theorem ag7{d x}:wop Φ (un (l1 d x)) K σ=ak Φ (ś d) (.ld (.t x) 1 ğ) K σ:=propext zA
theorem adR{d x}:a8 Φ (un (l1 d x)) K σ=an Φ (ś d) (.ld (.t x) 1 ğ) K σ:=propext zA
theorem ag6{d x n}:wop Φ (un (la d x n)) K σ=ak Φ (ś d) (.ld (.t x) n ť) K σ:=propext zA
theorem adQ{d x n}:a8 Φ (un (la d x n)) K σ=an Φ (ś d) (.ld (.t x) n ť) K σ:=propext zA
theorem ag9{d x i s}:wop Φ (un (ia d x i s)) K σ=ak Φ (ś d) (.ia (.t x) (.t i) s) K σ:=propext zA
theorem adT{d x i s}:a8 Φ (un (ia d x i s)) K σ=an Φ (ś d) (.ia (.t x) (.t i) s) K σ:=propext zA
theorem ag8{d x i}:wop Φ (un (ix d x i)) K σ=ak Φ (ś d) (.ixs (.t x) (.t i)) K σ:=propext zA
theorem adS{d x i}:a8 Φ (un (ix d x i)) K σ=an Φ (ś d) (.ixs (.t x) (.t i)) K σ:=propext zA
theorem agY{d x y}:wop Φ (un (pa d x y)) K σ=ak Φ (ś d) (.pick (.t x) (.t y) (.v (.bool ğ))) K σ:=propext zA
theorem adI{d x y}:a8 Φ (un (pa d x y)) K σ=an Φ (ś d) (.pick (.t x) (.t y) (.v (.bool ğ))) K σ:=propext zA
theorem agX{d x y}:wop Φ (un (po d x y)) K σ=ak Φ (ś d) (.pick (.t x) (.v (.bool ť)) (.t y)) K σ:=propext zA
theorem adH{d x y}:a8 Φ (un (po d x y)) K σ=an Φ (ś d) (.pick (.t x) (.v (.bool ť)) (.t y)) K σ:=propext zA
theorem ahc{d x i}:wop Φ (un (ex d x i)) K σ=ak Φ (ś d) (.ext (.t x) i) K σ:=propext zA
theorem adW{d x i}:a8 Φ (un (ex d x i)) K σ=an Φ (ś d) (.ext (.t x) i) K σ:=propext zA
theorem ahg{d x}:wop Φ (un (bx d x)) K σ=ak Φ (ś d) (.box (.t x)) K σ:=propext zA
theorem ad0{d x}:a8 Φ (un (bx d x)) K σ=an Φ (ś d) (.box (.t x)) K σ:=propext zA
theorem agW{n x y}:wop Φ (un (st n x y)) K σ=ak Φ (ń) (.st n (.t x) (.t y)) K σ:=propext zA
theorem adG{n x y}:a8 Φ (un (st n x y)) K σ=an Φ (ń) (.st n (.t x) (.t y)) K σ:=propext zA
theorem ahf{d f l}:wop Φ (un (ca d f l)) K σ=ak Φ (ś d) (.call f (ts l)) K σ:=propext zA
theorem adZ{d f l}:a8 Φ (un (ca d f l)) K σ=an Φ (ś d) (.call f (ts l)) K σ:=propext zA
theorem ahe{d f l}:wop Φ (un (ch d f l)) K σ=ak Φ (ś d) (.callH f (ts l)) K σ:=propext zA
theorem adY{d f l}:a8 Φ (un (ch d f l)) K σ=an Φ (ś d) (.callH f (ts l)) K σ:=propext zA
theorem ahd{d g l}:wop Φ (un (cv d g l)) K σ=ak Φ (ś d) (.callv (.t g) (ts l)) K σ:=propext zA
theorem adX{d g l}:a8 Φ (un (cv d g l)) K σ=an Φ (ś d) (.callv (.t g) (ts l)) K σ:=propext zA
theorem d_o1{d a}:(o1 d a).d=ś d:=rfl
theorem d_o0{a}:(o0 a).d=none:=rfl
theorem d_m{d x}:(m d x).d=ś d:=rfl
theorem d_mv{d v}:(mv d v).d=ś d:=rfl
theorem d_mi{d n}:(mi d n).d=ś d:=rfl
theorem d_mb{d b}:(mb d b).d=ś d:=rfl
theorem d_bt{d op x y}:(bt d op x y).d=ś d:=rfl
theorem d_bi{d op x n}:(bi d op x n).d=ś d:=rfl
theorem d_bu{d op x n}:(bu d op x n).d=ś d:=rfl
theorem d_bs{d op x s}:(bs d op x s).d=ś d:=rfl
theorem d_ntp{d x}:(nt' d x).d=ś d:=rfl
theorem d_ls{d x}:(ls d x).d=ś d:=rfl
theorem d_lq{d x}:(lq d x).d=ś d:=rfl
theorem d_fa{d x o}:(fa d x o).d=ś d:=rfl
theorem d_fl{d x o}:(fl d x o).d=ś d:=rfl
theorem d_l1{d x}:(l1 d x).d=ś d:=rfl
theorem d_la{d x n}:(la d x n).d=ś d:=rfl
theorem d_ia{d x i s}:(ia d x i s).d=ś d:=rfl
theorem d_ix{d x i}:(ix d x i).d=ś d:=rfl
theorem d_pa{d x y}:(pa d x y).d=ś d:=rfl
theorem d_po{d x y}:(po d x y).d=ś d:=rfl
theorem d_ex{d x i}:(ex d x i).d=ś d:=rfl
theorem d_bx{d x}:(bx d x).d=ś d:=rfl
theorem d_st{n x y}:(st n x y).d=none:=rfl
theorem d_ca{d f l}:(ca d f l).d=ś d:=rfl
theorem d_ch{d f l}:(ch d f l).d=ś d:=rfl
theorem d_cv{d g l}:(cv d g l).d=ś d:=rfl
theorem d_un{o}:(un o).d=o.d:=rfl
theorem W_Q1{a}:W Φ (Q [a]) Q' σ=W Φ a Q' σ:=propext zA
theorem W_Q2{a b l}:W Φ (Q (a::b::l)) Q' σ=W Φ a (Ex.then (W Φ (Q (b::l)) Q') Q') σ:=propext zA
theorem W_C{c a b}:W Φ (C c a b) Q' σ=cM (lk σ.r c) (W Φ a Q') (W Φ b Q') σ:=propext zA
end
attribute [simp] ahZ ajP ajQ ahC ahD W_Q1 W_Q2 W_C ajE ahr agZ adJ ajF ahs ag0 adK wop_m aj3 ajA ahl ajG aht ag1 adL ajH ahu ag2 adM ajI ahv ag3 adN ajZ ahM ahi ad2 aj1 ahO ahk ad4 ajY ahL ahh ad1 aj0 ahN ahj ad3 ahm ad9 adF abv ajJ ahw ag4 adO ajK ahx ag5 adP ajS ahF ahb adV ajR ahE aha adU ajM ahz ag7 adR ajL ahy ag6 adQ ajO ahB ag9 adT ajN ahA ag8 adS ajD ahq agY adI ajC ahp agX adH ajT ahG ahc adW ajX ahK ahg ad0 ajB aho agW adG ajW ahJ ahf adZ ajV ahI ahe adY ajU ahH ahd adX
attribute [simp] Cn_p Cn_n Cn_e ts d_o1 d_o0 d_m d_mv d_mi d_mb d_bt d_bi d_bu d_bs d_ntp d_ls d_lq d_fa d_fl d_l1 d_la d_ia d_ix d_pa d_po d_ex d_bx d_st d_ca d_ch d_cv d_un
def alb:Go.Fn->Go.Fn->Bool
 | .func f,.func g=>decide (f=g)
 |_,_=>ğ
theorem ada{f g}(h:alb f g=ť):f=g:=by
 cases f<;>cases g<;>simp[alb]at h;rw[h]
mutual
def eqV:V->V->Bool
 | .int k n,.int k' n'=>decide (k=k')&&decide (n=n')
 | .bool a,.bool b=>decide (a=b)
 | .str a,.str b=>decide (a=b)
 | .nil a,.nil b=>decide (a=b)
 | .seq a l,.seq b m=>decide (a=b)&&Fm l m
 | .ref a n,.ref b m=>decide (a=b)&&decide (n=m)
 | .strct a,.strct b=>Fm a b
 | .ptr a n,.ptr b m=>decide (a=b)&&decide (n=m)
 | .eptr a n i o,.eptr b m j p=>decide (a=b)&&(decide (n=m)&&(decide (i=j)&&decide (o=p)))
 | .mref a i n,.mref b j m=>decide (a=b)&&(decide (i=j)&&decide (n=m))
 | .fseq a l,.fseq b m=>decide (a=b)&&Fm l m
 | .mptr a i n k o,.mptr b j m l p=>decide (a=b)&&(decide (i=j)&&(decide (n=m)&&(decide (k=l)&&decide (o=p))))
 | .sptr x o,.sptr y p=>eqV x y&&decide (o=p)
 | .nilptr,.nilptr=>ť
 | .fn f a b,.fn g c d=>alb f g&&(Fm a c&&Fm b d)
 | .nilfn,.nilfn=>ť
 | .iface t x,.iface u y=>decide (t=u)&&eqV x y
 | .niliface,.niliface=>ť
 | .tup a,.tup b=>Fm a b
 | .junk,.junk=>ť
 |_,_=>ğ
def Fm:List V->List V->Bool
 |[],[]=>ť
 |u::us,v::vs=>eqV u v&&Fm us vs
 |_,_=>ğ
end
mutual
theorem mg:∀{u v:V},eqV u v=ť->u=v
 | .int _ _,v,h=>by cases v<;>simp_all[eqV]
 | .bool _,v,h=>by cases v<;>simp_all[eqV]
 | .str _,v,h=>by cases v<;>simp_all[eqV]
 | .nil _,v,h=>by cases v<;>simp_all[eqV]
 | .ref _ _,v,h=>by cases v<;>simp_all[eqV]
 | .ptr _ _,v,h=>by cases v<;>simp_all[eqV]
 | .eptr _ _ _ _,v,h=>by cases v<;>simp_all[eqV]
 | .mref _ _ _,v,h=>by cases v<;>simp_all[eqV]
 | .mptr _ _ _ _ _,v,h=>by cases v<;>simp_all[eqV]
 | .nilptr,v,h=>by grind[eqV]
 | .nilfn,v,h=>by grind[eqV]
 | .niliface,v,h=>by grind[eqV]
 | .junk,v,h=>by grind[eqV]
 | .seq a l,v,h=>by
   cases v<;>simp only[eqV,zAa,decide_eq_true_eq,reduceCtorEq]at h;rw[h.1,fF h.2]
 | .fseq a l,v,h=>by
   cases v<;>simp only[eqV,zAa,decide_eq_true_eq,reduceCtorEq]at h;rw[h.1,fF h.2]
 | .strct l,v,h=>by
   cases v<;>simp only[eqV,zAa,decide_eq_true_eq,reduceCtorEq]at h;rw[fF h]
 | .tup l,v,h=>by
   cases v<;>simp only[eqV,zAa,decide_eq_true_eq,reduceCtorEq]at h;rw[fF h]
 | .sptr x o,v,h=>by
   cases v<;>simp only[eqV,zAa,decide_eq_true_eq,reduceCtorEq]at h;rw[mg h.1,h.2]
 | .iface t x,v,h=>by
   cases v<;>simp only[eqV,zAa,decide_eq_true_eq,reduceCtorEq]at h;rw[h.1,mg h.2]
 | .fn f a b,v,h=>by
   cases v<;>simp only[eqV,zAa,decide_eq_true_eq,reduceCtorEq]at h;rw[ada h.1,fF h.2.1,fF h.2.2]
theorem fF:∀{u v:List V},Fm u v=ť->u=v
 |[],v,h=>by grind[Fm]
 |u::us,v,h=>by
   cases v<;>simp only[Fm,zAa,reduceCtorEq]at h;rw[mg h.1,fF h.2]
end
def pj:List Rw->List Rw->Bool
 |[],[]=>ť
 | .g i::a,.g j::b=>decide (i=j)&&pj a b
 | .a u::a,.a v::b=>Fm u v&&pj a b
 |_,_=>ğ
theorem xi:∀{a b:List Rw},pj a b=ť->a=b
 |[],b,h=>by grind[pj]
 | .g i::a,b,h=>by
   match b,h with
   | .g j::b,h=>simp only[pj,zAa,decide_eq_true_eq]at h;rw[h.1,xi h.2]
   | .a _::b,h=>simp[pj]at h
   |[],h=>simp[pj]at h
 | .a u::a,b,h=>by
   match b,h with
   | .a v::b,h=>simp only[pj,zAa]at h;rw[fF h.1,xi h.2]
   | .g _::b,h=>simp[pj]at h
   |[],h=>simp[pj]at h
def ac9:List (V×V)->List (V×V)->Bool
 |[],[]=>ť
 |(u,v)::a,(x,y)::b=>eqV u x&&(eqV v y&&ac9 a b)
 |_,_=>ğ
theorem Qx:∀{a b:List (V×V)},ac9 a b=ť->a=b
 |[],b,h=>by grind[ac9]
 |(u,v)::a,b,h=>by
   match b,h with
   |(x,y)::b,h=>simp only[ac9,zAa]at h;rw[mg h.1,mg h.2.1,Qx h.2.2]
   |[],h=>simp[ac9]at h
def eqO:Option Ob->Option Ob->Bool
 |none,ń=>ť
 |some (.box a),ś (.box b)=>Fm a b
 |some (.arr e sz l),ś (.arr e' sz' l')=>decide (e=e')&&(decide (sz=sz')&&Fm l l')
 |some (.mat e e2 sz l),ś (.mat e' e2' sz' l')=>decide (e=e')&&(decide (e2=e2')&&(decide (sz=sz')&&pj l l'))
 |some (.mp kt l),ś (.mp kt' l')=>decide (kt=kt')&&ac9 l l'
 |_,_=>ğ
theorem af8{a b}(h:eqO a b=ť):a=b:=by
 rcases a with _|a<;>rcases b with _|b
 ·rfl
 ·grind[eqO]
 ·grind[eqO]
 ·cases a<;>cases b<;>simp only[eqO,zAa,decide_eq_true_eq,reduceCtorEq]at h
  ·rw[fF h]
  ·grind[fF]
  ·grind[xi]
  ·rw[h.1,Qx h.2]
def eqH:List (Option Ob)->List (Option Ob)->Bool
 |[],[]=>ť
 |a::l,b::m=>eqO a b&&eqH l m
 |_,_=>ğ
theorem W7:∀{a b:List (Option Ob)},eqH a b=ť->a=b
 |[],b,h=>by grind[eqH]
 |x::a,b,h=>by
   match b,h with
   |y::b,h=>simp only[eqH,zAa]at h;rw[af8 h.1,W7 h.2]
   |[],h=>simp[eqH]at h
def eqR:List (Nat×V)->List (Nat×V)->Bool
 |[],[]=>ť
 |(n,v)::l,(k,u)::m=>decide (n=k)&&(eqV v u&&eqR l m)
 |_,_=>ğ
theorem W6:∀{a b:List (Nat×V)},eqR a b=ť->a=b
 |[],b,h=>by grind[eqR]
 |(n,v)::a,b,h=>by
   match b,h with
   |(k,u)::b,h=>simp only[eqR,zAa,decide_eq_true_eq]at h;rw[h.1,mg h.2.1,W6 h.2.2]
   |[],h=>simp[eqR]at h
def eqS(σ τ:St):Bool:=eqR σ.r τ.r&&eqH σ.h τ.h
theorem af7{σ τ}(h:eqS σ τ=ť):σ=τ:=by
 obtain⟨r,h1⟩:=σ;obtain⟨r',h2⟩:=τ;simp only[eqS,zAa]at h;rw[W6 h.1,W7 h.2]
structure Env where
 p:FuncId->List V->Option (V×Bool)
 ps:FuncId->Option (List Nat)
 h:FuncId->List V->List (Option Ob)->Option (V×List (Option Ob))
def UB(env:Env)(d:Option Nat)(f:FuncId)(vs us:List V)(σ:St):Option St:=
 match env.p f us with
 |some (r,nw)=>if dA r=ť\/ax vs=[]\/nw=ť then ś (σ.put d r)else ś ((σ.kill (ax vs)).put d r)
 |none=>ń
def aai(env:Env)(d:Option Nat)(f:FuncId)(vs:List V)(σ:St)(q:Nat)(m:List Nat):Option St:=
 match env.h f (fq m vs) (kN σ.h m m)with
 |some (r,H')=>if kin q (kN σ.h m m) H'=ť then ś (St.put ⟨σ.r,σ.back q m H'⟩ d (bck (Fq q m σ.h.length H'.length) r))else ń
 |none=>ń
def vh(env:Env)(d:Option Nat)(f:FuncId)(vs:List V)(σ:St):Option St:=
 match env.ps f with
 |some ps=>if σ.curs (c9 vs ps)=ť then aai env d f vs σ (ir σ.h (c9 vs ps) vs).1 (ir σ.h (c9 vs ps) vs).2 else ń
 |none=>ń
def kF(env : Env)(d : Option Nat)(a : Act')(σ : St) : Option St :=
  match a with
  | .alc z => some ({ σ with h := σ.h ++ [some (Ob.box z)] }.put d (.ptr σ.h.length 0))
  | .box x => match σ.ev x with
    |some v => if nt v = true then some ({ σ with h := σ.h ++ [some (Ob.box (cl v))] }.put d (.ptr σ.h.length 0))else none
    |none => none
  | .st n p x => match σ.ev p,σ.ev x with
    |some a,some v => if nt v = true then(match σ.stor n a (cl v)with
      |some σ' => some (σ'.put d (.tup []))
      |none => none)else none
    |_,_ => none
  | .s2b x => match σ.ev x with
    |some (.str s) => if s.length <= 140737488355328 then some (σ.put d (.seq 1 (lg s)))else none
    |_ => none
  | .lit _ sz xs => match σ.evs xs with
    |some vs => match purs σ.h vs with
      |some us => if cw sz us = true /\ us.length <= 16777216 then some ((σ.kill (ax vs)).put d (.seq sz us))else none
      |none => none
    |none => none
  | .app x y e sz by' => match σ.ev x,σ.ev y with
    |some u,some v => match src σ.h v with
      |some (.seq sz' l) => if sz' = sz then
        (match u with
        | .nil _ => if l.length*by' <= 140737488355328 then some ({ σ with h := σ.h ++ [some (Ob.arr e sz l)] }.put d (.ref σ.h.length l.length))else none
        | .ref id n => match σ.arr? id with
          |some (e',sz',l0) => if e' = e /\ sz' = sz /\ n = l0.length /\ (n+l.length)*by' <= 140737488355328 then
            some ({ σ with h := σ.h.set id (some (Ob.arr e sz (l0 ++ l))) }.put d (.ref id (n+l.length)))else none
          |none => none
        |_ => none)else none
      |_ => none
    |_,_ => none
  | .mks e sz by' z n => match σ.ev n with
    |some (.int _ m) => if 0 <= m /\ m*by' <= 140737488355328 then
      some ({ σ with h := σ.h ++ [some (Ob.arr e sz (List.replicate m.toNat z))] }.put d (.ref σ.h.length m.toNat))else none
    |_ => none
  | .mk0 e sz by' n => match σ.ev n with
    |some (.int _ m) => if 0 <= m /\ m*by' <= 140737488355328 then
      some ({ σ with h := σ.h ++ [some (Ob.arr e sz [])] }.put d (.ref σ.h.length 0))else none
    |_ => none
  | .mkm e by' e2 sz n => match σ.ev n with
    |some (.int _ m) => if 0 <= m /\ m*by' <= 140737488355328 then
      some ({ σ with h := σ.h ++ [some (Ob.mat e e2 sz (List.replicate m.toNat (.a [])))] }.put d (.ref σ.h.length m.toNat))else none
    |_ => none
  | .call f xs => match σ.evs xs with
    |some vs => match purs σ.h vs with
      |some us => UB env d f vs us σ
      |none => vh env d f vs σ
    |none => none
  | .callv g xs => match σ.ev g,σ.evs xs with
    |some (.fn (.func f) a b),some vs => match purs σ.h (a ++ vs ++ b)with
      |some us => UB env d f (a ++ vs ++ b) us σ
      |none => vh env d f (a ++ vs ++ b) σ
    |_,_ => none
  | .callH f xs => match σ.evs xs with
    |some vs => vh env d f vs σ
    |none => none
  | .mkp kt => some ({ σ with h := σ.h ++ [some (Ob.mp kt [])] }.put d (.ref σ.h.length 0))
  | .mup kt x k v => match σ.ev x,σ.ev k,σ.ev v with
    |some (.ref id _),some kv,some u => match σ.mp? id,pur σ.h u with
      |some (kt',l),some u' => if kt' = kt /\ bH kt kv = true /\ aF u = [] /\ nt u' = true then some ({ σ with h := σ.h.set id (some (Ob.mp kt (nq kv u' l))) }.put d (.tup []))else none
      |_,_ => none
    |_,_,_ => none
  | .inv tbl x xs => match σ.ev x,σ.evs xs with
    |some (.iface t v),some vs => match lkF tbl t with
      |some f => (match purs σ.h (v :: vs)with
        |some us => UB env d f (v :: vs) us σ
        |none => vh env d f (v :: vs) σ)
      |none => none
    |_,_ => none
  | .ltr e sz xs => match σ.evs xs with
    |some vs => match purs σ.h vs with
      |some us => if cw sz us = true /\ us.length <= 16777216 then some (St.put ⟨(σ.kill (ax vs)).r,(σ.kill (ax vs)).h ++ [some (Ob.arr e sz us)]⟩ d (.ref (σ.kill (ax vs)).h.length us.length))else none
      |none => none
    |none => none
  | .yld _ _ => none
  | .ivp _ _ _ => none
  | .rgs _ => none
  | .nxs _ => none
  | .trc x hi sz => match σ.ev x,σ.ev hi with
    |some (.ref id n),some (.int _ b) => match σ.arr? id with
      |some (e,sz',l) => if sz' = sz /\ n = l.length /\ 0 <= b /\ b <= n then some ({ σ with h := σ.h.set id none ++ [some (Ob.arr e sz (l.take b.toNat))] }.put d (.ref σ.h.length b.toNat))else none
      |none => none
    |_,_ => none
  |a => match σ.val a with
    |some v => some (σ.put d v)
    |none => none
def QS(env:Env)(d:Option Nat)(f:FuncId)(vs us:List V)(σ:St):Option St:=
 match env.p f us with
 |some (r,nw)=>if dA r=ť\/ax vs=[]\/nw=ť then ś (σ.put d r)else ń
 |none=>ń
def tY(env : Env)(d : Option Nat)(a : Act')(σ : St) : Option St :=
  match a with
  | .lit _ sz xs => match σ.evs xs with
    |some vs => match purs [] vs with
      |some us => if cw sz us = true /\ us.length <= 16777216 then some (σ.put d (.seq sz us))else none
      |none => none
    |none => none
  | .call f xs => match σ.evs xs with
    |some vs => match purs σ.h vs with
      |some us => QS env d f vs us σ
      |none => none
    |none => none
  | .callv g xs => match σ.ev g,σ.evs xs with
    |some (.fn (.func f) a b),some vs => match purs σ.h (a ++ vs ++ b)with
      |some us => QS env d f (a ++ vs ++ b) us σ
      |none => none
    |_,_ => none
  | .callH f xs => match σ.evs xs with
    |some vs => vh env d f vs σ
    |none => none
  | .inv _ _ _ => none
  | .ivp _ _ _ => none
  | .trc _ _ _ => none
  | .ltr _ _ _ => none
  |a => kF env d a σ
def xop(x:Option Nat->Act'->St->Option St)(o:AOp)(σ:St):Option St:=
 match o.g with
 |none=>x o.d o.a σ
 |some (t,b)=>match lk σ.r t with
   |some (.bool y)=>if y=b then x o.d o.a σ else ś (σ.put o.d (.tup []))
   |some (.tup [])=>ś (σ.put o.d (.tup []))
   |_=>ń
def QR(x:Option Nat->Act'->St->Option St):List AOp->St->Option St
 |[],σ=>ś σ
 |o::os,σ=>match xop x o σ with
   |some τ=>QR x os τ
   |none=>ń
def FH(env:Env)(ks:List Nat):OT->St->Option St
 | .nil,σ=>ś (σ.nrm ks)
 | .op o t,σ=>match xop (tY env) o σ with
   |some τ=>FH env ks t τ
   |none=>ń
 | .both a b,σ=>match FH env ks a σ,FH env ks b σ with
   |some τ,ś τ'=>if eqS τ τ'=ť then ś τ else ń
   |_,_=>ń
def Uy(f:St->Option (Ex×St))(ks:List Nat):Nat->St->Option (Ex×St)
 |0,_=>ń
 |n+1,τ=>match f τ with
   |some (.norm,τ')=>Uy f ks n (τ'.nrm ks)
   |some (e,τ')=>ś (e,τ')
   |none=>ń
def UA(l:Nat)(f:St->Option (Ex×St))(ks:List Nat):Nat->St->Option (Ex×St)
 |0,_=>ń
 |n+1,τ=>match f τ with
   |some (.goto l',τ')=>if l'=l then UA l f ks n (τ'.nrm ks)else ń
   |some (e,τ')=>ś (e,τ')
   |none=>ń
def eL(env:Env)(fuel:Nat):AC->St->Option (Ex×St)
 | .skip,σ=>ś (.norm,σ)
 | .reg ops ks,σ=>match QR (kF env) ops σ with
   |some σ'=>ś (.norm,σ.cls σ' ks)
   |none=>ń
 | .regD ops ks,σ=>match QR (tY env) ops σ with
   |some σ'=>ś (.norm,σ.cls σ' ks)
   |none=>ń
 | .regE _ _,_=>ń
 | .regF t ks,σ=>match FH env ks t σ with
   |some σ'=>ś (.norm,σ')
   |none=>ń
 | .scope l ks a b,σ=>match eL env fuel a σ with
   |some (.goto l',τ)=>if l'=l then UA l (eL env fuel b) ks fuel (τ.nrm ks)else ń
   |r=>r
 | .label _,σ=>ś (.norm,σ)
 | .goto l,σ=>ś (.goto l,σ)
 | .bad,_=>ń
 | .seq a b,σ=>match eL env fuel a σ with
   |some (.norm,τ)=>eL env fuel b τ
   |r=>r
 | .cond c a b,σ=>match σ.ev c with
   |some (.bool t)=>if t=ť then eL env fuel a σ else eL env fuel b σ
   |_=>ń
 | .block id c,σ=>match eL env fuel c σ with
   |some (.exit id',τ)=>if id'=id then ś (.norm,τ)else ś (.exit id',τ)
   |r=>r
 | .loop ks c,σ=>Uy (eL env fuel c) ks fuel (σ.nrm ks)
 | .exit id,σ=>ś (.exit id,σ)
 | .ret,σ=>ś (.ret,σ)
structure EnvOK (env:Env) (Φ:Ctr):Prop where
 p:∀f us r nw,env.p f us=ś (r,nw)->Φ.p f us r/\(nw=ť->Φ.n f us r)
 h:∀f us H r H' ps,env.ps f=ś ps->env.h f us H=ś (r,H')->Φ.e f ps us H r H'
section
variable{env:Env}{Φ:Ctr}(hE:EnvOK env Φ){d:Option Nat}{σ τ:St}{K:St->Prop}
include hE
theorem vg{f vs us}(h:UB env d f vs us σ=ś τ)(hK:K τ):ry Φ d f vs us K σ:=by
 unfold UB at h;split at h
 ·rename_i r nw hr
  obtain⟨h1,h2⟩:=hE.p _ _ _ _ hr;split at h
  ·rename_i hc
   cases h;refine⟨r,.inl ⟨?_,λ_=>hK⟩⟩;rcases hc with h|h|h
   ·exact .inl ⟨h1,.inl h⟩
   ·exact .inl ⟨h1,.inr h⟩
   ·exact .inr (h2 h)
  ·cases h
   exact⟨r,.inr (.inl ⟨h1,λ_=>hK⟩)⟩
 ·cases h
theorem BG{f vs us}(h:QS env d f vs us σ=ś τ)(hK:K τ):vm Φ d f vs us K σ:=by
 unfold QS at h;split at h
 ·rename_i r nw hr
  obtain⟨h1,h2⟩:=hE.p _ _ _ _ hr;split at h
  ·rename_i hc
   cases h;refine⟨r,?_,hK⟩;rcases hc with h|h|h
   ·exact .inl ⟨h1,.inl h⟩
   ·exact .inl ⟨h1,.inr h⟩
   ·exact .inr (h2 h)
  ·cases h
 ·cases h
theorem yY{f vs}(h:vh env d f vs σ=ś τ)(hK:K τ):xY Φ d f vs K σ:=by
 unfold vh at h;split at h
 ·rename_i ps hps
  split at h
  ·rename_i hc
   unfold aai at h;split at h
   ·rename_i r H' hr
    split at h
    ·rename_i hk
     cases h;exact⟨ps,hc,r,H',hk,hE.h _ _ _ _ _ _ hps hr,hK⟩
    ·cases h
   ·cases h
  ·cases h
 ·cases h
theorem nb{f : FuncId}{vs : List V}(h : vh env d f vs σ = some τ)(hK : K τ) : kH Φ d f vs K σ := by
  obtain⟨ps,h1,r,H',h2,h3,h4⟩ := yY hE h hK;exact .inl ⟨ps,h1,r,H',h2,h3,λ_ _ => h4⟩
theorem su{a : Act'}(h : kF env d a σ = some τ)(hK : K τ) : ak Φ d a K σ := by
  cases a with
  |alc z => simp only[kF,Option.some.injEq]at h;subst h;exact hK
  |box x =>
    simp only[kF]at h;simp only[ak];split at h
    ·rename_i v hv
     simp only[hv];split at h
     ·rename_i hc;cases h;simp only[if_pos hc];exact hK
     ·cases h
    ·cases h
  |st n p x =>
    simp only[kF]at h;simp only[ak];split at h
    ·rename_i v u hv hu
     simp only[hv,hu];split at h
     ·rename_i hc
      simp only[if_pos hc];split at h
      ·rename_i σ' hs;simp only[hs];cases h;exact hK
      ·cases h
     ·cases h
    ·cases h
  |s2b x =>
    simp only[kF]at h;simp only[ak];split at h
    ·rename_i s hv
     simp only[hv];split at h
     ·rename_i hc;cases h;exact⟨hc,hK⟩
     ·cases h
    ·cases h
  |lit e0 sz xs =>
    simp only[kF]at h;simp only[ak];split at h
    ·rename_i vs hv
     simp only[hv];split at h
     ·rename_i us hu
      simp only[hu];split at h
      ·rename_i hc;cases h;exact⟨hc.1,hc.2,hK⟩
      ·cases h
     ·cases h
    ·cases h
  |ltr e0 sz xs =>
    simp only[kF]at h;simp only[ak];split at h
    ·rename_i vs hv
     simp only[hv];split at h
     ·rename_i us hu
      simp only[hu];split at h
      ·rename_i hc;cases h;exact⟨hc.1,hc.2,hK⟩
      ·cases h
     ·cases h
    ·cases h
  |app x y e sz by' =>
    simp only[kF]at h;simp only[ak];split at h
    ·rename_i u v hu hv
     simp only[hu,hv];split at h
     ·rename_i sz' l hs
      simp only[hs];split at h
      ·rename_i hc
       refine⟨hc,?_⟩;split at h
       ·split at h
        ·rename_i hb;cases h;exact⟨hb,hK⟩
        ·cases h
       ·split at h
        ·rename_i e' sz2 l0 ha
         simp only[ha];split at h
         ·rename_i hb;cases h;exact⟨hb.1,hb.2.1,hb.2.2.1,hb.2.2.2,hK⟩
         ·cases h
        ·cases h
       ·cases h
      ·cases h
     ·cases h
    ·cases h
  |mk0 e sz by' n =>
    simp only[kF]at h;simp only[ak];split at h
    ·rename_i k m hv
     simp only[hv];split at h
     ·rename_i hc;cases h;exact⟨hc.1,hc.2,hK⟩
     ·cases h
    ·cases h
  |mks e sz by' z n =>
    simp only[kF]at h;simp only[ak];split at h
    ·rename_i k m hv
     simp only[hv];split at h
     ·rename_i hc;cases h;exact⟨hc.1,hc.2,hK⟩
     ·cases h
    ·cases h
  |mkm e by' e2 sz n =>
    simp only[kF]at h;simp only[ak];split at h
    ·rename_i k m hv
     simp only[hv];split at h
     ·rename_i hc;cases h;exact⟨hc.1,hc.2,hK⟩
     ·cases h
    ·cases h
  |call f xs =>
    simp only[kF]at h;simp only[ak];split at h
    ·rename_i vs hv
     simp only[hv];split at h
     ·rename_i us hu;simp only[hu];exact vg hE h hK
     ·rename_i hu;simp only[hu];exact nb hE h hK
    ·cases h
  |callv g xs =>
    simp only[kF]at h;simp only[ak];split at h
    ·rename_i f a b vs hg hv
     simp only[hg,hv];split at h
     ·rename_i us hu;simp only[hu];exact vg hE h hK
     ·rename_i hu;simp only[hu];exact nb hE h hK
    ·cases h
  |callH f xs =>
    simp only[kF]at h;simp only[ak];split at h
    ·rename_i vs hv;simp only[hv];exact nb hE h hK
    ·cases h
  |mkp kt => simp only[kF,Option.some.injEq]at h;subst h;exact hK
  |mup kt x k v =>
    simp only[kF]at h;simp only[ak];split at h
    ·rename_i id n kv u h1 h2 h3
     simp only[h1,h2,h3];split at h
     ·rename_i kt' l u' h4 h5
      simp only[h4,h5];split at h
      ·rename_i hc;cases h;exact⟨hc.1,hc.2.1,hc.2.2.1,hc.2.2.2,hK⟩
      ·cases h
     ·cases h
    ·cases h
  |inv tbl x xs =>
    simp only[kF]at h;simp only[ak];split at h
    ·rename_i t v vs h1 h2
     simp only[h1,h2];split at h
     ·rename_i f hf
      simp only[hf];split at h
      ·rename_i us hu;simp only[hu];exact vg hE h hK
      ·rename_i hu;simp only[hu];exact nb hE h hK
     ·cases h
    ·cases h
  |yld g xs => simp only[kF]at h;cases h
  |ivp tbl x xs => simp only[kF]at h;cases h
  |rgs x => simp only[kF]at h;cases h
  |nxs x => simp only[kF]at h;cases h
  |trc x hi sz =>
    simp only[kF]at h;simp only[ak];split at h
    ·rename_i id n k b h1 h2
     simp only[h1,h2];split at h
     ·rename_i e sz' l h3
      simp only[h3];split at h
      ·rename_i hc;cases h;exact⟨hc.1,hc.2.1,hc.2.2.1,hc.2.2.2,hK⟩
      ·cases h
     ·cases h
    ·cases h
  |_ =>
    simp only[kF]at h;simp only[ak];split at h
    ·rename_i v hv;simp only[hv];cases h;exact hK
    ·cases h
theorem vi{a : Act'}(h : tY env d a σ = some τ)(hK : K τ) : an Φ d a K σ := by
  have key : kF env d a σ = some τ -> ak Φ d a K σ := λh' => su hE h' hK
  cases a with
  |lit e0 sz xs =>
    simp only[tY]at h;simp only[an];split at h
    ·rename_i vs hv
     simp only[hv];split at h
     ·rename_i us hu
      simp only[hu];split at h
      ·rename_i hc;cases h;exact⟨hc.1,hc.2,hK⟩
      ·cases h
     ·cases h
    ·cases h
  |call f xs =>
    simp only[tY]at h;simp only[an];split at h
    ·rename_i vs hv
     simp only[hv];split at h
     ·rename_i us hu;simp only[hu];exact BG hE h hK
     ·cases h
    ·cases h
  |callv g xs =>
    simp only[tY]at h;simp only[an];split at h
    ·rename_i f a b vs hg hv
     simp only[hg,hv];split at h
     ·rename_i us hu;simp only[hu];exact BG hE h hK
     ·cases h
    ·cases h
  |callH f xs =>
    simp only[tY]at h;simp only[an];split at h
    ·rename_i vs hv;simp only[hv];exact yY hE h hK
    ·cases h
  |inv => simp only[tY]at h;cases h
  |ivp => simp only[tY]at h;cases h
  |trc => simp only[tY]at h;cases h
  |ltr => simp only[tY]at h;cases h
  |_ => exact key h
theorem abs{o}(h:xop (kF env) o σ=ś τ)(hK:K τ):wop Φ o K σ:=by
 obtain⟨od,oa,og⟩:=o;cases og with
 |none=>exact su hE h hK
 |some p=>
   obtain⟨t,b⟩:=p;simp only[xop]at h;simp only[wop];split at h
   ·rename_i y hy
    simp only[hy];split at h
    ·rename_i hyb
     subst hyb;cases y
     ·simp only[zAd,if_false];exact⟨λh'=>(by cases h'),λ_=>su hE h hK⟩
     ·simp only[if_true];exact⟨λ_=>su hE h hK,λh'=>(by cases h')⟩
    ·rename_i hyb
     cases h;cases y<;>cases b
     ·simp_all
     ·simp only[if_true];exact⟨λh'=>(by cases h'),λ_=>hK⟩
     ·simp only[zAd,if_false];exact⟨λ_=>hK,λh'=>(by cases h')⟩
     simp_all
   ·simp_all
   ·cases h
theorem Iy{o}(h:xop (tY env) o σ=ś τ)(hK:K τ):a8 Φ o K σ:=by
 obtain⟨od,oa,og⟩:=o;cases og with
 |none=>exact vi hE h hK
 |some p=>
   obtain⟨t,b⟩:=p;simp only[xop]at h;simp only[a8];split at h
   ·rename_i y hy
    simp only[hy];split at h
    ·rename_i hyb
     subst hyb;cases y
     ·simp only[zAd,if_false];exact⟨λh'=>(by cases h'),λ_=>vi hE h hK⟩
     ·simp only[if_true];exact⟨λ_=>vi hE h hK,λh'=>(by cases h')⟩
    ·rename_i hyb
     cases h;cases y<;>cases b
     ·simp_all
     ·simp only[if_true];exact⟨λh'=>(by cases h'),λ_=>hK⟩
     ·simp only[zAd,if_false];exact⟨λ_=>hK,λh'=>(by cases h')⟩
     simp_all
   ·simp_all
   ·cases h
theorem Ix:∀{os:List AOp}{σ:St},QR (kF env) os σ=ś τ->K τ->D7 Φ os K σ
 |[],σ,h,hK=>by simp_all[QR,zAb]
 |o::os,σ,h,hK=>by
   simp only[QR]at h;split at h
   ·rename_i τ' h1;exact abs hE h1 (Ix h hK)
   ·cases h
theorem FI:∀{os:List AOp}{σ:St},QR (tY env) os σ=ś τ->K τ->BJ Φ os K σ
 |[],σ,h,hK=>by simp_all[QR,zAb]
 |o::os,σ,h,hK=>by
   simp only[QR]at h;split at h
   ·rename_i τ' h1;exact Iy hE h1 (FI h hK)
   ·cases h
theorem pR{ks}:∀{t:OT}{σ τ:St},FH env ks t σ=ś τ->K τ->lJ Φ t (λσ'=>K (σ'.nrm ks)) σ
 | .nil,σ,τ,h,hK=>by simp_all[FH,zAb]
 | .op o t,σ,τ,h,hK=>by
   simp only[FH]at h;split at h
   ·rename_i τ' h1;exact Iy hE h1 (pR h hK)
   ·cases h
 | .both a b,σ,τ,h,hK=>by
   simp only[FH]at h;split at h
   ·rename_i τ1 τ2 h1 h2
    split at h
    ·rename_i he
     cases h;have:=af7 he;subst this;exact⟨pR h1 hK,pR h2 hK⟩
    ·cases h
   ·cases h
omit hE in
theorem Ux{f:St->Option (Ex×St)}{ks:List Nat}{c:AC}(hf:∀{σ:St}{e:Ex}{τ:St}{Q:Ex->St->Prop},f σ=ś (e,τ)->Q e τ->W Φ c Q σ){Q:Ex->St->Prop}{n:Nat}{σ:St}{e:Ex}{τ:St}
 (h:Uy f ks n (σ.nrm ks)=ś (e,τ)) (hQ:Q e τ):W Φ (.loop ks c) Q σ:=by
 refine⟨λk υ=>∃e τ,Uy f ks k υ=ś (e,τ)/\Q e τ,⟨n,[],σ,rfl,e,τ,h,hQ⟩,?_⟩;rintro k υ ⟨e',τ',h',hQ'⟩;cases k with
 |zero=>cases h'
 |succ k=>
   simp only[Uy]at h';split at h'
   ·rename_i τ1 h1
    exact hf h1 ⟨k,[],τ1,rfl,⟨e',τ',h',hQ'⟩,zAe _⟩
   ·rename_i e1 τ1 hne h1
    cases h';refine hf h1 ?_;cases e' with
    |norm=>exact(hne rfl).elim
    |_=>exact hQ'
   ·cases h'
omit hE in
theorem Uz{l:Nat}{f:St->Option (Ex×St)}{ks:List Nat}{a c:AC}(hf:∀{σ:St}{e:Ex}{τ:St}{Q:Ex->St->Prop},f σ=ś (e,τ)->Q e τ->W Φ c Q σ){Q:Ex->St->Prop}{σ:St}{J:St}
 (ha:∀{Q':Ex->St->Prop},Q' (.goto l) J->W Φ a Q' σ) {n:Nat} {e:Ex} {τ:St} (h:UA l f ks n (J.nrm ks)=ś (e,τ)) (hQ:Q e τ):W Φ (.scope l ks a c) Q σ:=by
 refine⟨λk υ=>∃e τ,UA l f ks k υ=ś (e,τ)/\Q e τ,ha ⟨rfl,n,[],J,rfl,e,τ,h,hQ⟩,?_⟩;rintro k υ ⟨e',τ',h',hQ'⟩;cases k with
 |zero=>cases h'
 |succ k=>
   simp only[UA]at h';split at h'
   ·rename_i l' τ1 h1
    split at h'
    ·rename_i hl
     exact hf h1 ⟨hl,k,[],τ1,rfl,⟨e',τ',h',hQ'⟩,zAe _⟩
    ·cases h'
   ·rename_i e1 τ1 hne h1
    cases h';refine hf h1 ?_;cases e' with
    |goto l'=>simp_all
    |_=>exact hQ'
   ·cases h'
theorem vf{fuel}:∀{c:AC}{σ:St}{e:Ex}{τ:St}{Q:Ex->St->Prop},eL env fuel c σ=ś (e,τ)->Q e τ->W Φ c Q σ:=by
 intro c
 induction c with
 |skip=>simp_all[Q,eL,zAb,zAc]
 |reg ops ks=>
   intro σ e τ Q h hQ;simp only[eL]at h;split at h
   ·rename_i σ' h1;cases h;exact Ix hE h1 hQ
   ·cases h
 |regD ops ks=>
   intro σ e τ Q h hQ;simp only[eL]at h;split at h
   ·rename_i σ' h1;cases h;exact FI hE h1 hQ
   ·cases h
 |regE=>grind[Q,eL]
 |regF t ks=>
   intro σ e τ Q h hQ;simp only[eL]at h;split at h
   ·rename_i σ' h1;cases h;exact pR hE h1 hQ
   ·cases h
 |scope l ks a b iha ihb=>
   intro σ e τ Q h hQ;simp only[eL]at h;split at h
   ·grind[Uz]
   ·rename_i hne
    refine⟨λ_ _=>False,iha h ?_,λ_ _ h=>h.elim⟩;cases e with
    |goto l'=>simp_all
    |_=>exact hQ
 |label l=>simp_all[Q,eL,zAb,zAc]
 |goto l=>simp_all[Q,eL,zAb,zAc]
 |bad=>grind[Q,eL]
 |seq a b iha ihb=>
   intro σ e τ Q h hQ;simp only[eL]at h;split at h
   ·rename_i τ1 h1;exact iha h1 (ihb h hQ)
   ·rename_i hne
    refine iha h ?_;cases e with
    |norm=>simp_all
    |_=>exact hQ
 |cond c a b iha ihb=>
   intro σ e τ Q h hQ;simp only[eL]at h;rw[al4];split at h
   ·rename_i t ht
    simp only[ht];cases t
    ·exact⟨λh'=>(by cases h'),λ_=>ihb (by simpa using h) hQ⟩
    ·exact⟨λ_=>iha (by simpa using h) hQ,λh'=>(by cases h')⟩
   ·cases h
 |block id c ih=>
   intro σ e τ Q h hQ;simp only[eL]at h;rw[abm];split at h
   ·rename_i id' τ1 h1
    refine ih h1 ?_;rw[CF];grind
   ·rename_i hne
    refine ih h ?_;cases e with
    |exit id'=>simp_all
    |_=>exact hQ
 |loop ks c ih=>grind[Q,eL,Ux]
 |exit id=>simp_all[Q,eL,zAb,zAc]
 |ret=>simp_all[Q,eL,zAb,zAc]
end
structure FD where
 c:AC
 rs:List RV
 n:Nat
 ps:List Nat
structure FTab where
 p:FuncId->Option FD
 h:FuncId->Option FD
 g:FuncId->List V->Option V
def af6:Ex->Bool
 | .exit _=>ğ
 | .goto _=>ğ
 |_=>ť
def xres(rs:List RV):Ex×St->Option (V×Bool)
 |(e,σ)=>if af6 e=ť then(match σ.rvs rs with
   |some vs=>match purs σ.h vs with
     |some us=>ś (nc us,KU σ.h vs)
     |none=>ń
   |none=>ń)else ń
def Re(m:List Nat)(r:List (Nat×V))(us:List V):List Nat->Bool
 |[]=>ť
 |i::is=>(match lk r i,us[i]? with
   |some v,ś u=>eqV (ren m v) u
   |_,_=>ğ)&&Re m r us is
def adC(σ:St)(ps:List Nat)(us:List V)(vs:List V)(m:List Nat):Option (V×List (Option Ob)):=
 if Re m σ.r us ps=ť then ś (nc (fq m vs),kN σ.h m m)else ń
def ajm(rs:List RV)(ps:List Nat)(us:List V):Ex×St->Option (V×List (Option Ob))
 |(e,σ)=>if af6 e=ť then(match σ.rvs rs with
   |some vs=>adC σ ps us vs (ir σ.h (B9 (pk σ.r ps)) vs).2
   |none=>ń)else ń
def yz(T:FTab)(fuel:Nat):Nat->Env
 |0=>⟨λf us=>(T.g f us).map λr=>(r,ğ),λ_=>ń,λ_ _ _=>ń⟩
 |n+1=>
   { p:=λf us=>match T.g f us with
       |some r=>ś (r,ğ)
       |none=>match T.p f with
         |some D=>if us.length=D.n then(match eL (yz T fuel n) fuel D.c ⟨ent 0 us,[]⟩with
           |some x=>xres D.rs x
           |none=>ń)else ń
         |none=>ń
     ps:=λf=>(T.h f).map (·.ps)
     h:=λf us H=>match T.h f with
       |some D=>if us.length=D.n then(match eL (yz T fuel n) fuel D.c ⟨ent 0 us,H⟩with
         |some x=>ajm D.rs D.ps us x
         |none=>ń)else ń
       |none=>ń }
def Img(P:Program)(f:FuncId)(D:FD):Prop:=∃fn K E,P.funcs[f]?=ś fn/\ay P fn D.ps E K D.n=ś (D.c,D.rs)
structure TabOK (P:Program) (T:FTab):Prop where
 p:∀f D,T.p f=ś D->Img P f D/\D.ps=[]
 h:∀f D,T.h f=ś D->Img P f D
 g:∀f us r,T.g f us=ś r->Fn P f us r
theorem F2{m r us}:∀{is:List Nat},Re m r us is=ť->PG m r us is
 |[],_=>trivial
 |i::is,h=>by
   simp only[Re,zAa]at h;refine⟨?_,F2 h.2⟩;grind[mg]
theorem al5{rs:List RV}{post:V->Prop}{e}{σ:St}(he:af6 e=ť)(h:match σ.rvs rs with
 |some vs=>match purs σ.h vs with
   |some us=>post (nc us)
   |none=>False
 |none=>False):Res rs post e σ:=⟨(by cases e<;>first|trivial|cases he),h⟩
theorem ajh{rs:List RV}{r e}{σ:St}(he:af6 e=ť)(h:match σ.rvs rs with
 |some vs=>KU σ.h vs=ť/\(match purs σ.h vs with
   |some us=>nc us=r
   |none=>False)
 |none=>False):Uw rs r e σ:=⟨(by cases e<;>first|trivial|cases he),h⟩
theorem aji{rs:List RV}{ps:List Nat}{us:List V}{r}{H':List (Option Ob)}{e}{σ:St}(he:af6 e=ť)(h:match σ.rvs rs with
 |some vs=>U4 σ ps us r H' vs (ir σ.h (B9 (pk σ.r ps)) vs).2
 |none=>False):Xy rs ps us r H' e σ:=⟨(by cases e<;>first|trivial|cases he),h⟩
theorem FnN.of_imageE{P f fn E us r x K rs n}(hm:P.follows .mixedOrders=ť)(hf:P.funcs[f]?=ś fn)
 (hi:ay P fn [] E K n=ś (x,rs)) (hn:us.length=n) (hW:oks us->W (Cn P) x (Uw rs r) ⟨ent 0 us,[]⟩):FnN P f us r:=by
 unfold ay at hi;split at hi
 ·split at hi
  ·split at hi
   ·rename_i hc
    cases hi;exact FnN.of_W hm hf ‹_› hc.1 (pM ‹_›) ‹_› (by rw[hn];exact hc.2.1) hW
   ·cases hi
  ·cases hi
 ·cases hi
theorem Img.of_image{P f fn K n c rs}(hf:P.funcs[f]?=ś fn)(h:aj P fn K n=ś (c,rs)):Img P f ⟨c,rs,n,[]⟩:=by
 refine⟨fn,K,[],hf,?_⟩;simp_all[ay,aj,if_pos]
theorem Img.of_imageE{P f fn ps E K n c rs}(hf:P.funcs[f]?=ś fn)(h:ay P fn ps E K n=ś (c,rs)):Img P f ⟨c,rs,n,ps⟩:=⟨fn,K,E,hf,h⟩
theorem eR{P T}(hm:P.follows .mixedOrders=ť)(hT:TabOK P T)(fuel)(n):EnvOK (yz T fuel n) (Cn P):=by
 induction n with
 |zero=>
   refine⟨λf us r nw h=>?_,λf us H r H' ps h=>by simp[yz]at h⟩
   simp only[yz,Option.map_eq_some_iff,zAc]at h;obtain⟨r',h1,rfl,rfl⟩:=h;exact⟨hT.g _ _ _ h1,λh=>by cases h⟩
 |succ n ih=>
   refine⟨λf us r nw h=>?_,λf us H r H' ps h h'=>?_⟩
   ·simp only[yz]at h
    split at h
    ·rename_i r' h1
     cases h;exact⟨hT.g _ _ _ h1,λh=>by cases h⟩
    ·split at h
     ·rename_i D hD
      obtain⟨⟨fn,K,E,hf,hi⟩,hps⟩:=hT.p _ _ hD;rw[hps]at hi;split at h
      ·rename_i hl
       split at h
       ·rename_i x hx
        obtain⟨e,σ⟩:=x;simp only[xres]at h;split at h
        ·rename_i he
         split at h
         ·rename_i vs hvs
          split at h
          ·rename_i ws hws
           cases h;exact⟨Fn.of_imageE hm hf hi hl λ_=>vf ih hx (al5 he (by simp only[hvs,hws])),λhfr=>FnN.of_imageE hm hf hi hl λ_=>vf ih hx (ajh he (by simp_all))⟩
          ·cases h
         ·cases h
        ·cases h
       ·cases h
      ·cases h
     ·cases h
   ·simp only[yz]at h h'
    split at h'
    ·rename_i D hD
     simp only[hD,Option.map_some,zAb]at h;subst h;obtain⟨fn,K,E,hf,hi⟩:=hT.h _ _ hD;split at h'
     ·rename_i hl
      split at h'
      ·rename_i x hx
       obtain⟨e,σ⟩:=x;simp only[ajm]at h';split at h'
       ·rename_i he
        split at h'
        ·rename_i vs hvs
         unfold adC at h';split at h'
         ·rename_i hp
          cases h';exact FnH.of_image hm hf hi hl λ_ _=>vf ih hx (aji he (by simp_all[F2]))
         ·cases h'
        ·cases h'
       ·cases h'
      ·cases h'
     ·cases h'
    ·cases h'
end Go.Abs
end
section
namespace Go.Abs
open Go.RowKit
theorem Heap.boxed{P:Program}{J κ κ0 M w w' ca H'}(h:Heap κ M (dR κ0 [] w [] ca J) w' H')(hu:Und (dR κ0 [] w [] ca J) w w'){cs cs' id c}
 (hb:H'[id]?=ś (ś (.box cs))) (hp:purs H' cs=ś cs') (hr:rep M (XX κ H') (.ptr id 0) c):
 ∃M',(∀p v,M p=ś v->M' p=ś v)/\(∀p v,M' p=ś v->w'.cell? p=ś v)/\(∀p v,M' p=ś v->M p=ś v\/w.heap.size<=p.block)/\rep M' NX (.sptr (.strct cs') 0) c:=by
 have H:Rel 0 M (dR κ0 [] w [] ca J) w κ M ⟨[],H'⟩ { tmps:=#[],defers:=[] } w':=
  { dfr:=rfl,jst:=h.jst,pin:=λi hi=>(by cases hi),size:=rfl,regs:=λt v ht=>(by simp[lk]at ht),heap:=h.heap,inj:=h.inj,snd:=h.snd,sep:=h.sep
    sub:=⟨λ_ _ h=>h,h.fmS,λ_ _ _=>zAg _,zAg _,h.gl⟩,new:=λ_ _ h=>.inl h,base:=rfl,blw:=hu }
 obtain⟨ids,yO⟩:∃ids,ids=id::ax cs:=⟨_,rfl⟩
 obtain⟨H2,hM⟩:=H.kill ids (λi hi=>by
  rw[yO]at hi;rcases List.mem_cons.1 hi with rfl|hi
  ·exact⟨_,hb⟩
  ·exact eT hp i hi)
 have hob:=h.heap id _ hb;simp only[bn]at hob;obtain⟨b,arr,T,h1,h2,h3,h4,h5,h6⟩:=hob;simp only[rep,XX]at hr;obtain⟨b',e1,e2⟩:=hr.2.2 _ hb;rw[h1]at e1;cases e1;refine⟨ext M w' (rm κ ids),hM,H2.snd,λp v hv=>?_,?_⟩
 ·rcases H2.new p v hv with h|h|⟨i,ob,g1,_⟩
  ·exact .inl h
  ·exact .inr h
  ·simp at g1
 ·have k3:af (ext M w' (rm κ ids)) NX cs' arr.toList:=by
   refine cz H hM (λi hi g hg p hpb=>?_) h4 hp;unfold ext;rw[if_pos (eC.2 ⟨i,by simp_all,by rw[hpb];exact hg⟩)]
  simp only[rep];refine⟨b,0,.agg arr,by simpa using e2,⟨arr,rfl,k3,h5⟩,h5,λj hj=>?_⟩
  have hk:rm κ ids b:=eC.2 ⟨id,by rw[yO];simp,(h6 b).2 rfl⟩
  simp_all[ext,if_pos,World.cell?,Value.cells]
theorem FnH.start{M w}(h:Snd M w)(ca:Array Value):Heap ⟨λ_=>undef,λ_ _=>undef,λ_ _=>False,λ_=>ń⟩ M (dR ⟨λ_=>undef,λ_ _=>undef,λ_ _=>False,λ_=>ń⟩ [] w [] ca noJ) w []:=
 { heap:=λid ob h=>by simp at h,inj:=λi j oi oj g h=>by simp at h,snd:=h.snd,sep:=λp v _ id ob h=>by simp at h,fmS:=λ_ _ h=>(by cases h),gl:=h.gl,jst:=Jm rfl }
theorem FnH.boxed1{P f us H' cs cs'}(h:FnH P f [] us [] (.ptr 0 0) H')(hb:H'[0]?=ś (ś (.box cs)))(hp:purs H' cs=ś cs'):Fn P f us (.sptr (.strct cs') 0):=by
 intro M w ca hM hus o a Nx Q hN;refine h M w _ ca noJ (rI rfl) (FnH.start hM ca) (bv (λ_ _ h=>h) (λ_ _ h=>h.elim) _ _ hus) o a Nx Q ?_;intro c M' w' κ' hr hu hh hM1 hM2 _;obtain⟨M2,k1,k2,k3,k4⟩:=hh.boxed (P:=P) hu hb hp hr;refine hN c M2 w' k4 ⟨hu.os,hu.tape,hu.output,hu.size,λk hk=>hu.block k hk (λ⟨i,ob,g1,_⟩=>by simp at g1)⟩ k2 (λp v h=>k1 p v (hM1 p v h)) (λp v h=>?_)
 rcases k3 p v h with h|h
 ·rcases hM2 p v h with h|h|⟨i,ob,g1,_⟩
  ·exact .inl h
  ·exact .inr h
  ·simp at g1
 ·exact .inr h
theorem FnH.boxed2{P f us H' cs cs' x}(h:FnH P f [] us [] (.tup [.ptr 0 0,x]) H')(hx:dA x=ť)(hb:H'[0]?=ś (ś (.box cs)))(hp:purs H' cs=ś cs'):Fn P f us (.tup [.sptr (.strct cs') 0,x]):=by
 intro M w ca hM hus o a Nx Q hN;refine h M w _ ca noJ (rI rfl) (FnH.start hM ca) (bv (λ_ _ h=>h) (λ_ _ h=>h.elim) _ _ hus) o a Nx Q ?_;intro c M' w' κ' hr hu hh hM1 hM2 _;simp only[rep,af]at hr;obtain⟨arr,rfl,c1,cs1,e1,hr1,c2,cs2,e2,hr2,e3⟩:=hr;obtain⟨M2,k1,k2,k3,k4⟩:=hh.boxed (P:=P) hu hb hp (c:=c1) (by grind[rep])
 refine hN _ M2 w' ?_ ⟨hu.os,hu.tape,hu.output,hu.size,λk hk=>hu.block k hk (λ⟨i,ob,g1,_⟩=>by simp at g1)⟩ k2 (λp v h=>k1 p v (hM1 p v h)) (λp v h=>?_)
 ·simp only[rep,af]at k4⊢
  exact⟨arr,rfl,c1,_,e1,k4,c2,_,e2,rE hx hr2,e3⟩
 ·rcases k3 p v h with h|h
  ·rcases hM2 p v h with h|h|⟨i,ob,g1,_⟩
   ·exact .inl h
   ·exact .inr h
   ·simp at g1
  ·exact .inr h
section
variable{P:Program}{N:Nat}{M0:Mem}{B:Bas}{w0:World}{κ:Kap}{M:Mem}{σ:St}{a:Act}{w w':World}
end
section
variable{P:Program}{N:Nat}{M0:Mem}{B:Bas}{w0:World}{κ:Kap}{M:Mem}{σ:St}{a:Act}{w w':World}
end
section
variable{F:Fence}{n:Nat}{P:Program}
end
section
variable{P:Program}{N:Nat}{M0:Mem}{B:Bas}{w0:World}{κ:Kap}{M:Mem}{σ:St}{a:Act}{w w':World}
end
end Go.Abs
end
