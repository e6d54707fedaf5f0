/-
  Expressions as trees, plainly: what they match, and how their nets come tyo be, part by part. No condition.
  The net of an expression, plainly: how it is made, and what it accepts. No condition.
  Expressions that are made of others: what the small functions of package regex answer. No condition.
  An expression's net: what package regex's maker makes. No condition.
  An expression's net: what is made of parts behind one another, of branches, of repeated parts; the whole net. No condition.
  An expression's whole net. No condition.
  What package regex parses the few texts as that policies of the statements bear. No condition.
  What package lang makes of constraints: expressions. No condition.
-/
import Derived.Test.YtnnbodoijkbceaaGreatDoorLTh3
import Derived.Test.YtnnbodoijkbceaaGreatDoorLTh4
import Derived.Test.YtnnbodoijkbceaaGreatDoorLCodeA
import Derived.Test.YtnnbodoijkbceaaGreatDoorLF1
set_option linter.all false
set_option maxHeartbeats 0
set_option maxRecDepth 100000
section
namespace Go.Aut
inductive Rx where
 | set (bs:List Bool)
 | seq (l:List Rx)
 | alt (l:List Rx)
 | rep (p:Rx) (op:Nat)
abbrev Lg:=List Nat→Prop
structure Job where
 p:Rx
 fr:Nat
 tyo:Nat
def fre (a b:Nat):NEdge:=⟨a,b,1,0⟩
variable {cls:List Nat→List Nat→Prop} {n:Nat} {E:List NEdge} {W0:List Job} {fr tyo:Nat}
variable {cls:List Nat→List Nat→Prop}
end Go.Aut
end
section
namespace Go.Abs
open Go.Proofs Go.Aut
attribute [-simp] getElem?_pos Option.not_isSome List.map_map
attribute [-simp] cl nt
@[simp] theorem cl_int {k:IntKind} {n:Int}:cl (V.int k n)=[V.int k n]:=rfl
@[simp] theorem nt_int {k:IntKind} {n:Int}:nt (V.int k n)=true:=rfl
@[simp] theorem cl_bool {b:Bool}:cl (V.bool b)=[V.bool b]:=rfl
@[simp] theorem nt_bool {b:Bool}:nt (V.bool b)=true:=rfl
@[simp] theorem cl_str {s:List UInt8}:cl (V.str s)=[V.str s]:=rfl
@[simp] theorem nt_str {s:List UInt8}:nt (V.str s)=true:=rfl
@[simp] theorem cl_nil {z:Nat}:cl (V.nil z)=[V.nil z]:=rfl
@[simp] theorem nt_nil {z:Nat}:nt (V.nil z)=true:=rfl
@[simp] theorem cl_seq {z:Nat} {l:List V}:cl (V.seq z l)=[V.seq z l]:=rfl
@[simp] theorem nt_seq {z:Nat} {l:List V}:nt (V.seq z l)=true:=rfl
@[simp] theorem cl_ref {i n:Nat}:cl (V.ref i n)=[V.ref i n]:=rfl
@[simp] theorem nt_ref {i n:Nat}:nt (V.ref i n)=true:=rfl
@[simp] theorem cl_ptr {i o:Nat}:cl (V.ptr i o)=[V.ptr i o]:=rfl
@[simp] theorem nt_ptr {i o:Nat}:nt (V.ptr i o)=true:=rfl
@[simp] theorem cl_eptr {i n j o:Nat}:cl (V.eptr i n j o)=[V.eptr i n j o]:=rfl
@[simp] theorem nt_eptr {i n j o:Nat}:nt (V.eptr i n j o)=true:=rfl
@[simp] theorem cl_mref {i j n:Nat}:cl (V.mref i j n)=[V.mref i j n]:=rfl
@[simp] theorem nt_mref {i j n:Nat}:nt (V.mref i j n)=true:=rfl
@[simp] theorem cl_fseq {z:Nat} {l:List V}:cl (V.fseq z l)=[V.fseq z l]:=rfl
@[simp] theorem nt_fseq {z:Nat} {l:List V}:nt (V.fseq z l)=true:=rfl
@[simp] theorem cl_mptr {i n j k o:Nat}:cl (V.mptr i n j k o)=[V.mptr i n j k o]:=rfl
@[simp] theorem nt_mptr {i n j k o:Nat}:nt (V.mptr i n j k o)=true:=rfl
@[simp] theorem cl_sptr {x:V} {o:Nat}:cl (V.sptr x o)=[V.sptr x o]:=rfl
@[simp] theorem nt_sptr {x:V} {o:Nat}:nt (V.sptr x o)=true:=rfl
@[simp] theorem cl_nilptr :cl (V.nilptr)=[V.nilptr]:=rfl
@[simp] theorem nt_nilptr :nt (V.nilptr)=true:=rfl
@[simp] theorem cl_fn {f:Go.Fn} {a b:List V}:cl (V.fn f a b)=[V.fn f a b]:=rfl
@[simp] theorem nt_fn {f:Go.Fn} {a b:List V}:nt (V.fn f a b)=true:=rfl
@[simp] theorem cl_nilfn :cl (V.nilfn)=[V.nilfn]:=rfl
@[simp] theorem nt_nilfn :nt (V.nilfn)=true:=rfl
@[simp] theorem cl_iface {t:TypeId} {x:V}:cl (V.iface t x)=[V.iface t x]:=rfl
@[simp] theorem nt_iface {t:TypeId} {x:V}:nt (V.iface t x)=true:=rfl
@[simp] theorem N1 :cl (V.niliface)=[V.niliface]:=rfl
@[simp] theorem NZ :nt (V.niliface)=true:=rfl
@[simp] theorem cl_tup {l:List V}:cl (V.tup l)=[V.tup l]:=rfl
@[simp] theorem nt_tup {l:List V}:nt (V.tup l)=false:=rfl
@[simp] theorem cl_junk :cl (V.junk)=[V.junk]:=rfl
@[simp] theorem nt_junk :nt (V.junk)=true:=rfl
@[simp] theorem cl_strct {l:List V}:cl (.strct l)=l:=rfl
@[simp] theorem nt_strct {l:List V}:nt (.strct l)=true:=rfl
mutual
def rxV:Rx→V
 | .set bs=>.iface pb (.strct (bs.map .bool))
 | .seq l=>.iface pc (.strct [.seq 1 (PH l)])
 | .alt l=>.iface pe (.strct [.seq 1 (PH l)])
 | .rep p op=>.iface pd (.strct [(rxV p),.int .u8 op])
def PH:List Rx→List V
 | []=>[]
 | p::l=>(rxV p)::PH l
end
def rxP (x:Rx):V:=.sptr (.strct [rxV x]) 0
theorem IP (x:Rx):∃ t y,rxV x=V.iface t y:=by cases x<;>(simp only [rxV]; exact ⟨_,_,rfl⟩)
@[simp high] theorem cl_rx (x:Rx):cl (rxV x)=[rxV x]:=by obtain ⟨t,y,h⟩:=(IP x); rw [h]; rfl
@[simp high] theorem cl_rxp (x:Rx):cl (rxP x)=[(rxP x)]:=rfl
@[simp] theorem nt_rx (x:Rx):nt (rxV x)=true:=by obtain ⟨t,y,h⟩:=(IP x); rw [h]; rfl
@[simp] theorem nt_rxp (x:Rx):nt (rxP x)=true:=rfl
mutual
theorem IM:∀ (x:Rx) (h:List (Option Ob)),pur h (rxV x)=some (rxV x)
 | .set bs,h=>by
   have:∀ l:List Bool,purs h (l.map .bool)=some (l.map .bool):=fun l=>by induction l<;>simp [purs,pur, *]
   simp only [rxV,pur,this,Option.map_some]
 | .seq l,h=>by simp [rxV,pur,purs]
 | .alt l,h=>by simp [rxV,pur,purs]
 | .rep p op,h=>by simp [rxV,pur,purs,IM p h]
end
mutual
theorem Fj:∀ (x:Rx),aw (rxV x)=[]
 | .set bs=>by
   have:∀ l:List Bool,aj (l.map .bool)=[]:=fun l=>by induction l<;>simp [aj,aw, *]
   simp only [rxV,aw,this]
 | .seq l=>by simp [rxV,aw,aj]
 | .alt l=>by simp [rxV,aw,aj]
 | .rep p op=>by simp [rxV,aw,aj,Fj p]
end
mutual
theorem IL:∀ (x:Rx) (m:List Nat),ren m (rxV x)=(rxV x)
 | .set bs,m=>by
   have:∀ l:List Bool,di m (l.map .bool)=l.map .bool:=fun l=>by induction l<;>simp [di,ren, *]
   simp only [rxV,ren,this]
 | .seq l,m=>by simp [rxV,ren,di]
 | .alt l,m=>by simp [rxV,ren,di]
 | .rep p op,m=>by simp [rxV,ren,di,IL p m]
end
mutual
theorem IN:∀ (x:Rx) (m:List Nat),bck m (rxV x)=(rxV x)
 | .set bs,m=>by
   have:∀ l:List Bool,jd m (l.map .bool)=l.map .bool:=fun l=>by induction l<;>simp [jd,bck, *]
   simp only [rxV,bck,this]
 | .seq l,m=>by simp [rxV,bck,jd]
 | .alt l,m=>by simp [rxV,bck,jd]
 | .rep p op,m=>by simp [rxV,bck,jd,IN p m]
end
attribute [simp] IM Fj IL IN
@[simp] theorem rxp_pur (x:Rx) (h:List (Option Ob)):pur h (rxP x)=some (rxP x):=rfl
@[simp] theorem rxp_vids (x:Rx):aw (rxP x)=[]:=rfl
@[simp] theorem rxp_ren (x:Rx) (m:List Nat):ren m (rxP x)=(rxP x):=rfl
@[simp] theorem rxp_bck (x:Rx) (m:List Nat):bck m (rxP x)=(rxP x):=rfl
end Go.Abs
end
section
namespace Go.Abs
open Go.Proofs Go.Aut
attribute [-simp] getElem?_pos Option.not_isSome List.map_map cl nt
@[simp] def jobV (j:Job):V:=.strct [rxV j.p,nV j.fr,nV j.tyo]
end Go.Abs
end
section
namespace Go.Abs
open Go.Proofs Go.Aut
attribute [-simp] getElem?_pos Option.not_isSome List.map_map cl nt
end Go.Abs

end
section
namespace Go.Abs
open Go.Proofs Go.Aut
attribute [-simp] getElem?_pos Option.not_isSome List.map_map cl nt
end Go.Abs

end
section
namespace Go.Abs
open Go.Proofs Go.Aut
attribute [-simp] getElem?_pos Option.not_isSome List.map_map cl nt
end Go.Abs

end
section
namespace Go.Abs
open Go.Proofs Go.Aut
attribute [-simp] getElem?_pos Option.not_isSome List.map_map cl nt
end Go.Abs

end
