/-
  Short words for the abstract machine's code. No condition.
-/
import Derived.Test.YtpblinccnkidfaaDoorAbs13
set_option linter.unusedVariables false
namespace Go.Abs
theorem Cn_p {P : Program} : (Cn P).p = Fn P := rfl
theorem Cn_n {P : Program} : (Cn P).n = FnN P := rfl
theorem Cn_e {P : Program} : (Cn P).e = FnH P := rfl
def o1 (d : Nat) (a : Act') : AOp := ⟨some d, a, none⟩
def o0 (a : Act') : AOp := ⟨none, a, none⟩
def gt (t : Nat) (o : AOp) : AOp := ⟨o.d, o.a, some (t, true)⟩
def gf (t : Nat) (o : AOp) : AOp := ⟨o.d, o.a, some (t, false)⟩
def ts : List Nat → List AO
  | [] => []
  | t :: l => .t t :: ts l
def m (d x : Nat) : AOp := ⟨some d, .mov (.t x), none⟩
def mv (d : Nat) (v : V) : AOp := ⟨some d, .mov (.v v), none⟩
def mi (d : Nat) (n : Int) : AOp := ⟨some d, .mov (.v (.int .i64 n)), none⟩
def mb (d : Nat) (b : Bool) : AOp := ⟨some d, .mov (.v (.bool b)), none⟩
def bt (d : Nat) (op : BinOp) (x y : Nat) : AOp := ⟨some d, .bin op (.t x) (.t y), none⟩
def bi (d : Nat) (op : BinOp) (x : Nat) (n : Int) : AOp := ⟨some d, .bin op (.t x) (.v (.int .i64 n)), none⟩
def bu (d : Nat) (op : BinOp) (x : Nat) (n : Int) : AOp := ⟨some d, .bin op (.t x) (.v (.int .u8 n)), none⟩
def bs (d : Nat) (op : BinOp) (x : Nat) (s : List UInt8) : AOp := ⟨some d, .bin op (.t x) (.v (.str s)), none⟩
def nt' (d x : Nat) : AOp := ⟨some d, .un .not (.t x), none⟩
def ls (d x : Nat) : AOp := ⟨some d, .lens (.t x), none⟩
def lq (d x : Nat) : AOp := ⟨some d, .lenq (.t x), none⟩
def fa (d x o : Nat) : AOp := ⟨some d, .fa (.t x) o, none⟩
def fl (d x o : Nat) : AOp := ⟨some d, .fld (.t x) o 1 false, none⟩
def l1 (d x : Nat) : AOp := ⟨some d, .ld (.t x) 1 false, none⟩
def la (d x n : Nat) : AOp := ⟨some d, .ld (.t x) n true, none⟩
def ia (d x i s : Nat) : AOp := ⟨some d, .ia (.t x) (.t i) s, none⟩
def ix (d x i : Nat) : AOp := ⟨some d, .ixs (.t x) (.t i), none⟩
def pa (d x y : Nat) : AOp := ⟨some d, .pick (.t x) (.t y) (.v (.bool false)), none⟩
def po (d x y : Nat) : AOp := ⟨some d, .pick (.t x) (.v (.bool true)) (.t y), none⟩
def ex (d x i : Nat) : AOp := ⟨some d, .ext (.t x) i, none⟩
def bx (d x : Nat) : AOp := ⟨some d, .box (.t x), none⟩
def st (n x y : Nat) : AOp := ⟨none, .st n (.t x) (.t y), none⟩
def ca (d f : Nat) (l : List Nat) : AOp := ⟨some d, .call f (ts l), none⟩
def ch (d f : Nat) (l : List Nat) : AOp := ⟨some d, .callH f (ts l), none⟩
def cv (d g : Nat) (l : List Nat) : AOp := ⟨some d, .callv (.t g) (ts l), none⟩
def Q : List AC → AC
  | [] => .skip
  | [a] => a
  | a :: l => .seq a (Q l)
/-- Operations one behind the other, ahead of an order. -/
def OQ : List AOp → OT → OT
  | [], t => t
  | x :: xs, t => .op x (OQ xs t)
def C (c : Nat) (a b : AC) : AC := .cond (.t c) a b
theorem OQ0 {t : OT} : OQ [] t = t := rfl
theorem OQ1 {x : AOp} {xs : List AOp} {t : OT} : OQ (x :: xs) t = .op x (OQ xs t) := rfl
attribute [simp] OQ0 OQ1
theorem Q1 {a : AC} : Q [a] = a := rfl
theorem Q2 {a b : AC} {l : List AC} : Q (a :: b :: l) = .seq a (Q (b :: l)) := rfl
section
variable {Φ : Ctr} {K : St → Prop} {σ : St} {Q' : Ex → St → Prop}
theorem wop_o1 {d : Nat} {a : Act'} : wop Φ (o1 d a) K σ = wact Φ (some d) (a) K σ := propext Iff.rfl
theorem wopD_o1 {d : Nat} {a : Act'} : wopD Φ (o1 d a) K σ = wactD Φ (some d) (a) K σ := propext Iff.rfl
theorem wop_o0 {a : Act'} : wop Φ (o0 a) K σ = wact Φ (none) (a) K σ := propext Iff.rfl
theorem wopD_o0 {a : Act'} : wopD Φ (o0 a) K σ = wactD Φ (none) (a) K σ := propext Iff.rfl
theorem wop_m {d x : Nat} : wop Φ (m d x) K σ = wact Φ (some d) (.mov (.t x)) K σ := propext Iff.rfl
theorem wopD_m {d x : Nat} : wopD Φ (m d x) K σ = wactD Φ (some d) (.mov (.t x)) K σ := propext Iff.rfl
theorem wop_mv {d : Nat} {v : V} : wop Φ (mv d v) K σ = wact Φ (some d) (.mov (.v v)) K σ := propext Iff.rfl
theorem wopD_mv {d : Nat} {v : V} : wopD Φ (mv d v) K σ = wactD Φ (some d) (.mov (.v v)) K σ := propext Iff.rfl
theorem wop_mi {d : Nat} {n : Int} : wop Φ (mi d n) K σ = wact Φ (some d) (.mov (.v (.int .i64 n))) K σ := propext Iff.rfl
theorem wopD_mi {d : Nat} {n : Int} : wopD Φ (mi d n) K σ = wactD Φ (some d) (.mov (.v (.int .i64 n))) K σ := propext Iff.rfl
theorem wop_mb {d : Nat} {b : Bool} : wop Φ (mb d b) K σ = wact Φ (some d) (.mov (.v (.bool b))) K σ := propext Iff.rfl
theorem wopD_mb {d : Nat} {b : Bool} : wopD Φ (mb d b) K σ = wactD Φ (some d) (.mov (.v (.bool b))) K σ := propext Iff.rfl
theorem wop_bt {d : Nat} {op : BinOp} {x y : Nat} : wop Φ (bt d op x y) K σ = wact Φ (some d) (.bin op (.t x) (.t y)) K σ := propext Iff.rfl
theorem wopD_bt {d : Nat} {op : BinOp} {x y : Nat} : wopD Φ (bt d op x y) K σ = wactD Φ (some d) (.bin op (.t x) (.t y)) K σ := propext Iff.rfl
theorem wop_bi {d : Nat} {op : BinOp} {x : Nat} {n : Int} : wop Φ (bi d op x n) K σ = wact Φ (some d) (.bin op (.t x) (.v (.int .i64 n))) K σ := propext Iff.rfl
theorem wopD_bi {d : Nat} {op : BinOp} {x : Nat} {n : Int} : wopD Φ (bi d op x n) K σ = wactD Φ (some d) (.bin op (.t x) (.v (.int .i64 n))) K σ := propext Iff.rfl
theorem wop_bu {d : Nat} {op : BinOp} {x : Nat} {n : Int} : wop Φ (bu d op x n) K σ = wact Φ (some d) (.bin op (.t x) (.v (.int .u8 n))) K σ := propext Iff.rfl
theorem wopD_bu {d : Nat} {op : BinOp} {x : Nat} {n : Int} : wopD Φ (bu d op x n) K σ = wactD Φ (some d) (.bin op (.t x) (.v (.int .u8 n))) K σ := propext Iff.rfl
theorem wop_bs {d : Nat} {op : BinOp} {x : Nat} {s : List UInt8} : wop Φ (bs d op x s) K σ = wact Φ (some d) (.bin op (.t x) (.v (.str s))) K σ := propext Iff.rfl
theorem wopD_bs {d : Nat} {op : BinOp} {x : Nat} {s : List UInt8} : wopD Φ (bs d op x s) K σ = wactD Φ (some d) (.bin op (.t x) (.v (.str s))) K σ := propext Iff.rfl
theorem wop_ntp {d x : Nat} : wop Φ (nt' d x) K σ = wact Φ (some d) (.un .not (.t x)) K σ := propext Iff.rfl
theorem wopD_ntp {d x : Nat} : wopD Φ (nt' d x) K σ = wactD Φ (some d) (.un .not (.t x)) K σ := propext Iff.rfl
theorem wop_ls {d x : Nat} : wop Φ (ls d x) K σ = wact Φ (some d) (.lens (.t x)) K σ := propext Iff.rfl
theorem wopD_ls {d x : Nat} : wopD Φ (ls d x) K σ = wactD Φ (some d) (.lens (.t x)) K σ := propext Iff.rfl
theorem wop_lq {d x : Nat} : wop Φ (lq d x) K σ = wact Φ (some d) (.lenq (.t x)) K σ := propext Iff.rfl
theorem wopD_lq {d x : Nat} : wopD Φ (lq d x) K σ = wactD Φ (some d) (.lenq (.t x)) K σ := propext Iff.rfl
theorem wop_fa {d x o : Nat} : wop Φ (fa d x o) K σ = wact Φ (some d) (.fa (.t x) o) K σ := propext Iff.rfl
theorem wopD_fa {d x o : Nat} : wopD Φ (fa d x o) K σ = wactD Φ (some d) (.fa (.t x) o) K σ := propext Iff.rfl
theorem wop_fl {d x o : Nat} : wop Φ (fl d x o) K σ = wact Φ (some d) (.fld (.t x) o 1 false) K σ := propext Iff.rfl
theorem wopD_fl {d x o : Nat} : wopD Φ (fl d x o) K σ = wactD Φ (some d) (.fld (.t x) o 1 false) K σ := propext Iff.rfl
theorem wop_l1 {d x : Nat} : wop Φ (l1 d x) K σ = wact Φ (some d) (.ld (.t x) 1 false) K σ := propext Iff.rfl
theorem wopD_l1 {d x : Nat} : wopD Φ (l1 d x) K σ = wactD Φ (some d) (.ld (.t x) 1 false) K σ := propext Iff.rfl
theorem wop_la {d x n : Nat} : wop Φ (la d x n) K σ = wact Φ (some d) (.ld (.t x) n true) K σ := propext Iff.rfl
theorem wopD_la {d x n : Nat} : wopD Φ (la d x n) K σ = wactD Φ (some d) (.ld (.t x) n true) K σ := propext Iff.rfl
theorem wop_ia {d x i s : Nat} : wop Φ (ia d x i s) K σ = wact Φ (some d) (.ia (.t x) (.t i) s) K σ := propext Iff.rfl
theorem wopD_ia {d x i s : Nat} : wopD Φ (ia d x i s) K σ = wactD Φ (some d) (.ia (.t x) (.t i) s) K σ := propext Iff.rfl
theorem wop_ix {d x i : Nat} : wop Φ (ix d x i) K σ = wact Φ (some d) (.ixs (.t x) (.t i)) K σ := propext Iff.rfl
theorem wopD_ix {d x i : Nat} : wopD Φ (ix d x i) K σ = wactD Φ (some d) (.ixs (.t x) (.t i)) K σ := propext Iff.rfl
theorem wop_pa {d x y : Nat} : wop Φ (pa d x y) K σ = wact Φ (some d) (.pick (.t x) (.t y) (.v (.bool false))) K σ := propext Iff.rfl
theorem wopD_pa {d x y : Nat} : wopD Φ (pa d x y) K σ = wactD Φ (some d) (.pick (.t x) (.t y) (.v (.bool false))) K σ := propext Iff.rfl
theorem wop_po {d x y : Nat} : wop Φ (po d x y) K σ = wact Φ (some d) (.pick (.t x) (.v (.bool true)) (.t y)) K σ := propext Iff.rfl
theorem wopD_po {d x y : Nat} : wopD Φ (po d x y) K σ = wactD Φ (some d) (.pick (.t x) (.v (.bool true)) (.t y)) K σ := propext Iff.rfl
theorem wop_ex {d x i : Nat} : wop Φ (ex d x i) K σ = wact Φ (some d) (.ext (.t x) i) K σ := propext Iff.rfl
theorem wopD_ex {d x i : Nat} : wopD Φ (ex d x i) K σ = wactD Φ (some d) (.ext (.t x) i) K σ := propext Iff.rfl
theorem wop_bx {d x : Nat} : wop Φ (bx d x) K σ = wact Φ (some d) (.box (.t x)) K σ := propext Iff.rfl
theorem wopD_bx {d x : Nat} : wopD Φ (bx d x) K σ = wactD Φ (some d) (.box (.t x)) K σ := propext Iff.rfl
theorem wop_st {n x y : Nat} : wop Φ (st n x y) K σ = wact Φ (none) (.st n (.t x) (.t y)) K σ := propext Iff.rfl
theorem wopD_st {n x y : Nat} : wopD Φ (st n x y) K σ = wactD Φ (none) (.st n (.t x) (.t y)) K σ := propext Iff.rfl
theorem wop_ca {d f : Nat} {l : List Nat} : wop Φ (ca d f l) K σ = wact Φ (some d) (.call f (ts l)) K σ := propext Iff.rfl
theorem wopD_ca {d f : Nat} {l : List Nat} : wopD Φ (ca d f l) K σ = wactD Φ (some d) (.call f (ts l)) K σ := propext Iff.rfl
theorem wop_ch {d f : Nat} {l : List Nat} : wop Φ (ch d f l) K σ = wact Φ (some d) (.callH f (ts l)) K σ := propext Iff.rfl
theorem wopD_ch {d f : Nat} {l : List Nat} : wopD Φ (ch d f l) K σ = wactD Φ (some d) (.callH f (ts l)) K σ := propext Iff.rfl
theorem wop_cv {d g : Nat} {l : List Nat} : wop Φ (cv d g l) K σ = wact Φ (some d) (.callv (.t g) (ts l)) K σ := propext Iff.rfl
theorem wopD_cv {d g : Nat} {l : List Nat} : wopD Φ (cv d g l) K σ = wactD Φ (some d) (.callv (.t g) (ts l)) K σ := propext Iff.rfl
def skO (o : AOp) (K : St → Prop) (σ : St) : Prop := K (σ.put o.d (.tup []))
theorem skO_app {o : AOp} : skO o K σ = K (σ.put o.d (.tup [])) := propext Iff.rfl
def un (o : AOp) : AOp := ⟨o.d, o.a, none⟩
theorem wop_gt {t : Nat} {o : AOp} : wop Φ (gt t o) K σ = gM (lk σ.r t) true (wop Φ (un o) K) (skO o K) σ := by
  simp only [gt, wop_g]; rfl
theorem wop_gf {t : Nat} {o : AOp} : wop Φ (gf t o) K σ = gM (lk σ.r t) false (wop Φ (un o) K) (skO o K) σ := by
  simp only [gf, wop_g]; rfl
theorem wopD_gt {t : Nat} {o : AOp} : wopD Φ (gt t o) K σ = gM (lk σ.r t) true (wopD Φ (un o) K) (skO o K) σ := by
  simp only [gt, wopD_g]; rfl
theorem wopD_gf {t : Nat} {o : AOp} : wopD Φ (gf t o) K σ = gM (lk σ.r t) false (wopD Φ (un o) K) (skO o K) σ := by
  simp only [gf, wopD_g]; rfl
theorem wopu_o1 {d : Nat} {a : Act'} : wop Φ (un (o1 d a)) K σ = wact Φ (some d) (a) K σ := propext Iff.rfl
theorem wopuD_o1 {d : Nat} {a : Act'} : wopD Φ (un (o1 d a)) K σ = wactD Φ (some d) (a) K σ := propext Iff.rfl
theorem wopu_o0 {a : Act'} : wop Φ (un (o0 a)) K σ = wact Φ (none) (a) K σ := propext Iff.rfl
theorem wopuD_o0 {a : Act'} : wopD Φ (un (o0 a)) K σ = wactD Φ (none) (a) K σ := propext Iff.rfl
theorem wopu_m {d x : Nat} : wop Φ (un (m d x)) K σ = wact Φ (some d) (.mov (.t x)) K σ := propext Iff.rfl
theorem wopuD_m {d x : Nat} : wopD Φ (un (m d x)) K σ = wactD Φ (some d) (.mov (.t x)) K σ := propext Iff.rfl
theorem wopu_mv {d : Nat} {v : V} : wop Φ (un (mv d v)) K σ = wact Φ (some d) (.mov (.v v)) K σ := propext Iff.rfl
theorem wopuD_mv {d : Nat} {v : V} : wopD Φ (un (mv d v)) K σ = wactD Φ (some d) (.mov (.v v)) K σ := propext Iff.rfl
theorem wopu_mi {d : Nat} {n : Int} : wop Φ (un (mi d n)) K σ = wact Φ (some d) (.mov (.v (.int .i64 n))) K σ := propext Iff.rfl
theorem wopuD_mi {d : Nat} {n : Int} : wopD Φ (un (mi d n)) K σ = wactD Φ (some d) (.mov (.v (.int .i64 n))) K σ := propext Iff.rfl
theorem wopu_mb {d : Nat} {b : Bool} : wop Φ (un (mb d b)) K σ = wact Φ (some d) (.mov (.v (.bool b))) K σ := propext Iff.rfl
theorem wopuD_mb {d : Nat} {b : Bool} : wopD Φ (un (mb d b)) K σ = wactD Φ (some d) (.mov (.v (.bool b))) K σ := propext Iff.rfl
theorem wopu_bt {d : Nat} {op : BinOp} {x y : Nat} : wop Φ (un (bt d op x y)) K σ = wact Φ (some d) (.bin op (.t x) (.t y)) K σ := propext Iff.rfl
theorem wopuD_bt {d : Nat} {op : BinOp} {x y : Nat} : wopD Φ (un (bt d op x y)) K σ = wactD Φ (some d) (.bin op (.t x) (.t y)) K σ := propext Iff.rfl
theorem wopu_bi {d : Nat} {op : BinOp} {x : Nat} {n : Int} : wop Φ (un (bi d op x n)) K σ = wact Φ (some d) (.bin op (.t x) (.v (.int .i64 n))) K σ := propext Iff.rfl
theorem wopuD_bi {d : Nat} {op : BinOp} {x : Nat} {n : Int} : wopD Φ (un (bi d op x n)) K σ = wactD Φ (some d) (.bin op (.t x) (.v (.int .i64 n))) K σ := propext Iff.rfl
theorem wopu_bu {d : Nat} {op : BinOp} {x : Nat} {n : Int} : wop Φ (un (bu d op x n)) K σ = wact Φ (some d) (.bin op (.t x) (.v (.int .u8 n))) K σ := propext Iff.rfl
theorem wopuD_bu {d : Nat} {op : BinOp} {x : Nat} {n : Int} : wopD Φ (un (bu d op x n)) K σ = wactD Φ (some d) (.bin op (.t x) (.v (.int .u8 n))) K σ := propext Iff.rfl
theorem wopu_bs {d : Nat} {op : BinOp} {x : Nat} {s : List UInt8} : wop Φ (un (bs d op x s)) K σ = wact Φ (some d) (.bin op (.t x) (.v (.str s))) K σ := propext Iff.rfl
theorem wopuD_bs {d : Nat} {op : BinOp} {x : Nat} {s : List UInt8} : wopD Φ (un (bs d op x s)) K σ = wactD Φ (some d) (.bin op (.t x) (.v (.str s))) K σ := propext Iff.rfl
theorem wopu_ntp {d x : Nat} : wop Φ (un (nt' d x)) K σ = wact Φ (some d) (.un .not (.t x)) K σ := propext Iff.rfl
theorem wopuD_ntp {d x : Nat} : wopD Φ (un (nt' d x)) K σ = wactD Φ (some d) (.un .not (.t x)) K σ := propext Iff.rfl
theorem wopu_ls {d x : Nat} : wop Φ (un (ls d x)) K σ = wact Φ (some d) (.lens (.t x)) K σ := propext Iff.rfl
theorem wopuD_ls {d x : Nat} : wopD Φ (un (ls d x)) K σ = wactD Φ (some d) (.lens (.t x)) K σ := propext Iff.rfl
theorem wopu_lq {d x : Nat} : wop Φ (un (lq d x)) K σ = wact Φ (some d) (.lenq (.t x)) K σ := propext Iff.rfl
theorem wopuD_lq {d x : Nat} : wopD Φ (un (lq d x)) K σ = wactD Φ (some d) (.lenq (.t x)) K σ := propext Iff.rfl
theorem wopu_fa {d x o : Nat} : wop Φ (un (fa d x o)) K σ = wact Φ (some d) (.fa (.t x) o) K σ := propext Iff.rfl
theorem wopuD_fa {d x o : Nat} : wopD Φ (un (fa d x o)) K σ = wactD Φ (some d) (.fa (.t x) o) K σ := propext Iff.rfl
theorem wopu_fl {d x o : Nat} : wop Φ (un (fl d x o)) K σ = wact Φ (some d) (.fld (.t x) o 1 false) K σ := propext Iff.rfl
theorem wopuD_fl {d x o : Nat} : wopD Φ (un (fl d x o)) K σ = wactD Φ (some d) (.fld (.t x) o 1 false) K σ := propext Iff.rfl
theorem wopu_l1 {d x : Nat} : wop Φ (un (l1 d x)) K σ = wact Φ (some d) (.ld (.t x) 1 false) K σ := propext Iff.rfl
theorem wopuD_l1 {d x : Nat} : wopD Φ (un (l1 d x)) K σ = wactD Φ (some d) (.ld (.t x) 1 false) K σ := propext Iff.rfl
theorem wopu_la {d x n : Nat} : wop Φ (un (la d x n)) K σ = wact Φ (some d) (.ld (.t x) n true) K σ := propext Iff.rfl
theorem wopuD_la {d x n : Nat} : wopD Φ (un (la d x n)) K σ = wactD Φ (some d) (.ld (.t x) n true) K σ := propext Iff.rfl
theorem wopu_ia {d x i s : Nat} : wop Φ (un (ia d x i s)) K σ = wact Φ (some d) (.ia (.t x) (.t i) s) K σ := propext Iff.rfl
theorem wopuD_ia {d x i s : Nat} : wopD Φ (un (ia d x i s)) K σ = wactD Φ (some d) (.ia (.t x) (.t i) s) K σ := propext Iff.rfl
theorem wopu_ix {d x i : Nat} : wop Φ (un (ix d x i)) K σ = wact Φ (some d) (.ixs (.t x) (.t i)) K σ := propext Iff.rfl
theorem wopuD_ix {d x i : Nat} : wopD Φ (un (ix d x i)) K σ = wactD Φ (some d) (.ixs (.t x) (.t i)) K σ := propext Iff.rfl
theorem wopu_pa {d x y : Nat} : wop Φ (un (pa d x y)) K σ = wact Φ (some d) (.pick (.t x) (.t y) (.v (.bool false))) K σ := propext Iff.rfl
theorem wopuD_pa {d x y : Nat} : wopD Φ (un (pa d x y)) K σ = wactD Φ (some d) (.pick (.t x) (.t y) (.v (.bool false))) K σ := propext Iff.rfl
theorem wopu_po {d x y : Nat} : wop Φ (un (po d x y)) K σ = wact Φ (some d) (.pick (.t x) (.v (.bool true)) (.t y)) K σ := propext Iff.rfl
theorem wopuD_po {d x y : Nat} : wopD Φ (un (po d x y)) K σ = wactD Φ (some d) (.pick (.t x) (.v (.bool true)) (.t y)) K σ := propext Iff.rfl
theorem wopu_ex {d x i : Nat} : wop Φ (un (ex d x i)) K σ = wact Φ (some d) (.ext (.t x) i) K σ := propext Iff.rfl
theorem wopuD_ex {d x i : Nat} : wopD Φ (un (ex d x i)) K σ = wactD Φ (some d) (.ext (.t x) i) K σ := propext Iff.rfl
theorem wopu_bx {d x : Nat} : wop Φ (un (bx d x)) K σ = wact Φ (some d) (.box (.t x)) K σ := propext Iff.rfl
theorem wopuD_bx {d x : Nat} : wopD Φ (un (bx d x)) K σ = wactD Φ (some d) (.box (.t x)) K σ := propext Iff.rfl
theorem wopu_st {n x y : Nat} : wop Φ (un (st n x y)) K σ = wact Φ (none) (.st n (.t x) (.t y)) K σ := propext Iff.rfl
theorem wopuD_st {n x y : Nat} : wopD Φ (un (st n x y)) K σ = wactD Φ (none) (.st n (.t x) (.t y)) K σ := propext Iff.rfl
theorem wopu_ca {d f : Nat} {l : List Nat} : wop Φ (un (ca d f l)) K σ = wact Φ (some d) (.call f (ts l)) K σ := propext Iff.rfl
theorem wopuD_ca {d f : Nat} {l : List Nat} : wopD Φ (un (ca d f l)) K σ = wactD Φ (some d) (.call f (ts l)) K σ := propext Iff.rfl
theorem wopu_ch {d f : Nat} {l : List Nat} : wop Φ (un (ch d f l)) K σ = wact Φ (some d) (.callH f (ts l)) K σ := propext Iff.rfl
theorem wopuD_ch {d f : Nat} {l : List Nat} : wopD Φ (un (ch d f l)) K σ = wactD Φ (some d) (.callH f (ts l)) K σ := propext Iff.rfl
theorem wopu_cv {d g : Nat} {l : List Nat} : wop Φ (un (cv d g l)) K σ = wact Φ (some d) (.callv (.t g) (ts l)) K σ := propext Iff.rfl
theorem wopuD_cv {d g : Nat} {l : List Nat} : wopD Φ (un (cv d g l)) K σ = wactD Φ (some d) (.callv (.t g) (ts l)) K σ := propext Iff.rfl
theorem d_o1 {d : Nat} {a : Act'} : (o1 d a).d = some d := rfl
theorem d_o0 {a : Act'} : (o0 a).d = none := rfl
theorem d_m {d x : Nat} : (m d x).d = some d := rfl
theorem d_mv {d : Nat} {v : V} : (mv d v).d = some d := rfl
theorem d_mi {d : Nat} {n : Int} : (mi d n).d = some d := rfl
theorem d_mb {d : Nat} {b : Bool} : (mb d b).d = some d := rfl
theorem d_bt {d : Nat} {op : BinOp} {x y : Nat} : (bt d op x y).d = some d := rfl
theorem d_bi {d : Nat} {op : BinOp} {x : Nat} {n : Int} : (bi d op x n).d = some d := rfl
theorem d_bu {d : Nat} {op : BinOp} {x : Nat} {n : Int} : (bu d op x n).d = some d := rfl
theorem d_bs {d : Nat} {op : BinOp} {x : Nat} {s : List UInt8} : (bs d op x s).d = some d := rfl
theorem d_ntp {d x : Nat} : (nt' d x).d = some d := rfl
theorem d_ls {d x : Nat} : (ls d x).d = some d := rfl
theorem d_lq {d x : Nat} : (lq d x).d = some d := rfl
theorem d_fa {d x o : Nat} : (fa d x o).d = some d := rfl
theorem d_fl {d x o : Nat} : (fl d x o).d = some d := rfl
theorem d_l1 {d x : Nat} : (l1 d x).d = some d := rfl
theorem d_la {d x n : Nat} : (la d x n).d = some d := rfl
theorem d_ia {d x i s : Nat} : (ia d x i s).d = some d := rfl
theorem d_ix {d x i : Nat} : (ix d x i).d = some d := rfl
theorem d_pa {d x y : Nat} : (pa d x y).d = some d := rfl
theorem d_po {d x y : Nat} : (po d x y).d = some d := rfl
theorem d_ex {d x i : Nat} : (ex d x i).d = some d := rfl
theorem d_bx {d x : Nat} : (bx d x).d = some d := rfl
theorem d_st {n x y : Nat} : (st n x y).d = none := rfl
theorem d_ca {d f : Nat} {l : List Nat} : (ca d f l).d = some d := rfl
theorem d_ch {d f : Nat} {l : List Nat} : (ch d f l).d = some d := rfl
theorem d_cv {d g : Nat} {l : List Nat} : (cv d g l).d = some d := rfl
theorem d_un {o : AOp} : (un o).d = o.d := rfl
theorem W_Q1 {a : AC} : W Φ (Q [a]) Q' σ = W Φ a Q' σ := propext Iff.rfl
theorem W_Q2 {a b : AC} {l : List AC} : W Φ (Q (a :: b :: l)) Q' σ = W Φ a (Ex.then (W Φ (Q (b :: l)) Q') Q') σ := propext Iff.rfl
theorem W_C {c : Nat} {a b : AC} : W Φ (C c a b) Q' σ = cM (lk σ.r c) (W Φ a Q') (W Φ b Q') σ := propext Iff.rfl
end
attribute [simp] skO_app wop_gt wop_gf wopD_gt wopD_gf W_Q1 W_Q2 W_C wop_o1 wopD_o1 wopu_o1 wopuD_o1 wop_o0 wopD_o0 wopu_o0 wopuD_o0 wop_m wopD_m wopu_m wopuD_m wop_mv wopD_mv wopu_mv wopuD_mv wop_mi wopD_mi wopu_mi wopuD_mi wop_mb wopD_mb wopu_mb wopuD_mb wop_bt wopD_bt wopu_bt wopuD_bt wop_bi wopD_bi wopu_bi wopuD_bi wop_bu wopD_bu wopu_bu wopuD_bu wop_bs wopD_bs wopu_bs wopuD_bs wop_ntp wopD_ntp wopu_ntp wopuD_ntp wop_ls wopD_ls wopu_ls wopuD_ls wop_lq wopD_lq wopu_lq wopuD_lq wop_fa wopD_fa wopu_fa wopuD_fa wop_fl wopD_fl wopu_fl wopuD_fl wop_l1 wopD_l1 wopu_l1 wopuD_l1 wop_la wopD_la wopu_la wopuD_la wop_ia wopD_ia wopu_ia wopuD_ia wop_ix wopD_ix wopu_ix wopuD_ix wop_pa wopD_pa wopu_pa wopuD_pa wop_po wopD_po wopu_po wopuD_po wop_ex wopD_ex wopu_ex wopuD_ex wop_bx wopD_bx wopu_bx wopuD_bx wop_st wopD_st wopu_st wopuD_st wop_ca wopD_ca wopu_ca wopuD_ca wop_ch wopD_ch wopu_ch wopuD_ch wop_cv wopD_cv wopu_cv wopuD_cv
attribute [simp] Cn_p Cn_n Cn_e ts d_o1 d_o0 d_m d_mv d_mi d_mb d_bt d_bi d_bu d_bs d_ntp d_ls d_lq d_fa d_fl d_l1 d_la d_ia d_ix d_pa d_po d_ex d_bx d_st d_ca d_ch d_cv d_un
end Go.Abs
