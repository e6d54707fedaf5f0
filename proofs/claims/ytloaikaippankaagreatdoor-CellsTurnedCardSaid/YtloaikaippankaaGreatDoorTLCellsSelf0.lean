/-
  CellsSelf: joined. No condition.
  CellsTurned: joined. No condition.
-/
import Derived.Test.YtloaikaippankaaGreatDoorTP9
set_option linter.unusedVariables false
set_option linter.unusedSimpArgs false
set_option linter.unusedSectionVars false
section
set_option maxHeartbeats 1000000
set_option maxRecDepth 100000
namespace Go.Abs.F
open Go.Proofs Go.Aut
attribute [-simp] getElem?_pos Option.not_isSome List.map_map
theorem Ek (p q:Policy) (hp:p.elements.length≤1000) (hq:q.elements.length≤1000) (hpr:∀ el,(aE p el).length≤1000) (hqr:∀ el,(aE q el).length≤1000) (at':Str→Str→List Label) (hat:∀ el nm,(at' el nm).length≤4):(d3 p q at').length≤1000000000:=by
 have hEl:∀ el,(bD p q at' el).length≤20000:=fun el=>by
  have h1:=kC (at' el) 4 (bq p q el) fun x _=>hat el x
  have h2:=rk p q el
  have h3:=hpr el
  have h4:=hqr el
  simp only [bD,List.length_cons]
  omega
 have h1:=kC (bD p q at') 20000 (jV p q) fun x _=>hEl x
 have h2:=wN p q
 simp only [d3,List.length_append,List.length_cons,List.length_nil]
 omega
theorem pz (p q:Policy) (hR:∀ e∈p.elements,∀ r∈e.rules,r.value.regex.length≤1125899906842624) (hR':∀ e∈q.elements,∀ r∈e.rules,r.value.regex.length≤1125899906842624):FnE Tryz.prog aV [p.v,q.v] (.bool true):=by
 have h1:=nM p
 have h2:=mf p
 have hv:=sq p
 have k1:=nM q
 have k2:=mf q
 have kv:=sq q
 have hs:=Ch (dw p) (dw q)
 exact lu p q (dw p) (dw q) (sB p hR) (sB q hR') _ _
  (jd _ _ h1 k1 h2 k2 _ (vU _ _) (G2 _ _ hv kv)) (jd _ _ k1 h1 k2 h2 _ (vU _ _) (G2 _ _ kv hv))
  hs.1 hs.2 (Ek _ _ h1 k1 h2 k2 _ (vU _ _))
end Go.Abs.F
end
