/-
  The document's example: its expression, its net, its automaton. No condition.
-/
import Derived.Test.YtpblinccnkidfaaDoorD17
set_option linter.unusedVariables false
set_option linter.unusedSimpArgs false
set_option maxHeartbeats 1000000
set_option maxRecDepth 100000
namespace Go.Abs
open Go.Proofs Go.Aut
attribute [-simp] getElem?_pos Option.not_isSome List.map_map
def oneC (c : Nat) : List V := (List.replicate 95 (V.bool false)).set c (.bool true)
def partX : V := .iface ty_regex_alt (.strct [.seq 1 [.iface ty_regex_set (.strct (oneC 65)), .iface ty_regex_seq (.strct [.seq 1 [.iface ty_regex_set (.strct (oneC 66)), .iface ty_regex_set (.strct (oneC 66))]])]])
def netX : Net := ⟨3, 0, 1, [⟨2, 1, 98, 98⟩, ⟨0, 2, 98, 98⟩, ⟨0, 1, 97, 97⟩]⟩
def autX : Aut := ⟨[((List.replicate 95 1).set 65 2).set 66 3, List.replicate 95 1, List.replicate 95 1, (List.replicate 95 1).set 66 2], [false, false, true, false]⟩
theorem run_parse : (xfun tabR 300 16).h n_regex_Parse [.str [97, 124, 98, 98]] [] = some (.tup [.ptr 0 0, .int .i64 0], [some (.box [partX])]) := by kernel_rfl
theorem run_net : (xfun tabR 300 16).h n_pregex_Regex_Net [.ptr 0 0] [some (.box [partX])] = some (.strct [nV 3, nV 0, nV 1, .ref 0 3], [some (.arr ty_api_Edge 4 (netX.edges.map NEdge.v))]) := by kernel_rfl
theorem run_of : ofP netX = some autX := by kernel_rfl
end Go.Abs
