/- DagKnots: the plain part: the commits, reckoned. -/
import Derived.Test.YthfinaocdcinlaaAlive
namespace Go.Proofs.Ythfinaocdcinlaa
open Go.RowKit
set_option linter.unusedVariables false
set_option linter.unusedSimpArgs false

/-- What is reached, reckoned. -/
def clos (D : Nodes) (fr : List Id) : List Id := (List.range D.length).foldl (fun S _ => S ++ ((S.flatMap (par D)).filter fun x => has D x && !S.contains x).eraseDups) (fr.filter (has D)).eraseDups
def ka (i : Nat) : Id := cid2 (UInt8.ofNat (2 + i)) 0
def kb (i : Nat) : Id := cid2 (UInt8.ofNat (2 + i)) 1
def K1 : Nodes := (addF [] (cid 1) []).1
def K2 : Nodes := (addF K1 (ka 0) [cid 1]).1
def KD : Nat → Nodes
  | 0 => (addF K2 (kb 0) [cid 1]).1
  | i + 1 => (addF (addF (KD i) (ka (i + 1)) [ka i, kb i]).1 (kb (i + 1)) [ka i, kb i]).1
def KM (i : Nat) : Nodes := (addF (KD i) (ka (i + 1)) [ka i, kb i]).1
theorem k1 : addF [] (cid 1) [] = (K1, 0) := by kernel_rfl
theorem k2 : addF K1 (ka 0) [cid 1] = (K2, 0) := by kernel_rfl
theorem k3 : addF K2 (kb 0) [cid 1] = (KD 0, 0) := by kernel_rfl
/-- All that a round asks. -/
def roundOk (i : Nat) : Bool :=
  decide ((addF (KD i) (ka (i + 1)) [ka i, kb i]).2 = 0) && decide ((addF (KM i) (kb (i + 1)) [ka i, kb i]).2 = 0) && decide (addF (KD (i + 1)) (cid2 100 (UInt8.ofNat i)) [kb i, ka i] = (KD (i + 1), 1)) &&
  rchOk (KD (i + 1)) [ka (i + 1)] (clos (KD (i + 1)) [ka (i + 1)]) && rchOk (KD (i + 1)) [kb (i + 1)] (clos (KD (i + 1)) [kb (i + 1)]) && decide (bestL (KD (i + 1)) (clos (KD (i + 1)) [ka (i + 1)]) (clos (KD (i + 1)) [kb (i + 1)]) = [ka i, kb i]) &&
  decide (dep (KD (i + 1)) (ka (i + 1)) = 3 + i) && rchOk (KD (i + 1)) [ka (i + 1), kb (i + 1)] (clos (KD (i + 1)) [ka (i + 1), kb (i + 1)]) && decide ((clos (KD (i + 1)) [ka (i + 1), kb (i + 1)]).length = 5 + 2 * i) && decide ((clos (KD (i + 1)) [ka (i + 1), kb (i + 1)]).Nodup) &&
  ((KD (i + 1)).map Prod.fst).all (fun n => (has (KD (i + 1)) n && !isKid (KD (i + 1)) n) == [ka (i + 1), kb (i + 1)].contains n) && [ka (i + 1), kb (i + 1)].all (fun n => has (KD (i + 1)) n)
theorem rounds_ok : (List.range 8).all roundOk = true := by kernel_rfl
end Go.Proofs.Ythfinaocdcinlaa
