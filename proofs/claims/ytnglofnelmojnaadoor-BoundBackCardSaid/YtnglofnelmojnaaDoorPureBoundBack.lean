/- The law BoundBack at a text in a struct that the statement's own bound lets in. Conditions: each theorem names its own. -/
import Derived.Test.YtnglofnelmojnaaDoorPH10
import Derived.SizedLaws
namespace Go.Proofs.YtnglofnelmojnaaDoor.P
open Go.RowKit

/-- A text that stands in a struct that is handed is no longer than the reach. -/
theorem sized_field {H : Type} {P : Program} {ts : List TypeId} {ds : List (DataW H)} (h : (DataW.weightsEach P ts ds).all (· ≤ reachBytes) = true) {j i : Nat} {t u : TypeId} {fs : Array Field} {parts : List (DataW H)} {bytes : List UInt8}
    (ht : ts[j]? = some t) (hd : ds[j]? = some (.agg parts)) (hu : P.underlying t = some (.struct fs)) (hf : (fs.toList.map (·.type))[i]? = some u) (hp : parts[i]? = some (.lit (.string bytes))) : bytes.length ≤ reachBytes := by
  have m1 : bytes.length ∈ DataW.weightsEach P (fs.toList.map (·.type)) parts := DataW.weights_mem_each hf hp _ (by simp [DataW.weights])
  have := List.all_eq_true.1 h _ (DataW.weights_mem_each ht hd bytes.length (by simp only [DataW.weights, hu]; exact m1))
  simpa using this
end Go.Proofs.YtnglofnelmojnaaDoor.P
