/- A row of int64 as cells. Conditions: none beyond each theorem's own hypotheses. -/
import Derived.Test.YtmfndpkhcejffaaKit
namespace Go.Proofs.Ytmfndpkhcejffaa
open Go.RowKit

def i64v (n : Int) : Value := .int .i64 n
def i64s (l : List Int) : List Value := l.map i64v
theorem i64s_len (l : List Int) : (i64s l).length = l.length := by simp [i64s]
theorem i64s_at {l : List Int} {k : Nat} (h : k < l.length) : (i64s l)[k]? = some (.int .i64 (at_ l k)) := by
  simp [i64s, get?_at h, i64v]

end Go.Proofs.Ytmfndpkhcejffaa
