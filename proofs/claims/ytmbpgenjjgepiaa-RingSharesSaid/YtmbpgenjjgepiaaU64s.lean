/- Rows of uint64. No conditions. -/
import Derived.Test.YtmbpgenjjgepiaaKit
namespace Go.Proofs.Ytmbpgenjjgepiaa
open Go.RowKit

def u64v (n : Nat) : Value := .int .u64 (n : Int)
def u64s (l : List Nat) : List Value := l.map u64v
theorem u64s_len (l : List Nat) : (u64s l).length = l.length := by simp [u64s]
theorem u64s_at {l : List Nat} {k : Nat} (h : k < l.length) : (u64s l)[k]? = some (.int .u64 ((at_ l k : Nat) : Int)) := by
  simp [u64s, get?_at h, u64v]
theorem u64s_one (l : List Nat) : ∀ u ∈ u64s l, u.oneCell' = true := by
  intro u hu
  simp only [u64s, List.mem_map] at hu
  obtain ⟨b, _, rfl⟩ := hu
  rfl
end Go.Proofs.Ytmbpgenjjgepiaa
