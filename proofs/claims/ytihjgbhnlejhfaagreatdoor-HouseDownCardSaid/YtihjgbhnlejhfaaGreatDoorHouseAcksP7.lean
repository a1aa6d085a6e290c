/- Texts of the proof of HouseAcks, joined (by merge.py). Conditions: each theorem's own hypotheses. -/
import Derived.Test.YtihjgbhnlejhfaaGreatDoorHouseAcksP3
import Derived.Deep.RegionHeld3
namespace Go.Proofs.YtihjgbhnlejhfaaGreatDoor
open Go.RowKit
variable {P : Program} {w : World}

theorem step_append1 {ops : Array Oper} {o : Oper} {a : Act} {K : Act → World → Prop} {Q : Exit → Act → World → Prop} {F : Prop} (hgd : o.guard = none) (s x : Operand) (t : TypeId)
    (ho : o.op = .call { callee := .builtin .append, args := #[s, x], argTypes := #[t, t] })
    {base size bytes : Nat} {e : TypeId} (E : Elem P t e size bytes) {v : Value} {n : Nat} {xs : List Value} (hown : w.ownsRow base e size v n xs) (hs : a.eval s = v)
    {B c : Nat} (hx : a.eval x = .slice (some ⟨B, 0, none⟩) 1 c) {cs : Array Value} {e' : TypeId} {fr : Nat × Nat} (hb : w.heap[B]? = some (.cells cs e' fr)) (hl : cs.size = size)
    (h1 : ∀ u ∈ cs.toList, u.oneCell' = true) (hmax : (n + 1) * bytes ≤ 140737488355328) (h63 : n + 1 ≤ maxLen) (hbase : base ≤ w.heap.size)
    (h : ∀ A' c' w', w'.ownsRow base e size (.slice A' (n + 1) c') (n + 1) (xs ++ cs.toList) → w.grownBy w' v.ownBlock → Below base w w' → K (a.put o.dst (.slice A' (n + 1) c')) w') :
    if Region.wanted o (yielded ops a.tmps) = true then Oper.wp P o a w K Q else F := by
  obtain ⟨ht, ⟨i, z, hi, hz, hsize, hby, hzs⟩, hsz⟩ := E
  exact step_append_lies (w := w) hgd s x t ho base e i z size bytes ht hi hz hsize hby hzs hsz v n xs hs hown ⟨B, 0, none⟩ 1 c cs.toList hx (by simpa using hl) (World.news_of_block hb) h1 (by omega) h63 hmax hbase w.heap.size rfl
    (fun g cap w' k1 k2 _ _ => h _ _ _ k1 k2 (grown_below hown k2 hbase))
end Go.Proofs.YtihjgbhnlejhfaaGreatDoor
