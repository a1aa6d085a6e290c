/- What the row's list gives of the table of widths where it stands second: its cells. Conditions: the row's own. -/
import Derived.Test.YtmbpgenjjgepiaaDoorTab
namespace Go.Proofs.YtmbpgenjjgepiaaDoor
open Go.ChangeShapes Go.WideShapes Go.ChangeAt Go.RowKit Go.Deep

theorem tab_at2 {x : String × DataW Unit} {rest : List (String × DataW Unit)} {W : World} (h : laidMet Tryd.prog (x :: ("gaugehouse/delta.widths", Rows.laid_gaugehouse_delta_widths) :: rest) W) : TabAt W := by
  obtain ⟨ps, ⟨_, _, _, _, p, q, _, _, _, _, htail, rfl⟩, hnd, hk⟩ := h
  exact tab_at (rest := rest) ⟨q, htail, (List.nodup_append.1 hnd).2.1, fun b off hm => hk b off (List.mem_append_right _ hm)⟩
end Go.Proofs.YtmbpgenjjgepiaaDoor
