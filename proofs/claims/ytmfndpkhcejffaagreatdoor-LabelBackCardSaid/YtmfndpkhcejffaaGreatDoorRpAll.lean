/- NewReplacer(label's pairs).Replace. No conditions. -/
import Derived.Test.YtmfndpkhcejffaaGreatDoorRpRep
import Derived.Shelf.Abstract
namespace Go.Proofs.YtmfndpkhcejffaaGreatDoor
open Go.RowKit Go.Shelf

set_option maxRecDepth 1000000 in
set_option maxHeartbeats 4000000 in
theorem rrep_any (w0 w : World) (v : Value) (hb0 : Below w0.heap.size w0 w) (hN : NewRP w0 v w) (s : ByteArray) (hs : s.size ≤ 4294967296) :
    Calls Tryz.prog 28 #[v, .string s] w (R1 (.string (bsOf (repL (sb s)))) (Below w0.heap.size w0)) := by
  obtain ⟨g, o, c, rfl, hg, ho, hne, hB, hown, _⟩ := hN
  have eg : ∀ args w, (callFunc 38 args).run Tryz.prog w = .ok (.enter 38 args) w := enters_of Tryz.func38 (by kernel_rfl) rfl
  have hB1 : Blk (w.setCell ⟨g, 1, none⟩ (.int .i32 1)) g 92 #[.int .u32 0, .int .i32 1, .int .u32 0, .nilIface, .slice (some ⟨o, 0, none⟩) 6 c] := hB.set 1 _
  have hbo := rbuildOnce_any g o c w0 (w.setCell ⟨g, 1, none⟩ (.int .i32 1)) (hb0.setCell hg _) hg ho hB1 (ownsRow_setCell_other hown (a := ⟨g, 1, none⟩) (fun hh => blk_neL hB hown (by decide) hh.symm) _)
  have hgw := hB.lt
  have hsz : (w.setCell ⟨g, 1, none⟩ (.int .i32 1)).heap.size = w.heap.size := by simp [World.setCell]
  rw [hsz] at hbo
  have hD := rp_do g 38 #[.pointer (some ⟨g, 0, none⟩)] (RpMid w0 g (w.heap.size + 1) (.int .u32 0) (.int .i32 1)) w (hB.cell 0) (hB.cell 1) (hB.frozen 1) hbo (eg _) (fun w' hm => ⟨hm.1.cell 0, hm.1.cell 1, hm.1.frozen 0, hm.1.frozen 1⟩)
  have HD := Lib.hid hD
  have hmf : ∀ w : World, (Instr.makeFunc (.func 38) #[.pointer (some ⟨g, 0, none⟩)] #[]).run Tryz.prog w = .ok (.func (.func 38) #[.pointer (some ⟨g, 0, none⟩)] #[]) w := fun _ => by kernel_rfl
  have hgh : g ≠ w.heap.size + 1 := by omega
  have hme : ∀ (a : Addr) (w : World), (method 287 119 (.pointer (some a)) "Replace").run Tryz.prog w = .ok (105, .pointer (some a)) w := fun _ _ => by kernel_rfl
  clear hB hown hB1 hbo hD
  go_enter Tryz.func28, Tryz.ntmps28
  go_wp2_with fail
  refine HD.out.mono ?_
  rintro e w2 ⟨rfl, w1, hm, rfl⟩
  have hm2 : RpMid w0 g (w.heap.size + 1) (.int .u32 1) (.int .i32 0) ((w1.drew.setCell ⟨g, 0, none⟩ (.int .u32 1)).setCell ⟨g, 1, none⟩ (.int .i32 0)) :=
    (hm.drew.set hg hgh 0 (.int .u32 1) (u' := .int .u32 1) (v' := .int .i32 1) rfl).set hg hgh 1 (.int .i32 0) rfl
  obtain ⟨W2, hW2⟩ : ∃ W2, (w1.drew.setCell ⟨g, 0, none⟩ (.int .u32 1)).setCell ⟨g, 1, none⟩ (.int .i32 0) = W2 := ⟨_, rfl⟩
  rw [hW2] at hm2 ⊢
  clear hm hW2
  obtain ⟨hB2, A, c2, a, b, d, h1, h2, h3, h4, h5, h6⟩ := hm2
  have y3 : W2.cell? ⟨g, 3, none⟩ = some (.iface 119 (.pointer (some ⟨w.heap.size + 1, 0, none⟩))) := hB2.cell 3
  have hHas : Has W2 W2.heap.size A (strCs (trL 3)) := Has.of_own h2
  have HR := Lib.hid (brep_any (w.heap.size + 1) c2 A a b d s hs W2 h1 hHas h3 h4 h5)
  have H6 := Lib.hid h6
  clear h1 h2 h3 h4 h5 h6 hHas
  go_wp2_with fail
  refine HR.out.mono ?_
  rintro e w3 ⟨rfl, hb3⟩
  go_wp2_with fail
  go_ret
  exact R1.mk rfl (H6.out.trans (hb3.mono H6.out.size))
end Go.Proofs.YtmfndpkhcejffaaGreatDoor
