/- Texts of the proof of HouseRing, joined (by merge.py). Conditions: each theorem's own hypotheses. -/
import Derived.Test.YtihjgbhnlejhfaaGreatDoorHouseAcksP15
import Derived.Test.YtihjgbhnlejhfaaGreatDoorHouseAcksP19
import Derived.Test.YtihjgbhnlejhfaaGreatDoorHouseAcksP43
import Derived.Test.YtihjgbhnlejhfaaGreatDoorHouseRingP1
namespace Go.Proofs.YtihjgbhnlejhfaaGreatDoor

theorem putH_nodes (h : Hse) (L : List Lab) (x : Smp) : (putH h L x).1.nodes = h.nodes := by
  unfold putH
  split <;> rfl
theorem mendH_nodes (h : Hse) (L : List Lab) : (mendH h L).1.nodes = h.nodes := by
  unfold mendH
  split
  · rfl
  · cases getK h (txL L) <;> rfl
theorem becomeH_nodes (h : Hse) (nodes : List Nod) (ps : List Peer) : ((becomeH h nodes ps).2 = 0 ∧ (becomeH h nodes ps).1.nodes = nodes) ∨ ((becomeH h nodes ps).2 ≠ 0 ∧ (becomeH h nodes ps).1.nodes = h.nodes) := by
  unfold becomeH
  split
  · exact .inl ⟨rfl, rfl⟩
  · exact .inr ⟨(by decide : (13 : Int) ≠ 0), rfl⟩
theorem joinH_nodes (h : Hse) (x : Nod) : ((joinH h x).2 = 0 ∧ joinE h.nodes x = 0 ∧ (joinH h x).1.nodes = joinNd h.nodes x) ∨ ((joinH h x).2 ≠ 0 ∧ (joinH h x).1.nodes = h.nodes) := by
  unfold joinH
  by_cases he : joinE h.nodes x ≠ 0
  · rw [if_pos he]; exact .inr ⟨he, rfl⟩
  · rw [if_neg he]
    rcases becomeH_nodes h (joinNd h.nodes x) (h.ps ++ [Peer.new x.nm]) with ⟨h1, h2⟩ | h1
    · exact .inl ⟨h1, Decidable.not_not.1 he, h2⟩
    · exact .inr h1
theorem leaveH_nodes (h : Hse) (nm : ByteArray) : ((leaveH h nm).2 = 0 ∧ leaveE h.nodes nm = 0 ∧ (leaveH h nm).1.nodes = leaveNd h.nodes nm) ∨ ((leaveH h nm).2 ≠ 0 ∧ (leaveH h nm).1.nodes = h.nodes) := by
  unfold leaveH
  by_cases he : leaveE h.nodes nm ≠ 0
  · rw [if_pos he]; exact .inr ⟨he, rfl⟩
  · rw [if_neg he]
    by_cases ht : tokN (leaveNd h.nodes nm) < h.copies
    · rw [if_pos ht]; exact .inr ⟨(by decide : (1 : Int) ≠ 0), rfl⟩
    · rw [if_neg ht]
      rcases becomeH_nodes h (leaveNd h.nodes nm) (h.ps.filter fun p : Peer => decide (p.nm ≠ nm)) with ⟨h1, h2⟩ | h1
      · exact .inl ⟨h1, Decidable.not_not.1 he, h2⟩
      · exact .inr h1
/-- nodes behind a step: joined, left, or as they were -/
theorem done_nodes (h : Hse) (a : Stp) :
    (((doneH h a).2 = 0 ∧ a.kind = 7) ∧ joinE h.nodes a.node = 0 ∧ (doneH h a).1.nodes = joinNd h.nodes a.node) ∨
    (((doneH h a).2 = 0 ∧ (a.kind < 1 ∨ 7 < a.kind)) ∧ leaveE h.nodes a.nm = 0 ∧ (doneH h a).1.nodes = leaveNd h.nodes a.nm) ∨
    (¬ ((doneH h a).2 = 0 ∧ a.kind = 7) ∧ ¬ ((doneH h a).2 = 0 ∧ (a.kind < 1 ∨ 7 < a.kind)) ∧ (doneH h a).1.nodes = h.nodes) := by
  unfold doneH
  by_cases k1 : a.kind = 1
  · rw [if_pos k1]; exact .inr (.inr ⟨by omega, by omega, putH_nodes _ _ _⟩)
  rw [if_neg k1]
  by_cases k2 : a.kind = 2
  · rw [if_pos k2]; exact .inr (.inr ⟨by omega, by omega, rfl⟩)
  rw [if_neg k2]
  by_cases k3 : a.kind = 3
  · rw [if_pos k3]; exact .inr (.inr ⟨by omega, by omega, mendH_nodes _ _⟩)
  rw [if_neg k3]
  by_cases k4 : a.kind = 4
  · rw [if_pos k4]; exact .inr (.inr ⟨by omega, by omega, rfl⟩)
  rw [if_neg k4]
  by_cases k5 : a.kind = 5
  · rw [if_pos k5]; exact .inr (.inr ⟨by omega, by omega, rfl⟩)
  rw [if_neg k5]
  by_cases k6 : a.kind = 6
  · rw [if_pos k6]; exact .inr (.inr ⟨by omega, by omega, rfl⟩)
  rw [if_neg k6]
  by_cases k7 : a.kind = 7
  · rw [if_pos k7]
    rcases joinH_nodes h a.node with ⟨h1, h2, h3⟩ | ⟨h1, h2⟩
    · exact .inl ⟨⟨h1, k7⟩, h2, h3⟩
    · exact .inr (.inr ⟨fun e => h1 e.1, fun e => h1 e.1, h2⟩)
  rw [if_neg k7]
  rcases leaveH_nodes h a.nm with ⟨h1, h2, h3⟩ | ⟨h1, h2⟩
  · exact .inr (.inl ⟨⟨h1, by omega⟩, h2, h3⟩)
  · exact .inr (.inr ⟨fun e => h1 e.1, fun e => h1 e.1, h2⟩)
end Go.Proofs.YtihjgbhnlejhfaaGreatDoor
namespace Go.Proofs.YtihjgbhnlejhfaaGreatDoor
open Go.RowKit Go.ChangeMaps

set_option maxRecDepth 1000000 in
set_option maxHeartbeats 16000000 in
theorem houseRing_any (W0 : World) (A0 : Option Addr) (c0 : Nat) (L : List NodE) (ok0 : ∀ e ∈ L, NodOk W0 e) (_lc0 : L.length ≤ c0) (_cm0 : c0 ≤ maxLen) (_nil0 : A0 = none → c0 = 0) (has0 : Has W0 W0.heap.size A0 (nodCs L)) (_reach0 : L.length * 40 ≤ 140737488351232)
    (C : Int) (_bC : -9223372036854775808 ≤ C ∧ C ≤ 9223372036854775807) (Wr : Int) (_bW : -9223372036854775808 ≤ Wr ∧ Wr ≤ 9223372036854775807) (R : Int) (_bR : -9223372036854775808 ≤ R ∧ R ≤ 9223372036854775807)
    (A4 : Option Addr) (c4 : Nat) (l : List StpE) (ok4 : ∀ e ∈ l, e.good W0) (lc4 : l.length ≤ c4) (cm4 : c4 ≤ maxLen) (_nil4 : A4 = none → c4 = 0) (has4 : Has W0 W0.heap.size A4 (stpCs l)) (_reach4 : l.length * 112 ≤ 140737488351232)
     (tS : SgAt W0) :
    Calls Tryz.prog 6 #[.slice A0 L.length c0, .int .i64 C, .int .i64 Wr, .int .i64 R, .slice A4 l.length c4] W0 (R1 (.bool true) (Below W0.heap.size W0)) := by
  obtain ⟨n0, hn0⟩ : ∃ n0, L.length = n0 := ⟨_, rfl⟩
  obtain ⟨n, hn⟩ : ∃ n, l.length = n := ⟨_, rfl⟩
  have hb0 : Below W0.heap.size W0 W0 := Below.refl _ _
  have hHs := Lib.hid (houses_any W0)
  have hNew := Lib.hid (fun (w1 : World) (hb1 : Below W0.heap.size W0 w1) => hnew_any A0 n0 c0 L hn0 (by omega) C Wr R w1 (has0.next hb1) (fun e he => (ok0 e he).next hb1))
  have Hok4 := Lib.hid (fun e (he : e ∈ l) => (ok4 e he).inn)
  have Hhas4 := Lib.hid has4
  have Hn := Lib.hid hn
  have HS := Lib.hid tS
  have Hb0 := Lib.hid hb0
  have hnl : n ≤ maxLen := by omega
  rw [hn0, hn]
  clear ok0 has0 ok4 has4 hn0 hn  tS hb0 lc4 cm4
  go_enter Tryz.func6, Tryz.ntmps6
  go_wp2_with fail
  refine hHs.out.mono ?_
  rintro e w1 ⟨rfl, hb1⟩
  have hb01 := bnext Hb0.out hb1
  have hN1 := Lib.hid (hNew.out w1 hb01)
  have hb01 := Lib.hid hb01
  clear hb1 hNew hHs
  go_wp2_with fail
  refine hN1.out.mono ?_
  rintro e w2 ⟨v, rfl, hc, hb2⟩
  have hb02 := Lib.hid (bnext hb01.out hb2)
  rcases hc with ⟨he, rfl⟩ | ⟨hE, hb, rfl, hM⟩
  · have f1 : (newE (L.map NodE.x) C Wr R != 0) = true := by rw [bne_iff_ne]; exact he
    obtain ⟨er, her⟩ : ∃ er, newE (L.map NodE.x) C Wr R = er := ⟨_, rfl⟩
    rw [her] at f1 ⊢
    clear he her hb2
    go_wp2_with fail
    go_ret
    exact R1.mk rfl hb02.out
  · by_cases h20 : (20 : Int) < (n : Int)
    · clear hE hM hb2
      go_wp2_with fail
      go_ret
      exact R1.mk rfl hb02.out
    · obtain ⟨hI, hr20, hw20, hwr1, hrd1, hcC, hcW, _⟩ := newH_ok hE
      have hsb : 0 < w1.heap.size := Nat.lt_of_lt_of_le HS.out.1 hb01.out.size
      obtain ⟨h0, hh0⟩ : ∃ h0, newH (L.map NodE.x) C Wr R = h0 := ⟨_, rfl⟩
      rw [hh0] at hM hI hr20 hw20 hwr1 hrd1 hcC hcW
      have Hrun := Lib.hid (fun (j : Nat) (_hj : j ≤ n) => run_sub hI ((l.map StpE.s).take j) (by rw [List.length_take]; omega) (fun a ha => by
        obtain ⟨e, he, rfl⟩ := List.mem_map.1 (List.mem_of_mem_take ha)
        exact (Hok4.out e he).x))
      have Hsame := Lib.hid (fun (j : Nat) => runH_same ((l.map StpE.s).take j) h0)
      have Hplen := Lib.hid (fun (j : Nat) (_hj : j ≤ n) => show (putsOf ((l.map StpE.s).take j)).length ≤ j from Nat.le_trans (putsOf_len _) (by rw [List.length_take]; exact Nat.min_le_left _ _))
      have hM := Lib.hid hM
      have HcC := Lib.hid hcC
      have HcW := Lib.hid hcW
      have hn20 : n ≤ 20 := by omega
      have ho2 := Lib.hid (OutH.of hb2 (Nat.le_refl _))
      clear hE hI hb2 hh0 hcC hcW
      go_wp2_with fail
      go_loopw [58] (fun i wr => ∃ j : Nat, j ≤ n ∧ i = .int .i64 (j : Nat) ∧ Hid (HsM wr w1.heap.size hb (runH h0 ((l.map StpE.s).take j))) ∧ Hid (OutH w1.heap.size w1 wr)) (fun i _ => n + 5 - (intOf i).toNat)
      case atStart => exact ⟨0, by omega, rfl, Lib.hid (by rw [List.take_zero]; exact hM.out), ho2⟩
      case round =>
        obtain ⟨j, hj, rfl, hMj, hoj⟩ := hrel
        have hbj := Lib.hid (hb01.out.trans (hoj.out.below.mono hb01.out.size))
        have hbs : w1.heap.size ≤ wr.heap.size := hoj.out.size
        by_cases hlt : (j : Int) < (n : Int)
        · have hjl : j < l.length := by rw [Hn.out]; omega
          obtain ⟨ad, rfl, g0, g1, g2, g3, g4, g5, g6, g7⟩ := stp_cells (Hhas4.out.next hbj.out) hjl
          have hjs : j < (l.map StpE.s).length := by rw [List.length_map]; exact hjl
          have hat : at_ (l.map StpE.s) j = (at_ l j).s := by rw [at_eq hjs, List.getElem_map, ← at_eq hjl]
          have hnx : runH h0 ((l.map StpE.s).take (j + 1)) = (doneH (runH h0 ((l.map StpE.s).take j)) (at_ l j).s).1 := by rw [take_snoc hjs, runH_snoc, hat]
          have hein := (Hok4.out _ (at_mem hjl)).next hbj.out
          obtain ⟨e, he⟩ : ∃ e, at_ l j = e := ⟨_, rfl⟩
          rw [he] at g0 g1 g2 g3 g4 g5 g6 g7 hnx hein
          obtain ⟨tn, htn⟩ : ∃ tn, e.t.l.length = tn := ⟨_, rfl⟩
          obtain ⟨np, hnp⟩ : ∃ np, e.node.t.l.length = np := ⟨_, rfl⟩
          rw [htn] at g2
          rw [hnp] at g7
          have q0 : (0 : Int) ≤ (j : Int) := by omega
          obtain ⟨W8, hW8⟩ : ∃ W8, wr.alloc (.cells #[.int .i64 e.kind, .int .i64 e.keep, .slice e.t.A tn e.t.c, .int .i64 e.x.t, .int .i64 e.x.v, .string e.nm, .string e.node.nm, .slice e.node.t.A np e.node.t.c] 38) = W8 := ⟨_, rfl⟩
          obtain ⟨q8, hq8⟩ : ∃ q8, wr.heap.size = q8 := ⟨_, rfl⟩
          have hb8 : Below wr.heap.size wr W8 := by rw [← hW8]; exact one_allocB _ _
          have k8 : Blk W8 q8 38 #[.int .i64 e.kind, .int .i64 e.keep, .slice e.t.A tn e.t.c, .int .i64 e.x.t, .int .i64 e.x.v, .string e.nm, .string e.node.nm, .slice e.node.t.A np e.node.t.c] := by rw [← hW8]; exact Blk.newD _ _ _ _ hq8
          have d0 : W8.cell? ⟨q8, 0, none⟩ = some (.int .i64 e.kind) := k8.cell 0
          have d1 : W8.cell? ⟨q8, 1, none⟩ = some (.int .i64 e.keep) := k8.cell 1
          have d2 : W8.cell? ⟨q8, 2, none⟩ = some (.slice e.t.A tn e.t.c) := k8.cell 2
          have d3 : W8.cell? ⟨q8, 3, none⟩ = some (.int .i64 e.x.t) := k8.cell 3
          have d4 : W8.cell? ⟨q8, 4, none⟩ = some (.int .i64 e.x.v) := k8.cell 4
          have d5 : W8.cell? ⟨q8, 5, none⟩ = some (.string e.nm) := k8.cell 5
          have d6 : W8.cell? ⟨q8, 6, none⟩ = some (.string e.node.nm) := k8.cell 6
          have d7 : W8.cell? ⟨q8, 7, none⟩ = some (.slice e.node.t.A np e.node.t.c) := k8.cell 7
          have hpl := Hplen.out j hj
          have hD := Lib.hid (done_any w1.heap.size hb (putsOf ((l.map StpE.s).take j)) (runH h0 ((l.map StpE.s).take j)) (by omega) e tn np htn hnp W8 ⟨hMj.out.next hb8, Hrun.out j hj, by rw [(Hsame.out j).2.2]; exact hr20, by rw [(Hsame.out j).2.1]; exact hw20⟩ (Nat.le_trans hbs hb8.size)
            ((hein.next ((Below.mono hb8 hbj.out.size))).more hb01.out.size) (HS.out.next (bnext hbj.out hb8)) hsb)
          have hoW := Lib.hid (hoj.out.trans (OutH.of hb8 hbs))
          have Hnx := Lib.hid hnx
          clear hjl hjs hat hnx he hpl
          have hin := Hrun.out j hj
          have hm22 : (putsOf ((l.map StpE.s).take j)).length ≤ 22 := by have := Hplen.out j hj; omega
          have hin9 := done_sub hin hm22 (a := e.s) hein.x
          obtain ⟨hs, hhs⟩ : ∃ hs, runH h0 ((l.map StpE.s).take j) = hs := ⟨_, rfl⟩
          rw [hhs] at hin hin9
          rw [hhs] at hMj hD Hnx
          have hdn := done_nodes hs e.s
          obtain ⟨⟨hs9, f⟩, hdr⟩ : ∃ r, doneH hs e.s = r := ⟨_, rfl⟩
          rw [hdr] at hin9 hD Hnx hdn
          (try simp only [] at hin9 hdn)
          obtain ⟨mb, NA, nc, NL, es, clock, kvs, ls, hh⟩ := hMj.out.next hb8
          have hNd := Lib.hid (hnodes_any w1.heap.size hb mb NA nc NL es clock kvs ls hs hin.ring W8 hh)
          have hnodes := hh.nodes
          have hNl : NL.length ≤ 20 := by have h1 := hin.ring.1; rw [← hnodes, List.length_map] at h1; exact h1
          obtain ⟨na, hna⟩ : ∃ na, NL.length = na := ⟨_, rfl⟩
          rw [hna] at hNl
          have Hna := Lib.hid hna
          have Hnodes := Lib.hid hnodes
          have Hin9 := Lib.hid hin9
          have K8 := Lib.hid k8
          have Hein := Lib.hid hein
          have hbs8 : w1.heap.size ≤ W8.heap.size := Nat.le_trans hbs hb8.size
          have Hb8 := Lib.hid hb8
          have Hstep := Lib.hid (fun (w3 : World) (hb3 : Below W8.heap.size W8 w3) => done_any w1.heap.size hb (putsOf ((l.map StpE.s).take j)) hs (by have := Hplen.out j hj; omega) e tn np htn hnp w3 ⟨⟨_, _, _, _, _, _, _, _, hh.next hb3⟩, hin, by rw [← hhs, (Hsame.out j).2.2]; exact hr20, by rw [← hhs, (Hsame.out j).2.1]; exact hw20⟩ (Nat.le_trans hbs8 hb3.size)
            ((hein.next ((Below.mono (bnext hb8 hb3) hbj.out.size))).more hb01.out.size) (HS.out.next (bnext hbj.out (bnext hb8 hb3))) hsb)
          rw [hdr] at Hstep
          have Htk := Lib.hid htn
          have Hnp := Lib.hid hnp
          clear hin hin9 hhs hdr hh hnodes hna hein hD k8 htn hnp hb8
          go_upto_region 9 with fail
          (try rw [hW8]); (try rw [hq8])
          clear hW8 hq8 g0 g1 g2 g3 g4 g5 g6 g7
          go_wp2_with fail
          refine hNd.out.mono ?_
          rintro e9 w3 ⟨v, rfl, B1, b1, L1, rfl, hx1, ho1, ht1, hb3⟩
          rw [Hna.out] at ho1 ⊢
          have hS3 := Lib.hid (Hstep.out w3 hb3)
          have k3 := K8.out.next hb3
          have d0 : w3.cell? ⟨q8, 0, none⟩ = some (.int .i64 e.kind) := k3.cell 0
          have d1 : w3.cell? ⟨q8, 1, none⟩ = some (.int .i64 e.keep) := k3.cell 1
          have d2 : w3.cell? ⟨q8, 2, none⟩ = some (.slice e.t.A tn e.t.c) := k3.cell 2
          have d3 : w3.cell? ⟨q8, 3, none⟩ = some (.int .i64 e.x.t) := k3.cell 3
          have d4 : w3.cell? ⟨q8, 4, none⟩ = some (.int .i64 e.x.v) := k3.cell 4
          have d5 : w3.cell? ⟨q8, 5, none⟩ = some (.string e.nm) := k3.cell 5
          have d6 : w3.cell? ⟨q8, 6, none⟩ = some (.string e.node.nm) := k3.cell 6
          have d7 : w3.cell? ⟨q8, 7, none⟩ = some (.slice e.node.t.A np e.node.t.c) := k3.cell 7
          have K3 := Lib.hid k3
          have Hb3 := Lib.hid (bnext Hb8.out hb3)
          have Ho1 := Lib.hid (own_less ho1 hbs8)
          have Ht1 := Lib.hid (fun e he => (ht1 e he).less hbs8)
          have Hx1 := Lib.hid (hx1.trans Hnodes.out)
          clear hNd hx1 ho1 ht1 hb3 k3 Hstep
          go_wp2_with fail
          refine hS3.out.mono ?_
          rintro e9 w4 ⟨rfl, hM4, hO4⟩
          (try simp only [] at hM4)
          have hbs3 : w1.heap.size ≤ w3.heap.size := Nat.le_trans hbs Hb3.out.size
          have hO14 : OutH w1.heap.size w1 w4 := hoj.out.trans ((OutH.of Hb3.out hbs).trans hO4)
          obtain ⟨mb4, NA4, nc4, NL4, es4, clock4, kvs4, ls4, hh4⟩ := hM4
          have hNd4 := Lib.hid (hnodes_any w1.heap.size hb mb4 NA4 nc4 NL4 es4 clock4 kvs4 ls4 hs9 Hin9.out.ring w4 hh4)
          have hnodes4 := hh4.nodes
          have hNl4 : NL4.length ≤ 20 := by have h1 := Hin9.out.ring.1; rw [← hnodes4, List.length_map] at h1; exact h1
          obtain ⟨nb, hnb⟩ : ∃ nb, NL4.length = nb := ⟨_, rfl⟩
          rw [hnb] at hNl4
          have Hnb := Lib.hid hnb
          have Hnodes4 := Lib.hid hnodes4
          have Hh4 := Lib.hid hh4
          have K4 := Lib.hid (hO4.blk K3.out (by unfold HsKind StKind; decide))
          have Ho1 := Lib.hid (hO4.own Ho1.out (by unfold HsKind StKind; decide))
          have Ht1 := Lib.hid (show ∀ e ∈ L1, TkOwn w4 w1.heap.size e from fun e he => ⟨hO4.own (Ht1.out e he).1 (by unfold HsKind StKind; decide), (Ht1.out e he).2⟩)
          have HO14 := Lib.hid hO14
          have HB4 := Lib.hid (show Below W0.heap.size w3 w4 from hO4.below.mono hb01.out.size)
          clear hS3 hO4 hO14 hh4 hnodes4 hnb d0 d1 d2 d3 d4 d5 d6 d7
          go_wp2_with fail
          refine hNd4.out.mono ?_
          rintro e9 w5 ⟨v, rfl, B5, b5, L5, rfl, hx5, ho5, ht5, hb5⟩
          rw [Hnb.out] at ho5 ⊢
          have k5 := K4.out.next hb5
          have d0 : w5.cell? ⟨q8, 0, none⟩ = some (.int .i64 e.kind) := k5.cell 0
          have d5 : w5.cell? ⟨q8, 5, none⟩ = some (.string e.nm) := k5.cell 5
          have d6 : w5.cell? ⟨q8, 6, none⟩ = some (.string e.node.nm) := k5.cell 6
          have d7 : w5.cell? ⟨q8, 7, none⟩ = some (.slice e.node.t.A np e.node.t.c) := k5.cell 7
          have hbs4 : w1.heap.size ≤ w4.heap.size := HO14.out.size
          have Ho1 := Lib.hid (own_next Ho1.out hb5)
          have Ht1 := Lib.hid (fun e he => (Ht1.out e he).next hb5)
          have Ho5 := Lib.hid ho5
          have Ht5 := Lib.hid ht5
          have hx5 := hx5.trans Hnodes4.out
          have HF := Lib.hid (fun (w' : World) (hb' : Below w4.heap.size w4 w') => show Hid (HsM w' w1.heap.size hb (runH h0 ((l.map StpE.s).take (j + 1)))) ∧ Hid (OutH w1.heap.size w1 w') from ⟨Lib.hid (by rw [Hnx.out]; exact ⟨_, _, _, _, _, _, _, _, Hh4.out.next hb'⟩), Lib.hid (HO14.out.trans (OutH.of hb' hbs4))⟩)
          have hl1 : L1.length = na := by have h1 := congrArg List.length Hx1.out; rw [List.length_map, ← Hnodes.out, List.length_map, Hna.out] at h1; exact h1
          have hl5 : L5.length = nb := by have h1 := congrArg List.length hx5; rw [List.length_map, ← Hnodes4.out, List.length_map, Hnb.out] at h1; exact h1
          have Hl1 := Lib.hid hl1
          have Hl5 := Lib.hid hl5
          have hHe : NodOk w5 e.node := ((Hein.out.next ((Below.mono Hb3.out hbj.out.size).trans (HB4.out.trans (Below.mono hb5 (Nat.le_trans hb01.out.size hbs4))))).node (Nat.le_trans hb01.out.size (Nat.le_trans hbs4 hb5.size)))
          have hHe := Lib.hid hHe
          have Hx5 := Lib.hid hx5
          have hb5 := Lib.hid hb5
          have K5 := Lib.hid k5
          clear hl1 hl5 hx5 k5 Hh4 HO14 HB4 K4 K3 Hb3 K8 Hein
          have hal : na ≤ maxLen := by show na ≤ maxLen; unfold maxLen; omega
          have hbl : nb ≤ maxLen := by show nb ≤ maxLen; unfold maxLen; omega
          rcases hdn with ⟨⟨hf, hk⟩, hE, hNd⟩ | ⟨⟨hf, hk⟩, hE, hNd⟩ | ⟨hn1, hn2, hNd⟩
          · have hk : e.kind = 7 := hk
            subst hf
            rw [hk] at d0
            have hJ := join_any B1 na b1 L1 Hl1.out (fun e => by subst e; exact (own_nil Ho1.out).2) (own_len Ho1.out).1 hal e.node.nm e.node.t.A e.node.t.c e.node.t.l w5 (Has.of_own Ho1.out) (fun e he => (Ht1.out e he).ok) hHe.out
            rw [Hnp.out] at hJ
            have hJ := Lib.hid hJ
            have HE := Lib.hid hE
            have HNd := Lib.hid hNd
            clear hE hNd
            go_wp2_with fail
            refine hJ.out.mono ?_
            rintro e9 w6 ⟨v, rfl, hc, hb6⟩
            rcases hc with ⟨ee, he, _, rfl, hE2⟩ | ⟨i, A2, c2, NL2, hok, hfit, hpl, hnn, h20, rfl, hx2, hown, htk⟩
            · rw [Hx1.out] at hE2
              exact absurd (hE2.trans HE.out) he
            have hi := plcI_eq hpl
            rw [Hx1.out] at hx2 hi
            have hN2 : NL2.map NodE.x = joinNd hs.nodes e.s.node := by rw [hx2, hi]; rfl
            rw [Hl1.out] at hown h20 ⊢
            obtain ⟨n2, hn2⟩ : ∃ n2, na + 1 = n2 := ⟨_, rfl⟩
            have hl2 : NL2.length = n2 := by
              have h1 := congrArg List.length hx2
              have h2 := congrArg List.length Hx1.out
              rw [List.length_map, Hl1.out] at h2
              rw [List.length_map, insR_len] at h1
              omega
            rw [hn2] at hown ⊢
            have hSm := sameNodes_any B5 A2 nb n2 b5 c2 L5 NL2 Hl5.out hl2 hbl (by unfold maxLen; omega) w6 (Has.of_own (own_next Ho5.out hb6)) (Has.of_own hown) (fun e he => (((Ht5.out e he).next hb6).ok).1) (fun e he => ((htk e he).ok).1)
            rw [decide_eq_true (by rw [Hx5.out, HNd.out, hN2])] at hSm
            have hSm := Lib.hid hSm
            clear d0 d5 d6 d7
            have d0 : w6.cell? ⟨q8, 0, none⟩ = some (.int .i64 7) := by rw [← hk]; exact (K5.out.next hb6).cell 0
            have hb6 := Lib.hid hb6
            clear hx2 hi hN2 hok hfit hpl hnn h20 hown htk hn2 hl2 hJ
            go_wp2_with fail
            refine hSm.out.mono ?_
            rintro e9 w7 ⟨rfl, hb7⟩
            have hF7 := HF.out w7 (bnext hb5.out (bnext hb6.out hb7))
            clear hSm d0 hb7
            go_wp2_with fail
            go_roundw
            case rel => exact ⟨j + 1, by omega, by go_num, hF7.1, hF7.2⟩
            case measure => simp [intOf]; omega
          · have hk : e.kind < 1 ∨ (7 < e.kind ∧ ¬ e.kind < 1) := by have h1 : e.kind < 1 ∨ 7 < e.kind := hk; omega
            subst hf
            have b7 : (e.kind == 7) = false := by rw [beq_eq_false_iff_ne]; omega
            have hJ := Lib.hid (leave_any B1 na b1 L1 Hl1.out (fun e => by subst e; exact (own_nil Ho1.out).2) (own_len Ho1.out).1 hal e.nm w5 (Has.of_own Ho1.out) (fun e he => (Ht1.out e he).ok))
            have HE := Lib.hid hE
            have HNd := Lib.hid hNd
            clear hE hNd
            rcases hk with hk | ⟨hk, hk1⟩
            all_goals
              go_wp2_with fail
              refine hJ.out.mono ?_
              rintro e9 w6 ⟨v, rfl, hc, hb6⟩
              rcases hc with ⟨ee, he, _, rfl, _, hE2⟩ | ⟨i, A2, c2, NL2, hok, hil, hnm, hfst, rfl, hx2, hown, htk⟩
              · rw [Hx1.out] at hE2
                exact absurd (hE2.trans HE.out) he
              have hN2 : NL2.map NodE.x = leaveNd hs.nodes e.s.nm := by
                rw [hx2]
                refine (erase_key hok.2.2 (by rw [List.length_map]; exact hil) ?_).trans (by rw [Hx1.out]; rfl)
                rw [List.getElem_map, ← at_eq hil]
                exact hnm
              obtain ⟨n2, hn2⟩ : ∃ n2, na - 1 = n2 := ⟨_, rfl⟩
              have hl2 : NL2.length = n2 := by
                have h1 := congrArg List.length hx2
                rw [List.length_map, List.length_eraseIdx, if_pos (by rw [List.length_map]; exact hil), List.length_map, Hl1.out] at h1
                omega
              rw [Hl1.out, hn2] at hown ⊢
              have hSm := sameNodes_any B5 A2 nb n2 b5 c2 L5 NL2 Hl5.out hl2 hbl (by unfold maxLen; omega) w6 (Has.of_own (own_next Ho5.out hb6)) (Has.of_own hown) (fun e he => (((Ht5.out e he).next hb6).ok).1) (fun e he => ((htk e he).ok).1)
              rw [decide_eq_true (by rw [Hx5.out, HNd.out, hN2])] at hSm
              have hSm := Lib.hid hSm
              clear d0 d5 d6 d7
              have d0 : w6.cell? ⟨q8, 0, none⟩ = some (.int .i64 e.kind) := (K5.out.next hb6).cell 0
              have hb6 := Lib.hid hb6
              clear hx2 hN2 hok hil hnm hfst hown htk hn2 hl2 hJ
              go_wp2_with fail
              refine hSm.out.mono ?_
              rintro e9 w7 ⟨rfl, hb7⟩
              have hF7 := HF.out w7 (bnext hb5.out (bnext hb6.out hb7))
              clear hSm d0 hb7
              go_wp2_with fail
              go_roundw
              case rel => exact ⟨j + 1, by omega, by go_num, hF7.1, hF7.2⟩
              case measure => simp [intOf]; omega
          · have hSm := sameNodes_any B5 B1 nb na b5 b1 L5 L1 Hl5.out Hl1.out hbl hal w5 (Has.of_own Ho5.out) (Has.of_own Ho1.out) (fun e he => ((Ht5.out e he).ok).1) (fun e he => ((Ht1.out e he).ok).1)
            rw [decide_eq_true (by rw [Hx5.out, hNd, Hx1.out])] at hSm
            have hSm := Lib.hid hSm
            have hg : (f == 0) = false ∨ (f = 0 ∧ (e.kind == 7) = false ∧ ¬ e.kind < 1 ∧ ¬ 7 < e.kind) := by
              have h1 : ¬ (f = 0 ∧ e.kind = 7) := hn1
              have h2 : ¬ (f = 0 ∧ (e.kind < 1 ∨ 7 < e.kind)) := hn2
              rw [beq_eq_false_iff_ne, beq_eq_false_iff_ne]
              omega
            clear hn1 hn2 hNd
            rcases hg with hg | ⟨rfl, hg1, hg2, hg3⟩
            all_goals
              go_wp2_with fail
              refine hSm.out.mono ?_
              rintro e9 w7 ⟨rfl, hb7⟩
              have hF7 := HF.out w7 (bnext hb5.out hb7)
              clear hSm d0 d5 d6 d7 hb7
              go_wp2_with fail
              go_roundw
              case rel => exact ⟨j + 1, by omega, by go_num, hF7.1, hF7.2⟩
              case measure => simp [intOf]; omega
        · obtain rfl : n = j := by omega
          have hz := hMj.out
          have hin := Hrun.out n (by omega)
          have hsm := Hsame.out n
          have hpl := Hplen.out n (by omega)
          rw [show (l.map StpE.s).take n = l.map StpE.s by rw [List.take_of_length_le]; rw [List.length_map, Hn.out]; exact Nat.le_refl _] at hz hin hsm hpl
          obtain ⟨hr, hhr⟩ : ∃ hr, runH h0 (l.map StpE.s) = hr := ⟨_, rfl⟩
          rw [hhr] at hz hin hsm
          obtain ⟨mb, NA, nc, NL, es, clock, kvs, ls, hh⟩ := hz
          have hNd := Lib.hid (hnodes_any w1.heap.size hb mb NA nc NL es clock kvs ls hr hin.ring wr hh)
          have hz0 : chkR (NL.map NodE.x) = 0 := by rw [hh.nodes]; exact chkR_iff.2 hin.ring
          have hNl : NL.length ≤ 20 := by have h1 := hin.ring.1; rw [← hh.nodes, List.length_map] at h1; exact h1
          obtain ⟨na, hna⟩ : ∃ na, NL.length = na := ⟨_, rfl⟩
          rw [hna] at hNl
          have Hna := Lib.hid hna
          have Hz0 := Lib.hid hz0
          clear hin hsm hpl hhr hh hna hz0
          go_wp2_with fail
          refine hNd.out.mono ?_
          rintro e9 w3 ⟨v, rfl, B1, b1, L1, rfl, hx1, ho1, ht1, hb3⟩
          rw [Hna.out] at ho1 ⊢
          have hl1 : L1.length = na := by have h1 := congrArg List.length hx1; rw [List.length_map, List.length_map, Hna.out] at h1; exact h1
          have hCk := rcheckN_any B1 na b1 L1 hl1 (by unfold maxLen; omega) w3 (Has.of_own ho1) (fun e he => (ht1 e he).ok)
          rw [hx1, Hz0.out] at hCk
          have hCk := Lib.hid hCk
          have hb3 := Lib.hid hb3
          clear hx1 ho1 ht1 hl1 hNd
          go_wp2_with fail
          refine hCk.out.mono ?_
          rintro e9 w4 ⟨rfl, hb4⟩
          have hb9 := Lib.hid (bnext hbj.out (bnext hb3.out hb4))
          clear hCk hb4
          go_wp2_with fail
          go_ret
          exact R1.mk rfl hb9.out
end Go.Proofs.YtihjgbhnlejhfaaGreatDoor
