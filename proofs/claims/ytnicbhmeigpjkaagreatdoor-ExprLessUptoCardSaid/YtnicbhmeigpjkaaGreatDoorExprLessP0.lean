/- Texts of the proof of ExprLess, joined (by merge.py). Conditions: each theorem's own hypotheses. -/
import Derived.Test.YtnicbhmeigpjkaaGreatDoorExprSumP15
import Derived.Test.YtnicbhmeigpjkaaGreatDoorExprSumP24
import Derived.Test.YtnicbhmeigpjkaaGreatDoorExprSumP27
import Derived.Test.YtnicbhmeigpjkaaGreatDoorExprSumP3
import Derived.Deep.CutRange
namespace Go.Proofs.YtnicbhmeigpjkaaGreatDoor
open Go.RowKit

theorem below_hidL {B : Nat} {a b : World} (h : Hid (Below B a b)) : Below B a b := h
theorem below_drewL {B : Nat} {a b : World} (h : Below B a b) (n : Nat) : Below B a (b.drewN n) := ⟨h.os, h.tape, h.output, h.size, h.block⟩
theorem setOL {w : World} {g q : Nat} {t : TypeId} {cs : Array Value} (h : Blk w g t cs) (hn : g ≠ q) (i : Nat) (u : Value) : Blk (w.setCell ⟨q, i, none⟩ u) g t cs := (Below.heap_setCell _ _ _ _ hn).trans h
theorem ApiAt.setL {w : World} {b1 b2 : Nat} {A : Option Addr} {n c : Nat} {es : List RowE} {l : List RowN} (h : ApiAt w b1 b2 A n c es l) {g : Nat} (h1 : g < b1) (h2 : g < b2) (i : Nat) (u : Value) : ApiAt (w.setCell ⟨g, i, none⟩ u) b1 b2 A n c es l :=
  ⟨h.len, h.map, ownsRow_setCell_below h.own (a := ⟨g, i, none⟩) h1 u, fun e he => ownsRow_setCell_below (h.labs e he) (a := ⟨g, i, none⟩) h2 u⟩
def lessE (k : Int) (g : Nat) (x y : ExE) : ExE := kidE k none 0 [] g [x, y]
theorem lessE_cnt (k : Int) (g : Nat) (x y : ExE) : (lessE k g x y).cnt = x.cnt + y.cnt + 1 := by
  rw [ExE.cnt_eq]
  show 1 + ExE.cntL [x, y] = _
  simp only [ExE.cntL]
  omega
theorem lessE_G {k : Int} (hk : in64 k) {w : World} {g : Nat} {x y : ExE} (hx : x.G w) (hy : y.G w) (h : Blk w g 28 (exCs [x, y]).toArray) : (lessE k g x y).G w :=
  kidE_G0 hk (fun u hu => by
    rcases List.mem_cons.1 hu with rfl | hu
    · exact hx
    · rw [List.mem_singleton.1 hu]; exact hy) (show 2 ≤ maxLen by unfold maxLen; omega) (Has.of_blk h)
theorem less_law1 {e : ExE} {g : Nat} {all : List (List Lab × List Smp)} {now : Int} {l1 l2 : List RowN} (h1 : evalN e all now = (l1, 0)) (h2 : evalN (lessE 7 g e e) all now = (l2, 0)) (hn : ∀ s ∈ all, ∀ x ∈ s.2, in64 x.v) (hnu : e.Nu) : l2 = l1.map fun y => (y.1, 0) := by
  obtain ⟨_, _, hA, _, _, e1⟩ := evalN_ok h1 hn
  obtain ⟨_, _, _, _, _, e2⟩ := evalN_ok h2 hn
  unfold lessE kidE at e2
  rw [ev_two _ _ _ _ _ (.inr (.inl rfl)), less_self all now hA hnu, ← e1] at e2
  exact e2
theorem less_law2 {e : ExE} {g g2 : Nat} {n : Int} {all : List (List Lab × List Smp)} {now : Int} {l1 l2 : List RowN} (h1 : evalN e all now = (l1, 0)) (h2 : evalN (lessE 7 g (lessE 6 g2 e (numE n)) (numE n)) all now = (l2, 0)) (hn : ∀ s ∈ all, ∀ x ∈ s.2, in64 x.v) (hnu : e.Nu) : l1 = l2 := by
  obtain ⟨_, _, hA, _, _, e1⟩ := evalN_ok h1 hn
  obtain ⟨_, _, _, _, _, e2⟩ := evalN_ok h2 hn
  unfold lessE kidE at e2
  rw [ev_two _ _ _ _ _ (.inr (.inl rfl)), ev_two _ _ _ _ _ (.inl rfl)] at e2
  unfold numE at e2
  rw [ev_num, add_less (RowsOk.ev hA now e hnu) (ev_up all now e)] at e2
  rw [e1, e2]
theorem keepL3 {w W : World} {a0 a1 a2 : Addr} {v0 v1 v2 : Value} (h : w.cell? a0 = some v0 ∧ w.cell? a1 = some v1 ∧ w.cell? a2 = some v2) (hb : Below w.heap.size w W) : W.cell? a0 = some v0 ∧ W.cell? a1 = some v1 ∧ W.cell? a2 = some v2 := by
  have k : ∀ {a : Addr} {v : Value}, w.cell? a = some v → W.cell? a = some v := fun h => (hb.cell (World.block_lt_of_cell? w _ h)).trans h
  obtain ⟨h0, h1, h2⟩ := h
  exact ⟨k h0, k h1, k h2⟩
set_option maxRecDepth 1000000 in
set_option maxHeartbeats 8000000 in
theorem exprLess_any (e y : ExE) (now : Int) (hnow : in64 now) (SA : Option Addr) (sn sc : Nat) (ss : List SerE) (hn : ss.length = sn) (hs1 : sn ≤ sc) (hs2 : sc ≤ maxLen) (w : World) (hG : e.G w) (hk : e.cnt + 4 ≤ 1048576) (hGy : y.G w) (hgood : ∀ s ∈ ss, s.good w) (has : Has w w.heap.size SA (sersC ss)) (tS : SgAt w) (hlen : LenAt w) :
    Calls Tryz.prog 7 #[exV e, exV y, .slice SA sn sc, .int .i64 now] w (R1 (.bool true) (Below w.heap.size w)) := by
  have HX := Lib.hid (fun (w' : World) => exprs_any w')
  obtain ⟨W0, hW0⟩ : ∃ W0, (w.alloc (.cells #[.int .i64 e.kind, .int .i64 e.n, .int .i64 e.w, .slice e.ma e.m.length e.mc, .slice e.ba e.b.length e.bc, .slice e.xa e.x.length e.xc] 28)).alloc (.cells #[.int .i64 y.kind, .int .i64 y.n, .int .i64 y.w, .slice y.ma y.m.length y.mc, .slice y.ba y.b.length y.bc, .slice y.xa y.x.length y.xc] 28) = W0 := ⟨_, rfl⟩
  obtain ⟨q, hq⟩ : ∃ q, w.heap.size = q := ⟨_, rfl⟩
  have hb0 : Below w.heap.size w W0 := by rw [← hW0]; exact bnext (one_allocB _ _) (one_allocB _ _)
  have kx : Blk W0 q 28 #[.int .i64 e.kind, .int .i64 e.n, .int .i64 e.w, .slice e.ma e.m.length e.mc, .slice e.ba e.b.length e.bc, .slice e.xa e.x.length e.xc] := by rw [← hW0]; exact Blk.next (Blk.newM _ _ _ _ hq) (one_allocB _ _)
  have ky : Blk W0 (q + 1) 28 #[.int .i64 y.kind, .int .i64 y.n, .int .i64 y.w, .slice y.ma y.m.length y.mc, .slice y.ba y.b.length y.bc, .slice y.xa y.x.length y.xc] := by rw [← hW0]; exact Blk.newM _ _ _ _ (by simp [hq])
  have hyn : in64 y.n := hGy.own.n
  have hnum : ∀ s ∈ sersX ss, ∀ x ∈ s.2, in64 x.v := fun s hs x hx => by
    obtain ⟨y, hy, rfl⟩ := List.mem_map.1 hs
    exact ((hgood y hy).xs x hx).2
  have hNu := ExE.G.nu e hG
  have HL1 := Lib.hid (fun (g : Nat) (l1 l2 : List RowN) (h1 : evalN e (sersX ss) now = (l1, 0)) (h2 : evalN (lessE 7 g e e) (sersX ss) now = (l2, 0)) => less_law1 h1 h2 hnum hNu)
  have HL2 := Lib.hid (fun (g g2 : Nat) (l1 l2 : List RowN) (h1 : evalN e (sersX ss) now = (l1, 0)) (h2 : evalN (lessE 7 g (lessE 6 g2 e (numE y.n)) (numE y.n)) (sersX ss) now = (l2, 0)) => less_law2 h1 h2 hnum hNu)
  have HE := Lib.hid (fun (u : ExE) (w' : World) (hb : Below w.heap.size w w') (hu : u.G w') (hc : u.cnt ≤ 1099511627776) => xEval_any u SA sn sc ss hn hs1 hs2 now hnow w' hu hc (fun s hs => (hgood s hs).next hb) (has.next hb) (tS.next hb) (hlen.next hb))
  have HW0 := Lib.hid hW0
  have Hq := Lib.hid hq
  replace hb0 := Lib.hid hb0
  replace kx := Lib.hid kx
  replace ky := Lib.hid ky
  replace hG := Lib.hid hG
  replace hyn := Lib.hid hyn
  clear hW0 hq hnum hNu hgood has tS hlen hGy
  unfold exV
  go_enter Tryz.func7, Tryz.ntmps7
  go_upto_region 1 with fail
  rw [Hq.out, HW0.out]
  go_wp2_with fail
  refine (HX.out _).mono ?_
  rintro e1 w1 ⟨rfl, hb1⟩
  have kx1 := kx.out.next hb1
  have ky1 := Lib.hid (ky.out.next hb1)
  replace hb1 := Lib.hid (bnext (below_hidL hb0) hb1)
  have x0 : w1.cell? ⟨q, 0, none⟩ = some (.int .i64 e.kind) := kx1.cell 0
  have x1 : w1.cell? ⟨q, 1, none⟩ = some (.int .i64 e.n) := kx1.cell 1
  have x2 : w1.cell? ⟨q, 2, none⟩ = some (.int .i64 e.w) := kx1.cell 2
  have x3 : w1.cell? ⟨q, 3, none⟩ = some (.slice e.ma e.m.length e.mc) := kx1.cell 3
  have x4 : w1.cell? ⟨q, 4, none⟩ = some (.slice e.ba e.b.length e.bc) := kx1.cell 4
  have x5 : w1.cell? ⟨q, 5, none⟩ = some (.slice e.xa e.x.length e.xc) := kx1.cell 5
  obtain ⟨N1, hN1⟩ : ∃ N, evalN e (sersX ss) now = N := ⟨_, rfl⟩
  have hE := HE.out e w1 (below_hidL hb1) (ExE.G.next (below_hidL hb1) e hG.out) (by omega)
  rw [hN1] at hE
  unfold exV at hE
  replace hE := Lib.hid hE
  have HN1 := Lib.hid hN1
  replace kx1 := Lib.hid kx1
  clear hN1
  go_wp2_with fail
  refine hE.out.mono ?_
  rintro e1 w2 ⟨u2, rfl, A2, n2, c2, es2, rfl, hA2, hb2⟩
  have kx2 := kx1.out.next hb2
  have ky2 := Lib.hid (ky1.out.next hb2)
  replace hA2 := Lib.hid hA2
  replace hb2 := Lib.hid (bnext (below_hidL hb1) hb2)
  have y0 : w2.cell? ⟨q, 0, none⟩ = some (.int .i64 e.kind) := kx2.cell 0
  have y1 : w2.cell? ⟨q, 1, none⟩ = some (.int .i64 e.n) := kx2.cell 1
  have y2 : w2.cell? ⟨q, 2, none⟩ = some (.int .i64 e.w) := kx2.cell 2
  have y3 : w2.cell? ⟨q, 3, none⟩ = some (.slice e.ma e.m.length e.mc) := kx2.cell 3
  have y4 : w2.cell? ⟨q, 4, none⟩ = some (.slice e.ba e.b.length e.bc) := kx2.cell 4
  have y5 : w2.cell? ⟨q, 5, none⟩ = some (.slice e.xa e.x.length e.xc) := kx2.cell 5
  obtain ⟨q3, hq3⟩ : ∃ q3, w2.heap.size = q3 := ⟨_, rfl⟩
  obtain ⟨W3, hW3⟩ : ∃ W3, w2.alloc (.cells #[.int .i64 e.kind, .int .i64 e.n, .int .i64 e.w, .slice e.ma e.m.length e.mc, .slice e.ba e.b.length e.bc, .slice e.xa e.x.length e.xc, .int .i64 e.kind, .int .i64 e.n, .int .i64 e.w, .slice e.ma e.m.length e.mc, .slice e.ba e.b.length e.bc, .slice e.xa e.x.length e.xc] 28) = W3 := ⟨_, rfl⟩
  have hb23 : Below w2.heap.size w2 W3 := by rw [← hW3]; exact one_allocB _ _
  have k3 : Blk W3 q3 28 #[.int .i64 e.kind, .int .i64 e.n, .int .i64 e.w, .slice e.ma e.m.length e.mc, .slice e.ba e.b.length e.bc, .slice e.xa e.x.length e.xc, .int .i64 e.kind, .int .i64 e.n, .int .i64 e.w, .slice e.ma e.m.length e.mc, .slice e.ba e.b.length e.bc, .slice e.xa e.x.length e.xc] := by rw [← hW3]; exact Blk.newM _ _ _ _ hq3
  have hb3 := bnext (below_hidL hb2) hb23
  have hG3 : (lessE 7 q3 e e).G W3 := lessE_G (show in64 7 from ⟨by decide, by decide⟩) (ExE.G.next hb3 e hG.out) (ExE.G.next hb3 e hG.out) k3
  have hE3 := HE.out (lessE 7 q3 e e) W3 hb3 hG3 (by rw [lessE_cnt]; omega)
  obtain ⟨N3, hN3⟩ : ∃ N, evalN (lessE 7 q3 e e) (sersX ss) now = N := ⟨_, rfl⟩
  rw [hN3] at hE3
  replace hE3 : Calls Tryz.prog 13 #[.agg #[.int .i64 7, .int .i64 0, .int .i64 0, .slice none 0 0, .slice none 0 0, .slice (some ⟨q3, 0, none⟩) 2 2], .slice SA sn sc, .int .i64 now] W3 (RV (EvalP N3 W3)) := hE3
  have hlaw1 := Lib.hid (fun (l1 l2 : List RowN) (h1 : N1 = (l1, 0)) (h2 : N3 = (l2, 0)) => HL1.out q3 l1 l2 (HN1.out.trans h1) (hN3.trans h2))
  replace hE3 := Lib.hid hE3
  have kx3 := Lib.hid (kx2.next hb23)
  have ky3 := Lib.hid (ky2.out.next hb23)
  replace hb23 := Lib.hid hb23
  replace hb3 := Lib.hid hb3
  have HW3 := Lib.hid hW3
  have Hq3 := Lib.hid hq3
  clear hG3 k3 kx2 hW3 hq3 x0 x1 x2 x3 x4 x5 hE hN3 HL1
  go_wp2_with fail
  rw [Hq3.out, HW3.out]
  refine hE3.out.mono ?_
  rintro e1 w4 ⟨u4, rfl, A4, n4, c4, es4, rfl, hA4, hb4⟩
  have hA24 := Lib.hid (hA2.out.next (bnext (below_hidL hb23) hb4))
  have kx4 := Lib.hid (kx3.out.next hb4)
  have ky4 := Lib.hid (ky3.out.next hb4)
  replace hA4 := Lib.hid hA4
  replace hb4 := Lib.hid (bnext (below_hidL hb3) hb4)
  clear y0 y1 y2 y3 y4 y5 hE3
  obtain ⟨r1, hr1⟩ : ∃ r, N1.2 = r := ⟨_, rfl⟩
  obtain ⟨r3, hr3⟩ : ∃ r, N3.2 = r := ⟨_, rfl⟩
  rw [hr1, hr3]
  obtain ⟨q5, hq5⟩ : ∃ q5, w4.heap.size = q5 := ⟨_, rfl⟩
  obtain ⟨W5, hW5⟩ : ∃ W5, w4.alloc (.cells #[.int .i64 r1, .int .i64 r3] 31) = W5 := ⟨_, rfl⟩
  have hb45 : Below w4.heap.size w4 W5 := by rw [← hW5]; exact one_allocB _ _
  have k5 : Blk W5 q5 31 #[.int .i64 r1, .int .i64 r3] := by rw [← hW5]; exact Blk.newM _ _ _ _ hq5
  have hGd := good_any (some ⟨q5, 0, none⟩) 2 2 [r1, r3] rfl (by simp) W5 (Has.of_blk k5)
  obtain ⟨gd, hgd⟩ : ∃ gd, [r1, r3].all (· == 0) = gd := ⟨_, rfl⟩
  rw [hgd] at hGd
  replace hGd := Lib.hid hGd
  replace hgd := Lib.hid hgd
  replace hr1 := Lib.hid hr1
  replace hr3 := Lib.hid hr3
  replace hb45 := Lib.hid hb45
  have HW5 := Lib.hid hW5
  have Hq5 := Lib.hid hq5
  clear k5 hW5 hq5
  go_upto_if 38 with fail
  rw [Hq5.out, HW5.out]
  refine hGd.out.mono ?_
  rintro e1 w6 ⟨rfl, nd, rfl⟩
  obtain ⟨w6, hw6⟩ : ∃ w6, W5.drewN nd = w6 := ⟨_, rfl⟩
  have hb46 : Below w4.heap.size w4 w6 := by rw [← hw6]; exact below_drewL (below_hidL hb45) nd
  have hA26 := Lib.hid (hA24.out.next hb46)
  have hA46 := Lib.hid (hA4.out.next hb46)
  have kx6 := Lib.hid (kx4.out.next hb46)
  have ky6 := Lib.hid (ky4.out.next hb46)
  have hb6 := Lib.hid (bnext (below_hidL hb4) hb46)
  have Hw6 := Lib.hid hw6
  have hc2 := own_len hA26.out.own
  have hc4 := own_len hA46.out.own
  have hn2m : n2 ≤ maxLen := by omega
  have hn4m : n4 ≤ maxLen := by omega
  clear hb46 hw6 hA24 hA4 kx4 ky4 hb45 hc2 hc4
  go_upto_if 38 with fail
  rw [Hw6.out]
  go_cut [] from 39 to 69 (fun wx => Hid (Below w6.heap.size w6 wx))
  case first =>
    cases gd with
    | false =>
      go_wp2_with fail
      go_meet
      case rel => exact Lib.hid (Below.refl _ _)
    | true =>
      have hz : r1 = 0 ∧ r3 = 0 := by simpa using hgd.out
      obtain ⟨rfl, rfl⟩ := hz
      have hl1 : N3.1 = N1.1.map fun y => (y.1, 0) := hlaw1.out N1.1 N3.1 (Prod.ext rfl hr1.out) (Prod.ext rfl hr3.out)
      have e2 := hA26.out.lenN
      have e4 := hA46.out.lenN
      have hnn : n4 = n2 := by rw [← e4, ← e2, hl1, List.length_map]
      subst hnn
      replace hl1 := Lib.hid hl1
      have hn4' := hn4m
      unfold maxLen at hn4'
      clear e2 e4
      go_wp2_with fail
      go_loopw [46] (fun i wr => ∃ (j : Nat), j ≤ n4 ∧ i = .int .i64 (j : Nat) ∧ Hid (Below w6.heap.size w6 wr)) (fun i _ => n4 + 5 - (intOf i).toNat)
      case atStart => exact ⟨0, by omega, rfl, Lib.hid (Below.refl _ _)⟩
      case round =>
        obtain ⟨j, hj, rfl, hbr⟩ := hrel
        by_cases hlt : (j : Int) < (n4 : Int)
        · have h1 := hA26.out.next (below_hidL hbr)
          have h3 := hA46.out.next (below_hidL hbr)
          have hj2 : j < es2.length := by rw [h1.len]; omega
          have hj4 : j < es4.length := by rw [h3.len]; omega
          have hjn : j < N1.1.length := by rw [h1.lenN]; omega
          obtain ⟨ad, had, _, a0, _⟩ := apiCs_cells (Has.of_own h1.own) hj2
          obtain ⟨bd, hbd, _, b0, b1⟩ := apiCs_cells (Has.of_own h3.own) hj4
          have hla := h1.labs _ (at_mem hj2)
          have hlb := h3.labs _ (at_mem hj4)
          have hra : at_ N1.1 j = (at_ es2 j).r := by rw [← h1.map, map_at hj2]
          have hrb : (at_ es4 j).r = ((at_ es2 j).r.1, 0) := by
            rw [← map_at hj4, h3.map, hl1.out, at_eq (by rw [List.length_map]; exact hjn), List.getElem_map, ← at_eq hjn, hra]
          obtain ⟨xa, hxa⟩ : ∃ x, at_ es2 j = x := ⟨_, rfl⟩
          obtain ⟨xb, hxb⟩ : ∃ x, at_ es4 j = x := ⟨_, rfl⟩
          rw [hxa] at a0 hla hrb
          rw [hxb] at b0 b1 hlb hrb
          unfold RowOwn at hla hlb
          rw [hrb] at b0 b1 hlb
          simp only [] at b0 b1 hlb
          obtain ⟨L, hL⟩ : ∃ L, xa.r.1 = L := ⟨_, rfl⟩
          rw [hL] at a0 b0 hla hlb
          obtain ⟨ln, hln⟩ : ∃ ln, L.length = ln := ⟨_, rfl⟩
          rw [hln] at a0 b0 hla hlb
          obtain ⟨k1, k2⟩ := own_len hla
          obtain ⟨k3, k4⟩ := own_len hlb
          have HS := fun (w' : World) (hb : Below wr.heap.size wr w') => sameLabN_any xa.A xb.A ln ln xa.c xb.c L L hln hln (by omega) (by omega) w' ((Has.of_own hla).next hb) ((Has.of_own hlb).next hb)
          rw [decide_eq_true (rfl : L = L)] at HS
          subst had hbd
          have hS0 : wr.cell? ⟨(bd.add (j * 2)).block, (bd.add (j * 2)).off + 1, none⟩ = some (.int .i64 0) ∧ wr.cell? (ad.add (j * 2)) = some (.slice xa.A ln xa.c) ∧ wr.cell? (bd.add (j * 2)) = some (.slice xb.A ln xb.c) := ⟨b1, a0, b0⟩
          have q1 : (0 : Int) ≤ (j : Int) := by omega
          replace HS := Lib.hid HS
          clear h1 h3 hj2 hj4 hjn hla hlb hra hrb hxa hxb hL hln a0 b0 b1 k1 k2 k3 k4
          go_upto_region 11 with fail
          go_region_held_law (fun w' => w'.cell? ⟨(bd.add (j * 2)).block, (bd.add (j * 2)).off + 1, none⟩ = some (.int .i64 0) ∧ w'.cell? (ad.add (j * 2)) = some (.slice xa.A ln xa.c) ∧ w'.cell? (bd.add (j * 2)) = some (.slice xb.A ln xb.c))
            (first | exact hS0 | (refine keepL3 hS0 ?_; (repeat' (first | with_reducible exact hbE | with_reducible exact Below.refl _ _ | with_reducible refine below_drewM ?_ | with_reducible refine below_allocM ?_ _)); done))
            (first
              | (go_at_call 17
                 refine (HS.out _ (by (repeat' (first | with_reducible exact Below.refl _ _ | with_reducible refine below_drewM ?_ | with_reducible refine below_allocM ?_ _)); done)).mono ?_
                 rintro e9 w9 ⟨rfl, nd9, hw9⟩
                 have hbE : Below wr.heap.size wr w9 := by rw [hw9]; exact below_drewL (by (repeat' (first | with_reducible exact Below.refl _ _ | with_reducible refine below_drewM ?_ | with_reducible refine below_allocM ?_ _)); done) nd9))
          all_goals
            clear hS0
            go_wp2_with fail
            go_roundw
            case rel => exact ⟨j + 1, by omega, by go_num, Lib.hid (below_drewL (below_hidL hbr) _)⟩
            case measure => simp [intOf]; omega
        · go_wp2_with fail
          go_meet
          case rel => exact hbr
  case rest =>
    have kxc := kx6.out.next (below_hidL hcut)
    have kyc := ky6.out.next (below_hidL hcut)
    have hAc := hA26.out.next (below_hidL hcut)
    have hbc := bnext (below_hidL hb6) (below_hidL hcut)
    have hqw1 : q + 1 < w1.heap.size := ky1.out.lt
    have y0 := kyc.cell 0
    have y1 := kyc.cell 1
    have y2 := kyc.cell 2
    have y3 := kyc.cell 3
    have y4 := kyc.cell 4
    have y5 := kyc.cell 5
    have f0 := kyc.frozen 0
    have f1 := kyc.frozen 1
    have f2 := kyc.frozen 2
    have f3 := kyc.frozen 3
    have f4 := kyc.frozen 4
    have f5 := kyc.frozen 5
    obtain ⟨W8, hW8⟩ : ∃ W, (((((wc.setCell ⟨q + 1, 0, none⟩ (.int .i64 1)).setCell ⟨q + 1, 1, none⟩ (.int .i64 y.n)).setCell ⟨q + 1, 2, none⟩ (.int .i64 0)).setCell ⟨q + 1, 3, none⟩ (.slice none 0 0)).setCell ⟨q + 1, 4, none⟩ (.slice none 0 0)).setCell ⟨q + 1, 5, none⟩ (.slice none 0 0) = W := ⟨_, rfl⟩
    have ky8 : Blk W8 (q + 1) 28 #[.int .i64 1, .int .i64 y.n, .int .i64 0, .slice none 0 0, .slice none 0 0, .slice none 0 0] := by rw [← hW8]; exact (((((kyc.set 0 (.int .i64 1)).set 1 (.int .i64 y.n)).set 2 (.int .i64 0)).set 3 (.slice none 0 0)).set 4 (.slice none 0 0)).set 5 (.slice none 0 0)
    have kx8 : Blk W8 q 28 #[.int .i64 e.kind, .int .i64 e.n, .int .i64 e.w, .slice e.ma e.m.length e.mc, .slice e.ba e.b.length e.bc, .slice e.xa e.x.length e.xc] := by rw [← hW8]; exact setOL (setOL (setOL (setOL (setOL (setOL kxc (by omega) _ _) (by omega) _ _) (by omega) _ _) (by omega) _ _) (by omega) _ _) (by omega) _ _
    have hA8 := ApiAt.setL (ApiAt.setL (ApiAt.setL (ApiAt.setL (ApiAt.setL (ApiAt.setL hAc hqw1 hqw1 0 (.int .i64 1)) hqw1 hqw1 1 (.int .i64 y.n)) hqw1 hqw1 2 (.int .i64 0)) hqw1 hqw1 3 (.slice none 0 0)) hqw1 hqw1 4 (.slice none 0 0)) hqw1 hqw1 5 (.slice none 0 0)
    rw [hW8] at hA8
    have hb8 : Below w.heap.size w W8 := by
      rw [← hW8]
      have hl : w.heap.size ≤ q + 1 := by rw [Hq.out]; omega
      exact (((((hbc.setCell (p := ⟨q + 1, 0, none⟩) hl _).setCell (p := ⟨q + 1, 1, none⟩) hl _).setCell (p := ⟨q + 1, 2, none⟩) hl _).setCell (p := ⟨q + 1, 3, none⟩) hl _).setCell (p := ⟨q + 1, 4, none⟩) hl _).setCell (p := ⟨q + 1, 5, none⟩) hl _
    obtain ⟨g, hg⟩ : ∃ g, W8.heap.size = g := ⟨_, rfl⟩
    obtain ⟨W9, hW9⟩ : ∃ W, (W8.alloc (.cells #[.int .i64 e.kind, .int .i64 e.n, .int .i64 e.w, .slice e.ma e.m.length e.mc, .slice e.ba e.b.length e.bc, .slice e.xa e.x.length e.xc, .int .i64 1, .int .i64 y.n, .int .i64 0, .slice none 0 0, .slice none 0 0, .slice none 0 0] 28)).alloc (.cells #[.int .i64 6, .int .i64 0, .int .i64 0, .slice none 0 0, .slice none 0 0, .slice (some ⟨g, 0, none⟩) 2 2, .int .i64 1, .int .i64 y.n, .int .i64 0, .slice none 0 0, .slice none 0 0, .slice none 0 0] 28) = W := ⟨_, rfl⟩
    have kg : Blk W9 g 28 #[.int .i64 e.kind, .int .i64 e.n, .int .i64 e.w, .slice e.ma e.m.length e.mc, .slice e.ba e.b.length e.bc, .slice e.xa e.x.length e.xc, .int .i64 1, .int .i64 y.n, .int .i64 0, .slice none 0 0, .slice none 0 0, .slice none 0 0] := by rw [← hW9]; exact Blk.next (Blk.newM _ _ _ _ hg) (one_allocB _ _)
    have kg2 : Blk W9 (g + 1) 28 #[.int .i64 6, .int .i64 0, .int .i64 0, .slice none 0 0, .slice none 0 0, .slice (some ⟨g, 0, none⟩) 2 2, .int .i64 1, .int .i64 y.n, .int .i64 0, .slice none 0 0, .slice none 0 0, .slice none 0 0] := by rw [← hW9]; exact Blk.newM _ _ _ _ (by simp [hg])
    have hb89 : Below W8.heap.size W8 W9 := by rw [← hW9]; exact bnext (one_allocB _ _) (one_allocB _ _)
    have hb9 := bnext hb8 hb89
    have hGe9 := ExE.G.next hb9 e hG.out
    have hin : (lessE 6 g e (numE y.n)).G W9 := lessE_G (show in64 6 from ⟨by decide, by decide⟩) hGe9 (numE_G hyn.out _) kg
    have hout : (lessE 7 (g + 1) (lessE 6 g e (numE y.n)) (numE y.n)).G W9 := lessE_G (show in64 7 from ⟨by decide, by decide⟩) hin (numE_G hyn.out _) kg2
    have hE9 := HE.out (lessE 7 (g + 1) (lessE 6 g e (numE y.n)) (numE y.n)) W9 hb9 hout (by rw [lessE_cnt, lessE_cnt, numE_cnt]; omega)
    obtain ⟨N5, hN5⟩ : ∃ N, evalN (lessE 7 (g + 1) (lessE 6 g e (numE y.n)) (numE y.n)) (sersX ss) now = N := ⟨_, rfl⟩
    rw [hN5] at hE9
    replace hE9 : Calls Tryz.prog 13 #[.agg #[.int .i64 7, .int .i64 0, .int .i64 0, .slice none 0 0, .slice none 0 0, .slice (some ⟨g + 1, 0, none⟩) 2 2], .slice SA sn sc, .int .i64 now] W9 (RV (EvalP N5 W9)) := hE9
    have hlaw2 := Lib.hid (fun (l1 l2 : List RowN) (h1 : N1 = (l1, 0)) (h2 : N5 = (l2, 0)) => HL2.out (g + 1) g l1 l2 (HN1.out.trans h1) (hN5.trans h2))
    have x0 := kx8.cell 0
    have x1 := kx8.cell 1
    have x2 := kx8.cell 2
    have x3 := kx8.cell 3
    have x4 := kx8.cell 4
    have x5 := kx8.cell 5
    have z0 := ky8.cell 0
    have z1 := ky8.cell 1
    have z2 := ky8.cell 2
    have z3 := ky8.cell 3
    have z4 := ky8.cell 4
    have z5 := ky8.cell 5
    have hq8 := kx8.lt
    have hq18 := ky8.lt
    have hA9 := Lib.hid (hA8.next hb89)
    replace hb9 := Lib.hid hb9
    replace hE9 := Lib.hid hE9
    have HW8 := Lib.hid hW8
    have HW9 := Lib.hid hW9
    have Hg := Lib.hid hg
    clear hW8 hW9 hg kxc kyc hAc hbc hA8 hb8 kg kg2 hb89 hGe9 hin hout hN5 kx8 ky8 hA46 hlaw1 hgd hGd
    go_upto_region 15 with fail
    rw [HW8.out]
    clear y0 y1 y2 y3 y4 y5 f0 f1 f2 f3 f4 f5
    go_wp2_with fail
    rw [Hg.out, HW9.out]
    refine hE9.out.mono ?_
    rintro e1 w16 ⟨u4, rfl, A6, n6, c6, es6, rfl, hA6, hb16⟩
    have hA96 := hA9.out.next hb16
    have hc6 := own_len hA6.own
    have hn6 : n6 ≤ maxLen := by omega
    replace hA96 := Lib.hid hA96
    replace hA6 := Lib.hid hA6
    have hb16w := Lib.hid (bnext (below_hidL hb9) hb16)
    clear x0 x1 x2 x3 x4 x5 z0 z1 z2 z3 z4 z5 hc6 hb16
    obtain ⟨r5, hr5⟩ : ∃ r, N5.2 = r := ⟨_, rfl⟩
    rw [hr5]
    obtain ⟨q7, hq7⟩ : ∃ q7, w16.heap.size = q7 := ⟨_, rfl⟩
    obtain ⟨W7, hW7⟩ : ∃ W7, w16.alloc (.cells #[.int .i64 r1, .int .i64 r5] 31) = W7 := ⟨_, rfl⟩
    have hb67 : Below w16.heap.size w16 W7 := by rw [← hW7]; exact one_allocB _ _
    have k7 : Blk W7 q7 31 #[.int .i64 r1, .int .i64 r5] := by rw [← hW7]; exact Blk.newM _ _ _ _ hq7
    have hGd := good_any (some ⟨q7, 0, none⟩) 2 2 [r1, r5] rfl (by simp) W7 (Has.of_blk k7)
    obtain ⟨gd2, hgd⟩ : ∃ gd, [r1, r5].all (· == 0) = gd := ⟨_, rfl⟩
    rw [hgd] at hGd
    replace hGd := Lib.hid hGd
    replace hgd := Lib.hid hgd
    replace hr5 := Lib.hid hr5
    replace hb67 := Lib.hid hb67
    have HW7 := Lib.hid hW7
    have Hq7 := Lib.hid hq7
    clear k7 hW7 hq7
    go_wp2_with fail
    rw [Hq7.out, HW7.out]
    refine hGd.out.mono ?_
    rintro e1 w8 ⟨rfl, nd2, rfl⟩
    have hbF := Lib.hid (bnext (below_hidL hb16w) (below_drewL (below_hidL hb67) nd2))
    cases gd2 with
    | false =>
      go_wp2_with fail
      go_ret
      exact R1.mk rfl hbF.out
    | true =>
      have hz : r1 = 0 ∧ r5 = 0 := by simpa using hgd.out
      obtain ⟨rfl, rfl⟩ := hz
      have hlw : N1.1 = N5.1 := hlaw2.out N1.1 N5.1 (Prod.ext rfl hr1.out) (Prod.ext rfl hr5.out)
      have hS := sameRows_any A2 A6 n2 n6 c2 c6 N1.1 N5.1 es2 es6 _ _ _ _ hn2m hn6 (W7.drewN nd2) (hA96.out.next (below_drewL (below_hidL hb67) nd2)) (hA6.out.next (below_drewL (below_hidL hb67) nd2))
      rw [decide_eq_true hlw] at hS
      replace hS := Lib.hid hS
      clear hlw
      go_wp2_with fail
      refine hS.out.mono ?_
      rintro e1 w7 ⟨rfl, hb7⟩
      have hbG := Lib.hid (bnext (below_hidL hbF) hb7)
      go_wp2_with fail
      go_ret
      exact R1.mk rfl hbG.out
theorem exprLess_law (W : World) (e : ExE) (hG : e.G W) (hk : e.cnt + 4 ≤ 1048576) (y : ExE) (hGy : y.G W) (_hky : y.cnt + 4 ≤ 1048576) (A : Option Addr) (k : Nat) (ss : List SerE) (ok : ∀ s ∈ ss, s.good W) (lc : ss.length ≤ k) (cm : k ≤ maxLen) (_nil : A = none → k = 0) (has : Has W W.heap.size A (sersC ss)) (_reach : ss.length * 48 ≤ 140737488351232) (now : Int) (hnow : in64 now) (tS : SgAt W) (tM : LenAt W) :
    Calls Tryz.prog 7 #[exV e, exV y, .slice A ss.length k, .int .i64 now] W (R1 (.bool true) (Below W.heap.size W)) :=
  exprLess_any e y now hnow A ss.length k ss rfl lc cm W hG hk hGy ok has tS tM
end Go.Proofs.YtnicbhmeigpjkaaGreatDoor
