/- Texts of the proof of ExprOne, joined (by merge.py). Conditions: each theorem's own hypotheses. -/
import Derived.Test.YtnicbhmeigpjkaaGreatDoorExprOneP10
import Derived.Test.YtnicbhmeigpjkaaGreatDoorExprOneP11
import Derived.Test.YtnicbhmeigpjkaaGreatDoorExprOneP17
import Derived.Test.YtnicbhmeigpjkaaGreatDoorExprOneP19
import Derived.Test.YtnicbhmeigpjkaaGreatDoorExprOneP25
import Derived.Deep.CutRange
import Derived.BigQuiet
import Derived.Laws.StructEq
namespace Go.Proofs.YtnicbhmeigpjkaaGreatDoor
open Go.RowKit

theorem below_hidE {B : Nat} {a b : World} (h : Hid (Below B a b)) : Below B a b := h
theorem below_drewE {B : Nat} {a b : World} (h : Below B a b) (n : Nat) : Below B a (b.drewN n) := ⟨h.os, h.tape, h.output, h.size, h.block⟩
theorem eqMtS (k : Int) (a b : ByteArray) (w : World) : (Op.equalIn 10000 83 (.agg #[.int .i64 k, .string a, .string b]) (.agg #[.int .i64 k, .string a, .string b])).run Tryz.prog w = .ok true w := by
  have u3 := Tryz.underlying9
  have a3 := Tryz.isAgg9
  have z3 := Tryz.sizeOf9
  have u4 := Tryz.underlying3
  have a4 := Tryz.isAgg3
  have z4 := Tryz.sizeOf3
  have hS : Tryz.prog.underlying 83 = some (.struct (Tryz.prog.fieldsOf 83)) := by kernel_rfl
  have hp : Tryz.prog.stoodInHeld 83 = false := by kernel_rfl
  rw [show (10000 : Nat) = 9999 + 1 from rfl, run_equalIn_agg w 9999 83 _ _ hS hp]
  simp only [Program.fieldsOf, Tryz.underlying83]
  go_simp
set_option maxRecDepth 1000000 in
set_option maxHeartbeats 2000000 in
theorem equalMt_any (A B : Option Addr) (n c d : Nat) (L : List Mt) (hn : L.length = n) (hl : n ≤ maxLen) (w : World) (h : Has w w.heap.size A (mtCs L)) (h' : Has w w.heap.size B (mtCs L)) :
    Calls Tryz.prog 41 #[.slice A n c, .slice B n d] w (R1 (.bool true) (Below w.heap.size w)) := by
  unfold maxLen at hl
  have hA := Lib.hid h
  have hB := Lib.hid h'
  have Hn := Lib.hid hn
  have hq := eqMtS
  clear h h' hn
  go_enter Tryz.func41, Tryz.ntmps41
  go_wp2_with fail
  go_loopw [13] (fun i wr => ∃ k : Nat, k ≤ n ∧ i = .int .i64 (k : Nat) ∧ Below w.heap.size w wr) (fun i _ => n + 5 - (intOf i).toNat)
  case atStart => exact ⟨0, by omega, rfl, Below.refl _ _⟩
  case round =>
    obtain ⟨k, hk, rfl, hbr⟩ := hrel
    by_cases hlt : (k : Int) < (n : Int)
    · have hkL : k < L.length := by rw [Hn.out]; omega
      obtain ⟨ad, rfl, _, c0⟩ := (hA.out.next hbr).at (mtCs_0 hkL)
      obtain ⟨bd, rfl, _, d0⟩ := (hB.out.next hbr).at (mtCs_0 hkL)
      obtain ⟨ad', e', _, c1⟩ := (hA.out.next hbr).at (mtCs_1 hkL)
      injection e' with e'
      subst e'
      have c1 := cell_off c1 (by decide)
      obtain ⟨bd', e', _, d1⟩ := (hB.out.next hbr).at (mtCs_1 hkL)
      injection e' with e'
      subst e'
      have d1 := cell_off d1 (by decide)
      obtain ⟨ad', e', _, c2⟩ := (hA.out.next hbr).at (mtCs_2 hkL)
      injection e' with e'
      subst e'
      have c2 := cell_off c2 (by decide)
      obtain ⟨bd', e', _, d2⟩ := (hB.out.next hbr).at (mtCs_2 hkL)
      injection e' with e'
      subst e'
      have d2 := cell_off d2 (by decide)
      obtain ⟨x, hx⟩ : ∃ x, at_ L k = x := ⟨_, rfl⟩
      rw [hx] at c0 d0 c1 d1 c2 d2
      obtain ⟨kk, nm, v⟩ := x
      simp only [] at c0 d0 c1 d1 c2 d2
      have q1 : (0 : Int) ≤ (k : Int) := by omega
      clear hx
      go_wp2_with fail
      go_quiet (fail)
      go_wp2_with fail
      go_roundw
      case rel => exact ⟨k + 1, by omega, by go_num, below_drewN hbr _⟩
      case measure => simp [intOf]; omega
    · go_wp2_with fail
      go_ret
      exact R1.mk rfl hbr
def SmE (u v : ExE) : Prop := ∀ w : World, u.G w → v.G w → Calls Tryz.prog 23 #[exV u, exV v] w (R1 (.bool true) (Below w.heap.size w))
set_option maxRecDepth 1000000 in
set_option maxHeartbeats 8000000 in
theorem equalX_any (A B : Option Addr) (n c d : Nat) (x y : List ExE) (hx : x.length = n) (hy : y.length = n) (hl : n ≤ maxLen) (hs : ∀ i, i < n → SmE (at_ x i) (at_ y i)) (w : World) (h : Has w w.heap.size A (exCs x)) (h' : Has w w.heap.size B (exCs y)) (hgx : ∀ u ∈ x, u.G w) (hgy : ∀ u ∈ y, u.G w) :
    Calls Tryz.prog 43 #[.slice A n c, .slice B n d, Value.func (Fn.func 23) #[] #[]] w (R1 (.bool true) (Below w.heap.size w)) := by
  unfold maxLen at hl
  have hA := Lib.hid h
  have hB := Lib.hid h'
  have Hx := Lib.hid hx
  have Hy := Lib.hid hy
  replace hs := Lib.hid hs
  replace hgx := Lib.hid hgx
  replace hgy := Lib.hid hgy
  clear h h' hx hy
  go_enter Tryz.func43, Tryz.ntmps43
  go_wp2_with fail
  go_loopw [17] (fun i wr => ∃ j : Nat, j ≤ n ∧ i = .int .i64 (j : Nat) ∧ Hid (Below w.heap.size w wr)) (fun i _ => n + 5 - (intOf i).toNat)
  case atStart => exact ⟨0, by omega, rfl, Lib.hid (Below.refl _ _)⟩
  case round =>
    obtain ⟨j, hj, rfl, hbr⟩ := hrel
    by_cases hlt : (j : Int) < (n : Int)
    · have hj1 : j < x.length := by rw [Hx.out]; omega
      have hj2 : j < y.length := by rw [Hy.out]; omega
      obtain ⟨ad, rfl, hbk, c0, c1, c2, c3, c4, c5⟩ := exCs_cells (hA.out.next (below_hidE hbr)) hj1
      obtain ⟨bd, rfl, hbk', d0, d1, d2, d3, d4, d5⟩ := exCs_cells (hB.out.next (below_hidE hbr)) hj2
      have gu := ExE.G.next (below_hidE hbr) _ (hgx.out _ (at_mem hj1))
      have gv := ExE.G.next (below_hidE hbr) _ (hgy.out _ (at_mem hj2))
      have hsj := hs.out j (by omega)
      obtain ⟨u, hu⟩ : ∃ u, at_ x j = u := ⟨_, rfl⟩
      obtain ⟨v, hv⟩ : ∃ v, at_ y j = v := ⟨_, rfl⟩
      rw [hu] at c0 c1 c2 c3 c4 c5 gu hsj
      rw [hv] at d0 d1 d2 d3 d4 d5 gv hsj
      have uo := gu.own
      have u1 : u.m.length ≤ u.mc := uo.ml
      have u2 : u.mc ≤ maxLen := uo.mc
      have u3 : u.b.length ≤ u.bc := uo.bl
      have u4 : u.bc ≤ maxLen := uo.bc
      have u5 : u.x.length ≤ u.xc := uo.xl
      have u6 : u.xc ≤ maxLen := uo.xc
      have vo := gv.own
      have v1 : v.m.length ≤ v.mc := vo.ml
      have v2 : v.mc ≤ maxLen := vo.mc
      have v3 : v.b.length ≤ v.bc := vo.bl
      have v4 : v.bc ≤ maxLen := vo.bc
      have v5 : v.x.length ≤ v.xc := vo.xl
      have v6 : v.xc ≤ maxLen := vo.xc
      have q1 : (0 : Int) ≤ (j : Int) := by omega
      have hbd : (bd.add (j * 6)).block < wr.heap.size := by rw [add_block]; exact hbk'
      clear hu hv uo vo hj1 hj2
      obtain ⟨W6, hW6⟩ : ∃ W6, wr.alloc (.cells #[.int .i64 u.kind, .int .i64 u.n, .int .i64 u.w, .slice u.ma u.m.length u.mc, .slice u.ba u.b.length u.bc, .slice u.xa u.x.length u.xc] 28) = W6 := ⟨_, rfl⟩
      obtain ⟨q6, hq6⟩ : ∃ q6, wr.heap.size = q6 := ⟨_, rfl⟩
      have hb6 : Below wr.heap.size wr W6 := by rw [← hW6]; exact one_allocB _ _
      have k6 : Blk W6 q6 28 #[.int .i64 u.kind, .int .i64 u.n, .int .i64 u.w, .slice u.ma u.m.length u.mc, .slice u.ba u.b.length u.bc, .slice u.xa u.x.length u.xc] := by rw [← hW6]; exact Blk.newM _ _ _ _ hq6
      have e0 := (hb6.cell hbd).trans d0
      have e1 := (hb6.cell (p := ⟨(bd.add (j * 6)).block, (bd.add (j * 6)).off + 1, none⟩) hbd).trans d1
      have e2 := (hb6.cell (p := ⟨(bd.add (j * 6)).block, (bd.add (j * 6)).off + 2, none⟩) hbd).trans d2
      have e3 := (hb6.cell (p := ⟨(bd.add (j * 6)).block, (bd.add (j * 6)).off + 3, none⟩) hbd).trans d3
      have e4 := (hb6.cell (p := ⟨(bd.add (j * 6)).block, (bd.add (j * 6)).off + 4, none⟩) hbd).trans d4
      have e5 := (hb6.cell (p := ⟨(bd.add (j * 6)).block, (bd.add (j * 6)).off + 5, none⟩) hbd).trans d5
      obtain ⟨W7, hW7⟩ : ∃ W7, W6.alloc (.cells #[.int .i64 v.kind, .int .i64 v.n, .int .i64 v.w, .slice v.ma v.m.length v.mc, .slice v.ba v.b.length v.bc, .slice v.xa v.x.length v.xc] 28) = W7 := ⟨_, rfl⟩
      obtain ⟨q7, hq7⟩ : ∃ q7, W6.heap.size = q7 := ⟨_, rfl⟩
      have hb7 : Below W6.heap.size W6 W7 := by rw [← hW7]; exact one_allocB _ _
      have k7 : Blk W7 q7 28 #[.int .i64 v.kind, .int .i64 v.n, .int .i64 v.w, .slice v.ma v.m.length v.mc, .slice v.ba v.b.length v.bc, .slice v.xa v.x.length v.xc] := by rw [← hW7]; exact Blk.newM _ _ _ _ hq7
      have k67 := k6.next hb7
      have hb67 := bnext hb6 hb7
      have hC := hsj W7 (ExE.G.next hb67 _ gu) (ExE.G.next hb67 _ gv)
      unfold exV at hC
      have hbr7 := Lib.hid (bnext (below_hidE hbr) hb67)
      have HW6 := Lib.hid hW6
      have HW7 := Lib.hid hW7
      have Hq6 := Lib.hid hq6
      have Hq7 := Lib.hid hq7
      replace hC := Lib.hid hC
      replace k67 := Lib.hid k67
      replace k7 := Lib.hid k7
      clear hW6 hW7 hq6 hq7 k6 hb6 hb7 hb67 gu gv hsj hbd
      go_upto_region 6 with fail
      rw [HW6.out, Hq6.out]
      clear c0 c1 c2 c3 c4 c5 d0 d1 d2 d3 d4 d5
      go_upto_region 7 with fail
      rw [HW7.out, Hq7.out]
      clear e0 e1 e2 e3 e4 e5
      have x0 := k67.out.cell 0
      have x1 := k67.out.cell 1
      have x2 := k67.out.cell 2
      have x3 := k67.out.cell 3
      have x4 := k67.out.cell 4
      have x5 := k67.out.cell 5
      have y0 := k7.out.cell 0
      have y1 := k7.out.cell 1
      have y2 := k7.out.cell 2
      have y3 := k7.out.cell 3
      have y4 := k7.out.cell 4
      have y5 := k7.out.cell 5
      go_wp2_with fail
      refine hC.out.mono ?_
      rintro e w8 ⟨rfl, hb8⟩
      have hbr8 := Lib.hid (bnext (below_hidE hbr7) hb8)
      go_wp2_with fail
      go_roundw
      case rel => exact ⟨j + 1, by omega, by go_num, hbr8⟩
      case measure => simp [intOf]; omega
    · go_wp2_with fail
      go_ret
      exact R1.mk rfl (below_hidE hbr)
theorem bare_inj {u v : ExE} (h : v.bare = u.bare) : v.kind = u.kind ∧ v.n = u.n ∧ v.w = u.w ∧ v.m = u.m ∧ v.b = u.b ∧ v.x.map ExE.bare = u.x.map ExE.bare := by
  rw [ExE.bare_eq, ExE.bare_eq] at h
  unfold bx at h
  injection h with h1 h2 h3 h4 h5 h6 h7 h8 h9 h10 h11 h12
  rw [ExE.bareL_map, ExE.bareL_map] at h12
  exact ⟨h1, h2, h3, h6, h9, h12⟩
set_option maxRecDepth 1000000 in
set_option maxHeartbeats 8000000 in
theorem same_any : ∀ u v : ExE, v.bare = u.bare → SmE u v := by
  refine ExE.induct fun u ih => ?_
  intro v huv w hGu hGv
  obtain ⟨i1, i2, i3, i4, i5, i6⟩ := bare_inj huv
  have hsu := hGu.sub
  have hsv := hGv.sub
  have uo := hGu.own
  have vo := hGv.own
  have hlen : v.x.length = u.x.length := by have := congrArg List.length i6; rw [List.length_map, List.length_map] at this; exact this
  have hel : ∀ i, i < u.x.length → SmE (at_ u.x i) (at_ v.x i) := fun i hi => ih _ (at_mem hi) _ (by
    have h1 : at_ v.x i ∈ v.x := at_mem (by omega)
    have e1 : (v.x.map ExE.bare)[i]? = some (at_ v.x i).bare := by rw [List.getElem?_map, List.getElem?_eq_getElem (by omega), at_eq (show i < v.x.length by omega)]; rfl
    have e2 : (u.x.map ExE.bare)[i]? = some (at_ u.x i).bare := by rw [List.getElem?_map, List.getElem?_eq_getElem hi, at_eq hi]; rfl
    rw [i6, e2] at e1
    injection e1 with e1
    exact e1.symm)
  clear ih huv i6 hGu hGv
  unfold exV
  rw [i1, i2, i3, i4, i5, hlen]
  have u1 : u.m.length ≤ u.mc := uo.ml
  have u2 : u.mc ≤ maxLen := uo.mc
  have u3 : u.b.length ≤ u.bc := uo.bl
  have u4 : u.bc ≤ maxLen := uo.bc
  have u5 : u.x.length ≤ u.xc := uo.xl
  have u6 : u.xc ≤ maxLen := uo.xc
  have v1 : u.m.length ≤ v.mc := by rw [← i4]; exact vo.ml
  have v2 : v.mc ≤ maxLen := vo.mc
  have v3 : u.b.length ≤ v.bc := by rw [← i5]; exact vo.bl
  have v4 : v.bc ≤ maxLen := vo.bc
  have v5 : u.x.length ≤ v.xc := by rw [← hlen]; exact vo.xl
  have v6 : v.xc ≤ maxLen := vo.xc
  have hum := uo.mh
  have hub := uo.bh
  have hux := uo.xh
  have hvm := vo.mh
  have hvb := vo.bh
  have hvx := vo.xh
  rw [i4] at hvm
  rw [i5] at hvb
  obtain ⟨W0, hW0⟩ : ∃ W0, (w.alloc (.cells #[.int .i64 u.kind, .int .i64 u.n, .int .i64 u.w, .slice u.ma u.m.length u.mc, .slice u.ba u.b.length u.bc, .slice u.xa u.x.length u.xc] 28)).alloc (.cells #[.int .i64 u.kind, .int .i64 u.n, .int .i64 u.w, .slice v.ma u.m.length v.mc, .slice v.ba u.b.length v.bc, .slice v.xa u.x.length v.xc] 28) = W0 := ⟨_, rfl⟩
  obtain ⟨q, hq⟩ : ∃ q, w.heap.size = q := ⟨_, rfl⟩
  have hb0 : Below w.heap.size w W0 := by rw [← hW0]; exact bnext (one_allocB _ _) (one_allocB _ _)
  have ku : Blk W0 q 28 #[.int .i64 u.kind, .int .i64 u.n, .int .i64 u.w, .slice u.ma u.m.length u.mc, .slice u.ba u.b.length u.bc, .slice u.xa u.x.length u.xc] := by rw [← hW0]; exact Blk.next (Blk.newM _ _ _ _ hq) (one_allocB _ _)
  have kv : Blk W0 (q + 1) 28 #[.int .i64 u.kind, .int .i64 u.n, .int .i64 u.w, .slice v.ma u.m.length v.mc, .slice v.ba u.b.length v.bc, .slice v.xa u.x.length v.xc] := by rw [← hW0]; exact Blk.newM _ _ _ _ (by simp [hq])
  have x0 := ku.cell 0
  have x1 := ku.cell 1
  have x2 := ku.cell 2
  have x3 := ku.cell 3
  have x4 := ku.cell 4
  have x5 := ku.cell 5
  have y0 := kv.cell 0
  have y1 := kv.cell 1
  have y2 := kv.cell 2
  have y3 := kv.cell 3
  have y4 := kv.cell 4
  have y5 := kv.cell 5
  have HM := Lib.hid (equalMt_any u.ma v.ma u.m.length u.mc v.mc u.m rfl (by omega) W0 (hum.next hb0) (hvm.next hb0))
  have HB := fun (w' : World) (hb : Below w.heap.size w w') => equalS_any u.ba v.ba u.b.length u.b.length u.bc v.bc u.b u.b rfl rfl (by omega) (by omega) w' (hub.next hb) (hvb.next hb)
  rw [decide_eq_true (rfl : u.b = u.b)] at HB
  have HXX := Lib.hid (fun (w' : World) (hb : Below w.heap.size w w') => equalX_any u.xa v.xa u.x.length u.xc v.xc u.x v.x rfl hlen (by omega) hel w' (hux.next hb) (hvx.next hb) (fun y hy => ExE.G.next hb y (hsu y hy)) (fun y hy => ExE.G.next hb y (hsv y hy)))
  replace HB := Lib.hid HB
  have HW0 := Lib.hid hW0
  have Hq := Lib.hid hq
  replace hb0 := Lib.hid hb0
  replace ku := Lib.hid ku
  replace kv := Lib.hid kv
  clear hsu hsv uo vo hlen hel i1 i2 i3 i4 i5 hum hub hux hvm hvb hvx hW0 hq
  go_enter Tryz.func23, Tryz.ntmps23
  go_upto_region 1 with fail
  rw [Hq.out, HW0.out]
  go_wp2_with fail
  refine HM.out.mono ?_
  rintro e1 w1 ⟨rfl, hb1⟩
  have ku1 := ku.out.next hb1
  have kv1 := kv.out.next hb1
  have HB1 := Lib.hid (HB.out w1 (bnext (below_hidE hb0) hb1))
  have hb01 := Lib.hid (bnext (below_hidE hb0) hb1)
  clear x0 x1 x2 x3 x4 x5 y0 y1 y2 y3 y4 y5 hb1
  have x0 := ku1.cell 4
  have x1 := ku1.cell 5
  have y0 := kv1.cell 4
  have y1 := kv1.cell 5
  replace ku1 := Lib.hid ku1
  replace kv1 := Lib.hid kv1
  go_wp2_with fail
  refine HB1.out.mono ?_
  rintro e1 w2 ⟨rfl, nd, rfl⟩
  have hb02 := Lib.hid (below_drewE (below_hidE hb01) nd)
  have HX2 := Lib.hid (HXX.out (w1.drewN nd) (below_hidE hb02))
  go_wp2_with fail
  refine HX2.out.mono ?_
  rintro e1 w3 ⟨rfl, hb3⟩
  have hb03 := Lib.hid (bnext (below_hidE hb02) hb3)
  go_wp2_with fail
  go_ret
  exact R1.mk rfl (below_hidE hb03)
end Go.Proofs.YtnicbhmeigpjkaaGreatDoor
