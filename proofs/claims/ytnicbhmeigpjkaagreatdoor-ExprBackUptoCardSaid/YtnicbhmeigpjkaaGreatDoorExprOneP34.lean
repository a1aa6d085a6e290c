/- Texts of the proof of ExprOne, joined (by merge.py). Conditions: each theorem's own hypotheses. -/
import Derived.Test.YtnicbhmeigpjkaaGreatDoorExprOneP26
import Derived.Test.YtnicbhmeigpjkaaGreatDoorExprOneP33
namespace Go.Proofs.YtnicbhmeigpjkaaGreatDoor
open Go.RowKit

theorem readX_errk {s : ByteArray} {k : Int} (h : (readX s).2 = k) (hk : k ≠ 0) : (readX s).1 = zeroE := by
  rcases readX_cases s with ⟨e, he⟩ | ⟨k', _, he⟩
  · rw [he] at h
    exact absurd h.symm hk
  · rw [he]
theorem zeroE_bare : zeroE.bare = zeroE := rfl
set_option maxRecDepth 1000000 in
set_option maxHeartbeats 8000000 in
theorem exprOne_any (s : ByteArray) (w : World) (tS : SgAt w) (tL : LenAt w) (tW : WdAt w) (tP : PwAt w) (tE : ErAt w) :
    Calls Tryz.prog 10 #[.string s] w (R1 (.bool true) (Below w.heap.size w)) := by
  have HX := Lib.hid (fun (w' : World) => exprs_any w')
  have HR := Lib.hid (fun (w' : World) (hb : Below w.heap.size w w') => xRead_any s w' (tL.next hb) (tE.next hb) (tS.next hb) (tW.next hb) (tP.next hb))
  have HT := Lib.hid (fun (y : ExE) (w' : World) (hb : Below w.heap.size w w') (hG : y.G w') (hc : y.cnt ≤ 5000) => xText_any y w' hG (by omega) (tW.next hb) (tS.next hb) (tP.next hb))
  clear tS tL tW tP tE
  go_enter Tryz.func10, Tryz.ntmps10
  go_wp2_with fail
  refine (HX.out _).mono ?_
  rintro e1 w1 ⟨rfl, hb1⟩
  have HR1 := Lib.hid (HR.out w1 hb1)
  replace hb1 := Lib.hid hb1
  go_wp2_with fail
  refine HR1.out.mono ?_
  rintro e1 w2 ⟨u2, rfl, y, rfl, hbare, hG2, hcnt, hb2⟩
  have hok : (readX s).2 = 0 → y.chkT = 0 ∧ y.tx = bl s := fun h => by
    have h1 := readX_ok (s := s) (e := (readX s).1) (Prod.ext rfl h)
    rw [← hbare, bare_chkT, bare_tx] at h1
    exact h1
  have hno : (readX s).2 ≠ 0 → y.bare = zeroE := fun h => hbare.trans (readX_errk rfl h)
  obtain ⟨k, hk⟩ : ∃ k, (readX s).2 = k := ⟨_, rfl⟩
  rw [hk] at hok hno ⊢
  have hyo := hG2.own
  have y1 : y.m.length ≤ y.mc := hyo.ml
  have y2 : y.mc ≤ maxLen := hyo.mc
  have y3 : y.b.length ≤ y.bc := hyo.bl
  have y4 : y.bc ≤ maxLen := hyo.bc
  have y5 : y.x.length ≤ y.xc := hyo.xl
  have y6 : y.xc ≤ maxLen := hyo.xc
  obtain ⟨W3, hW3⟩ : ∃ W3, w2.alloc (.cells #[.int .i64 y.kind, .int .i64 y.n, .int .i64 y.w, .slice y.ma y.m.length y.mc, .slice y.ba y.b.length y.bc, .slice y.xa y.x.length y.xc] 28) = W3 := ⟨_, rfl⟩
  obtain ⟨q, hq⟩ : ∃ q, w2.heap.size = q := ⟨_, rfl⟩
  have hb3 : Below w2.heap.size w2 W3 := by rw [← hW3]; exact one_allocB _ _
  have k3 : Blk W3 q 28 #[.int .i64 y.kind, .int .i64 y.n, .int .i64 y.w, .slice y.ma y.m.length y.mc, .slice y.ba y.b.length y.bc, .slice y.xa y.x.length y.xc] := by rw [← hW3]; exact Blk.newM _ _ _ _ hq
  have hG3 := ExE.G.next hb3 y hG2
  have hbw3 := Lib.hid (bnext (bnext (below_hidE hb1) hb2) hb3)
  have HW3 := Lib.hid hW3
  have Hq := Lib.hid hq
  replace hok := Lib.hid hok
  replace hno := Lib.hid hno
  clear hyo hW3 hq hb2 hb3 hG2 hbare HR1 hk
  unfold exV
  go_upto_region 4 with fail
  rw [Hq.out, HW3.out]
  have x0 := k3.cell 0
  have x1 := k3.cell 1
  have x2 := k3.cell 2
  have x3 := k3.cell 3
  have x4 := k3.cell 4
  have x5 := k3.cell 5
  by_cases hk0 : k = 0
  case neg =>
    have d1 : (k != 0) = true := by rw [bne_iff_ne]; exact hk0
    have hS := same_any y zeroE (by rw [zeroE_bare]; exact (hno.out hk0).symm) W3 hG3 (zeroE_G W3)
    replace hS : Calls Tryz.prog 23 #[.agg #[.int .i64 y.kind, .int .i64 y.n, .int .i64 y.w, .slice y.ma y.m.length y.mc, .slice y.ba y.b.length y.bc, .slice y.xa y.x.length y.xc], .agg #[.int .i64 0, .int .i64 0, .int .i64 0, .slice none 0 0, .slice none 0 0, .slice none 0 0]] W3 (R1 (.bool true) (Below W3.heap.size W3)) := hS
    replace hS := Lib.hid hS
    clear hG3 k3
    go_wp2_with fail
    refine hS.out.mono ?_
    rintro e1 w4 ⟨rfl, hb4⟩
    have hb04 := Lib.hid (bnext (below_hidE hbw3) hb4)
    go_wp2_with fail
    go_ret
    exact R1.mk rfl hb04.out
  case pos =>
    subst hk0
    obtain ⟨hch, htx⟩ := hok.out rfl
    have hT := HT.out y W3 (below_hidE hbw3) hG3 hcnt
    have htX : textX y = (s, 0) := by
      unfold textX
      rw [if_neg (fun h => h hch)]
      exact Prod.ext (bl_ext (by rw [bl_arr, htx])) rfl
    rw [htX] at hT
    unfold exV at hT
    dsimp only at hT
    replace hT := Lib.hid hT
    clear hG3 k3 hch htx htX
    go_wp2_with fail
    refine hT.out.mono ?_
    rintro e1 w4 ⟨rfl, hb4⟩
    have hb04 := Lib.hid (bnext (below_hidE hbw3) hb4)
    go_wp2_with fail
    go_ret
    exact R1.mk (by simp) hb04.out
set_option maxRecDepth 1000000 in
set_option maxHeartbeats 8000000 in
theorem exprBack_any (e : ExE) (w : World) (hG : e.G w) (hk : e.cnt + 4 ≤ 1048576) (tS : SgAt w) (tL : LenAt w) (tW : WdAt w) (tP : PwAt w) (tE : ErAt w) :
    Calls Tryz.prog 9 #[exV e] w (R1 (.bool true) (Below w.heap.size w)) := by
  have HX := Lib.hid (fun (w' : World) => exprs_any w')
  obtain ⟨W0, hW0⟩ : ∃ W0, w.alloc (.cells #[.int .i64 e.kind, .int .i64 e.n, .int .i64 e.w, .slice e.ma e.m.length e.mc, .slice e.ba e.b.length e.bc, .slice e.xa e.x.length e.xc] 28) = W0 := ⟨_, rfl⟩
  obtain ⟨q, hq⟩ : ∃ q, w.heap.size = q := ⟨_, rfl⟩
  have hb0 : Below w.heap.size w W0 := by rw [← hW0]; exact one_allocB _ _
  have kx : Blk W0 q 28 #[.int .i64 e.kind, .int .i64 e.n, .int .i64 e.w, .slice e.ma e.m.length e.mc, .slice e.ba e.b.length e.bc, .slice e.xa e.x.length e.xc] := by rw [← hW0]; exact Blk.newM _ _ _ _ hq
  have HR := Lib.hid (fun (s : ByteArray) (w' : World) (hb : Below w.heap.size w w') => xRead_any s w' (tL.next hb) (tE.next hb) (tS.next hb) (tW.next hb) (tP.next hb))
  have HT := Lib.hid (fun (w' : World) (hb : Below w.heap.size w w') => xText_any e w' (ExE.G.next hb e hG) (by omega) (tW.next hb) (tS.next hb) (tP.next hb))
  have hNu := Lib.hid (ExE.G.nu e hG)
  have HW0 := Lib.hid hW0
  have Hq := Lib.hid hq
  replace hb0 := Lib.hid hb0
  replace kx := Lib.hid kx
  replace hG := Lib.hid hG
  clear tS tL tW tP tE hW0 hq
  unfold exV at HT ⊢
  go_enter Tryz.func9, Tryz.ntmps9
  go_upto_region 1 with fail
  rw [HW0.out, Hq.out]
  go_wp2_with fail
  refine (HX.out _).mono ?_
  rintro e1 w1 ⟨rfl, hb1⟩
  have kx1 := kx.out.next hb1
  replace hb1 := Lib.hid (bnext (below_hidE hb0) hb1)
  have x0 := kx1.cell 0
  have x1 := kx1.cell 1
  have x2 := kx1.cell 2
  have x3 := kx1.cell 3
  have x4 := kx1.cell 4
  have x5 := kx1.cell 5
  replace kx1 := Lib.hid kx1
  have hT := HT.out w1 (below_hidE hb1)
  obtain ⟨T, hTT⟩ : ∃ T, textX e = T := ⟨_, rfl⟩
  rw [hTT] at hT
  have hTT2 := Lib.hid (show T = if e.chkT ≠ 0 then (noS, e.chkT) else (⟨e.tx.toArray⟩, 0) from hTT.symm)
  obtain ⟨t, k⟩ := T
  dsimp only at hT
  replace hT := Lib.hid hT
  clear hTT
  go_wp2_with fail
  refine hT.out.mono ?_
  rintro e1 w2 ⟨rfl, hb2⟩
  have kx2 := kx1.out.next hb2
  replace hb2 := Lib.hid (bnext (below_hidE hb1) hb2)
  replace kx2 := Lib.hid kx2
  clear x0 x1 x2 x3 x4 x5
  by_cases hk0 : k = 0
  case neg =>
    have ht : t = ⟨#[]⟩ := by
      have h1 := hTT2.out
      by_cases h : e.chkT = 0
      · rw [if_neg (fun g => g h)] at h1
        exact absurd (congrArg Prod.snd h1) hk0
      · rw [if_pos h] at h1
        exact congrArg Prod.fst h1
    have d1 : (k != 0) = true := by rw [bne_iff_ne]; exact hk0
    subst ht
    clear hTT2
    go_wp2_with fail
    go_ret
    exact R1.mk (by rfl) hb2.out
  case pos =>
    subst hk0
    have hch : e.chkT = 0 := by
      have h1 := hTT2.out
      by_cases h : e.chkT = 0
      · exact h
      · rw [if_pos h] at h1
        exact absurd (congrArg Prod.snd h1).symm h
    have ht : t = ⟨e.tx.toArray⟩ := by
      have h1 := hTT2.out
      rw [if_neg (fun g => g hch)] at h1
      exact congrArg Prod.fst h1
    have htl : t.size = e.tx.length := by rw [ht]; exact List.size_toArray
    have hrd : readX t = if 4000 < t.size then (zeroE, 2) else (e.bare, 0) := by
      by_cases h : 4000 < t.size
      · rw [if_pos h]
        unfold readX
        rw [if_pos h]
      · rw [if_neg h, ht]
        exact readX_told hch hNu.out (by omega)
    have hR := HR.out t w2 (below_hidE hb2)
    obtain ⟨X, hX⟩ : ∃ X, readX t = X := ⟨_, rfl⟩
    rw [hX] at hrd hR
    replace hR := Lib.hid hR
    replace hrd := Lib.hid hrd
    clear hTT2 ht htl hX hch
    go_wp2_with fail
    refine hR.out.mono ?_
    rintro e1 w3 ⟨u3, rfl, y, rfl, hbare, hG3, hcnt, hb3⟩
    have kx3 := kx2.out.next hb3
    have hyo := hG3.own
    have y1 : y.m.length ≤ y.mc := hyo.ml
    have y2 : y.mc ≤ maxLen := hyo.mc
    have y3 : y.b.length ≤ y.bc := hyo.bl
    have y4 : y.bc ≤ maxLen := hyo.bc
    have y5 : y.x.length ≤ y.xc := hyo.xl
    have y6 : y.xc ≤ maxLen := hyo.xc
    obtain ⟨W4, hW4⟩ : ∃ W4, w3.alloc (.cells #[.int .i64 y.kind, .int .i64 y.n, .int .i64 y.w, .slice y.ma y.m.length y.mc, .slice y.ba y.b.length y.bc, .slice y.xa y.x.length y.xc] 28) = W4 := ⟨_, rfl⟩
    obtain ⟨q4, hq4⟩ : ∃ q, w3.heap.size = q := ⟨_, rfl⟩
    have hb4 : Below w3.heap.size w3 W4 := by rw [← hW4]; exact one_allocB _ _
    have k4 : Blk W4 q4 28 #[.int .i64 y.kind, .int .i64 y.n, .int .i64 y.w, .slice y.ma y.m.length y.mc, .slice y.ba y.b.length y.bc, .slice y.xa y.x.length y.xc] := by rw [← hW4]; exact Blk.newM _ _ _ _ hq4
    have kx4 := kx3.next hb4
    have hbw4 := Lib.hid (bnext (bnext (below_hidE hb2) hb3) hb4)
    have hGy4 := Lib.hid (ExE.G.next hb4 y hG3)
    have hGe4 := Lib.hid (ExE.G.next (below_hidE hbw4) e hG.out)
    have HW4 := Lib.hid hW4
    have Hq4 := Lib.hid hq4
    replace hbare := Lib.hid hbare
    clear hyo hW4 hq4 hb3 hb4 hG3 kx3 hR
    have x0 := kx4.cell 0
    have x1 := kx4.cell 1
    have x2 := kx4.cell 2
    have x3 := kx4.cell 3
    have x4 := kx4.cell 4
    have x5 := kx4.cell 5
    have z0 := k4.cell 0
    have z1 := k4.cell 1
    have z2 := k4.cell 2
    have z3 := k4.cell 3
    have z4 := k4.cell 4
    have z5 := k4.cell 5
    unfold exV
    go_upto_region 7 with fail
    rw [Hq4.out, HW4.out]
    by_cases hbig : 4000 < t.size
    · have hX2 : X = (zeroE, 2) := by rw [hrd.out, if_pos hbig]
      subst hX2
      have d1 : decide ((4000 : Int) < (t.size : Int)) = true := decide_eq_true (by omega)
      clear hrd
      go_wp2_with fail
      go_ret
      exact R1.mk rfl hbw4.out
    · have hX2 : X = (e.bare, 0) := by rw [hrd.out, if_neg hbig]
      subst hX2
      have d1 : decide ((4000 : Int) < (t.size : Int)) = false := decide_eq_false (by omega)
      have hS := same_any e y hbare.out W4 hGe4.out hGy4.out
      unfold exV at hS
      replace hS := Lib.hid hS
      clear hrd
      go_wp2_with fail
      refine hS.out.mono ?_
      rintro e1 w5 ⟨rfl, hb5⟩
      have hb05 := Lib.hid (bnext (below_hidE hbw4) hb5)
      go_wp2_with fail
      go_ret
      exact R1.mk rfl hb05.out
theorem exprBack_law (W : World) (e : ExE) (hG : e.G W) (hk : e.cnt + 4 ≤ 1048576) (tS : SgAt W) (tM : LenAt W) (tW : WdAt W) (tP : PwAt W) (tE : ErAt W) : Calls Tryz.prog 9 #[exV e] W (R1 (.bool true) (Below W.heap.size W)) := exprBack_any e W hG hk tS tM tW tP tE
theorem exprOne_law (W : World) (s : ByteArray) (_sz : s.size ≤ maxLen) (tS : SgAt W) (tM : LenAt W) (tW : WdAt W) (tP : PwAt W) (tE : ErAt W) : Calls Tryz.prog 10 #[.string s] W (R1 (.bool true) (Below W.heap.size W)) := exprOne_any s W tS tM tW tP tE
end Go.Proofs.YtnicbhmeigpjkaaGreatDoor
