/- Texts of the proof of HouseAcks, joined (by merge.py). Conditions: each theorem's own hypotheses. -/
import Derived.Test.YtihjgbhnlejhfaaGreatDoorHouseAcksP33
import Derived.Deep.CutRange
namespace Go.Proofs.YtihjgbhnlejhfaaGreatDoor
open Go.RowKit

theorem run_len_mapS {ty : TypeId} {b : Nat} {es : Array MapEntry} {clock : Nat} {w : World} (hb : w.heap[b]? = some (.map es clock)) : (Builtin.len_ #[96] ty #[.map (some b)]).run Tryz.prog w = .ok (.int .i64 es.size) w := by
  simp [Builtin.len_, run_underlying Tryz.underlying96, MapKept.run_getObj_map hb, Result.andThen, goInt]
theorem own_ne_blk {w : World} {g : Nat} {t : TypeId} {cs : Array Value} {base size n : Nat} {v : Value} {e : TypeId} {xs : List Value} (h : Blk w g t cs) (ho : w.ownsRow base e size v n xs) (ht : t ≠ e) : v.ownBlock ≠ some g := by
  intro hq
  obtain ⟨cs', hc⟩ := own_kindS ho g hq
  have h' : w.heap[g]? = some (Obj.cells cs t (0, 0)) := h
  rw [hc] at h'
  injection h' with h'
  injection h' with _ h'
  exact ht h'.symm
def MoreP (w : World) (base : Nat) (y : Ser) (v : Value) (w' : World) : Prop := ∃ u, v = .tuple #[u, .int .i64 0] ∧ SerOwn w' base u y ∧ Below w.heap.size w w'
set_option maxRecDepth 1000000 in
set_option maxHeartbeats 4000000 in
theorem more_any (base g : Nat) (dk : List Nat) (sf : Int) (st : StD) (hok : StOk st) (key : ByteArray) (hkey : key.size ≤ maxLen) (A : Option Addr) (n c : Nat) (L : List Lab) (hn : L.length = n) (hA : A = none → n = 0 ∧ c = 0) (hmax : n * 32 ≤ 140737488355328) (x : Smp) (w : World) (hS : StM w base g dk sf st) (hbase : base ≤ w.heap.size) (h : Has w w.heap.size A (labCs L)) :
    Calls Tryz.prog 90 #[.pointer (some ⟨g, 0, none⟩), .string key, .slice A n c, .agg #[.int .i64 x.t, .int .i64 x.v]] w (RV (MoreP w base (serN st key L x))) := by
  obtain ⟨t, v⟩ := x
  obtain ⟨b, dg, DA, dc, es, clock, kvs, hS⟩ := hS
  obtain ⟨W0, hW0⟩ : ∃ W0, (w.alloc (.cells #[.int .i64 t, .int .i64 v] 26)).alloc (.cells #[.slice none 0 0, .slice none 0 0] 101) = W0 := ⟨_, rfl⟩
  obtain ⟨q, hq⟩ : ∃ q, w.heap.size = q := ⟨_, rfl⟩
  have hb0 : Below w.heap.size w W0 := by rw [← hW0]; exact (one_allocB _ _).alloc (one_allocB _ _).size _
  have hS0 := hS.next hb0
  have kx : Blk W0 q 26 #[.int .i64 t, .int .i64 v] := by rw [← hW0]; exact (Blk.newD _ _ _ _ hq).alloc _
  have kr : Blk W0 (q + 1) 101 #[.slice none 0 0, .slice none 0 0] := by rw [← hW0]; exact Blk.newD _ _ _ _ (by rw [← hq]; exact Array.size_push _)
  have hn200 : es.size < 200 := by rw [hS.size]; exact hok.1
  have o0 : W0.cell? ⟨g, 0, none⟩ = some (.map (some b)) := hS0.obj.cell 0
  have hl := MpS.look strKey Tryz.underlying96 (z := .agg #[.slice none 0 0, .slice none 0 0]) (fun u => by kernel_rfl) hS0.mp hS0.shape (str_keyed key hkey) true
  simp only [if_true] at hl
  have HW0 := Lib.hid hW0
  have Hq := Lib.hid hq
  have H := Lib.hid (h.next hb0)
  have hS0 := Lib.hid hS0
  have Hok := Lib.hid hok
  have hb0 := Lib.hid hb0
  have hmp := Lib.hid hS0.out.mp
  have hbase0 := Lib.hid (Nat.le_trans hbase hb0.out.size)
  have Hn := Lib.hid hn
  have HA := Lib.hid hA
  clear hW0 hq h hS hok hbase hn hA
  rcases hl with ⟨hno, hr⟩ | ⟨v0, hm, hr⟩
  · have hy : serN st key L ⟨t, v⟩ = (L, [⟨t, v⟩]) := by unfold serN; rw [find_none (hS0.out.rows.none hno)]
    obtain ⟨S1, hS1e⟩ : ∃ S1 : List Smp, S1 = [⟨t, v⟩] := ⟨_, rfl⟩
    rw [← hS1e] at hy
    obtain ⟨y, hyy⟩ : ∃ y, serN st key L ⟨t, v⟩ = y := ⟨_, rfl⟩
    rw [hyy] at hy ⊢
    have HY := Lib.hid hy
    have hS1e := Lib.hid hS1e
    have hno := Lib.hid hno
    clear hy hyy
    go_enter Tryz.func90, Tryz.ntmps90
    go_upto_region 1 with fail
    rw [HW0.out, Hq.out]
    go_upto_region 2 with fail
    obtain ⟨W1, hW1⟩ : ∃ W1, W0.alloc (.cells #[.slice none 0 0, .slice none 0 0] 101) = W1 := ⟨_, rfl⟩
    obtain ⟨q1, hq1⟩ : ∃ q1, W0.heap.size = q1 := ⟨_, rfl⟩
    have hb1 : Below W0.heap.size W0 W1 := by rw [← hW1]; exact one_allocB _ _
    have hS1 := hS0.out.next hb1
    have ky : Blk W1 q1 101 #[.slice none 0 0, .slice none 0 0] := by rw [← hW1]; exact Blk.newD _ _ _ _ hq1
    have hb01 := Lib.hid (bnext hb0.out hb1)
    have kx1 := kx.next hb1
    have kr1 := kr.next hb1
    have H1 := Lib.hid (H.out.next hb1)
    have hq01 : q + 1 < q1 := by rw [← hq1]; exact kr.lt
    rw [hW1, hq1]
    have HW1 := Lib.hid hW1
    have Hq1 := Lib.hid hq1
    clear hW1 hq1 o0 hr
    have o1 : W1.cell? ⟨g, 0, none⟩ = some (.map (some b)) := hS1.obj.cell 0
    have m1 := run_len_mapS (ty := 3) hS1.mp
    have hS1 := Lib.hid hS1
    have n200 : ¬ ((es.size : Nat) : Int) = 200 := by omega
    go_wp2_with fail
    refine (cloneCLab_any A n c (labCs L) (by rw [labCs_len, Hn.out]) (labCs_oneC L) HA.out hmax W1 H1.out).mono ?_
    rintro e w2 ⟨u, rfl, A2, c2, rfl, ho2, hb2⟩
    have ky2 := ky.next hb2
    have kx2 := kx1.next hb2
    have kr2 := kr1.next hb2
    have y0 : w2.cell? ⟨q1, 0, none⟩ = some (.slice none 0 0) := ky2.cell 0
    have f0 : w2.frozen? ⟨q1, 0, none⟩ = false := ky2.frozen 0
    go_upto_region 6 with fail
    obtain ⟨w3, hw3⟩ : ∃ w3, w2.setCell ⟨q1, 0, none⟩ (.slice A2 n c2) = w3 := ⟨_, rfl⟩
    have ky3 : Blk w3 q1 101 #[.slice A2 n c2, .slice none 0 0] := by rw [← hw3]; exact ky2.set 0 _
    have kx3 : Blk w3 q 26 #[.int .i64 t, .int .i64 v] := by rw [← hw3]; exact (Below.heap_setCell _ ⟨q1, 0, none⟩ _ q (by show q ≠ q1; omega)).trans kx2
    have kr3 : Blk w3 (q + 1) 101 #[.slice none 0 0, .slice none 0 0] := by rw [← hw3]; exact (Below.heap_setCell _ ⟨q1, 0, none⟩ _ (q + 1) (by show q + 1 ≠ q1; omega)).trans kr2
    have ho3 := Lib.hid (show w3.ownsRow base 85 2 (.slice A2 n c2) n (labCs L) by
      rw [← hw3]; exact own_less (ownsRow_setCell_below ho2 (a := ⟨q1, 0, none⟩) ky.lt _) (Nat.le_trans hbase0.out hb1.size))
    have hb03 := Lib.hid (show Below w.heap.size w w3 by
      rw [← hw3]; exact (bnext hb01.out hb2).setCell (by show w.heap.size ≤ q1; rw [Hq.out]; omega) _)
    have hb03s := Lib.hid (show W0.heap.size ≤ w3.heap.size by rw [← hw3, World.size_setCell]; exact Nat.le_trans hb1.size hb2.size)
    rw [hw3]
    obtain ⟨S0, hS0e⟩ : ∃ S0 : List Smp, S0 = [] := ⟨_, rfl⟩
    have hmg := Lib.hid (show mergeN S0 [⟨t, v⟩] = (S1, 0) by rw [hS0e, hS1e.out]; exact merge_none _)
    have hSl := Lib.hid (show S0.length = 0 by rw [hS0e]; rfl)
    have hSh := Lib.hid (show Has w3 w3.heap.size none (smpCs S0) by rw [hS0e]; exact Has.nil _ _ _)
    obtain ⟨AS, hAS⟩ : ∃ AS : Option Addr, AS = none := ⟨_, rfl⟩
    obtain ⟨ns, hns⟩ : ∃ ns : Nat, ns = 0 := ⟨_, rfl⟩
    obtain ⟨cs, hcs⟩ : ∃ cs : Nat, cs = 0 := ⟨_, rfl⟩
    obtain ⟨n2, hn2⟩ : ∃ n2 : Nat, n2 = n := ⟨_, rfl⟩
    have hsc : ns ≤ cs := by omega
    have hscm : cs ≤ maxLen := by unfold maxLen; omega
    have hLl := Lib.hid (show L.length = n2 by rw [hn2]; exact Hn.out)
    rw [← hn2] at ho3 ky3 ⊢
    have e3 : (Value.slice none 0 0) = .slice AS ns cs := by rw [hAS, hns, hcs]
    rw [show (#[Value.slice A2 n2 c2, .slice none 0 0] : Array Value) = #[.slice A2 n2 c2, .slice AS ns cs] by rw [e3]] at ky3
    rw [← hns] at hSl
    rw [← hAS] at hSh
    clear hS0e hAS hns hcs hn2 e3 hw3 ky2 kx2 kr2 ho2 hb2 ky kx1 kr1 hb1 o1 m1 kx kr
    have ky3 := Lib.hid ky3
    have kr3 := Lib.hid kr3
    have kx3' := Lib.hid kx3
    have y0 : w3.cell? ⟨q1, 0, none⟩ = some (.slice A2 n2 c2) := ky3.out.cell 0
    have y1 : w3.cell? ⟨q1, 1, none⟩ = some (.slice AS ns cs) := ky3.out.cell 1
    have x0 : w3.cell? ⟨q, 0, none⟩ = some (.int .i64 t) := kx3.cell 0
    have x1 : w3.cell? ⟨q, 1, none⟩ = some (.int .i64 v) := kx3.cell 1
    clear kx3
    go_wp2_with fail
    obtain ⟨W4, hW4⟩ : ∃ W4, w3.alloc (.cells #[.int .i64 t, .int .i64 v] 26) = W4 := ⟨_, rfl⟩
    obtain ⟨q4, hq4⟩ : ∃ q4, w3.heap.size = q4 := ⟨_, rfl⟩
    have hb4 : Below w3.heap.size w3 W4 := by rw [← hW4]; exact one_allocB _ _
    have kz : Blk W4 q4 26 #[.int .i64 t, .int .i64 v] := by rw [← hW4]; exact Blk.newD _ _ _ _ hq4
    have hz : Has W4 W4.heap.size (some ⟨q4, 0, none⟩) (smpCs [⟨t, v⟩]) := by
      rw [← hW4, ← hq4]
      exact Has.fresh w3 #[.int .i64 t, .int .i64 v] 26
    have hM := merge_any AS cs S0 (by rw [hSl.out]; exact hsc) hscm (some ⟨q4, 0, none⟩) 1 [⟨t, v⟩] (by simp) (by unfold maxLen; omega) W4 (hSh.out.next hb4) hz
    rw [hmg.out, hSl.out] at hM
    rw [hW4, hq4]
    refine hM.mono ?_
    rintro e w5 ⟨u, rfl, A5, c5, rfl, ho5, hb5⟩
    have hb35 := bnext hb4 hb5
    have ky5 := ky3.out.next hb35
    have kr5 := kr3.out.next hb35
    have z0 : w5.cell? ⟨q1, 0, none⟩ = some (.slice A2 n2 c2) := ky5.cell 0
    have r0 : w5.cell? ⟨q + 1, 0, none⟩ = some (.slice none 0 0) := kr5.cell 0
    have r1 : w5.cell? ⟨q + 1, 1, none⟩ = some (.slice none 0 0) := kr5.cell 1
    have f0 : w5.frozen? ⟨q + 1, 0, none⟩ = false := kr5.frozen 0
    have f1 : w5.frozen? ⟨q + 1, 1, none⟩ = false := kr5.frozen 1
    have gne : ¬ q1 = q + 1 := by omega
    have gne' : ¬ q + 1 = q1 := by omega
    clear y0 y1 x0 x1
    go_wp2_with fail
    refine bodyPost_ret (v := .tuple #[.agg #[.slice A2 n2 c2, .slice A5 S1.length c5], .int .i64 0]) (by simp [results, Tryz.results90, go_sem, *]) rfl (RV.mk ?_)
    have hb05 := bnext hb03.out hb35
    rw [HY.out]
    refine ⟨.agg #[.slice A2 n2 c2, .slice A5 S1.length c5], rfl, ⟨A2, n2, c2, A5, S1.length, c5, rfl, hLl.out, rfl, ?_, ?_⟩, (hb05.setCell (by show w.heap.size ≤ q + 1; rw [Hq.out]; omega) _).setCell (by show w.heap.size ≤ q + 1; rw [Hq.out]; omega) _⟩
    · exact ownsRow_setCell_other (ownsRow_setCell_other (own_next ho3.out hb35) (a := ⟨q + 1, 0, none⟩) (own_ne_blk kr5 (own_next ho3.out hb35) (by decide)) _) (a := ⟨q + 1, 1, none⟩) (own_ne_blk kr5 (own_next ho3.out hb35) (by decide)) _
    · exact own_less (ownsRow_setCell_below (ownsRow_setCell_below ho5 (a := ⟨q + 1, 0, none⟩) (kr3.out.next hb4).lt _) (a := ⟨q + 1, 1, none⟩) (kr3.out.next hb4).lt _) (Nat.le_trans (Nat.le_trans hbase0.out (Nat.le_trans (by exact hb03s.out) hb4.size)) (Nat.le_refl _))
  · obtain ⟨y, hy, A2, n2, c2, AS, ns, cs, rfl, hLn, hSn, hoL, hoS⟩ := hS0.out.rows.mem hm
    have hfind := find_of_mem hS0.out.keysNodup hy
    obtain ⟨hchk, hlen, _, _⟩ := Hok.out.2 _ hy
    obtain ⟨y', hyy⟩ : ∃ y', serN st key L ⟨t, v⟩ = y' := ⟨_, rfl⟩
    obtain ⟨L0, S0⟩ := y
    simp only [] at hLn hSn hoL hoS hchk hlen
    obtain ⟨S1, hS1e⟩ : ∃ S1 : List Smp, S1 = mergeUp S0 [⟨t, v⟩] := ⟨_, rfl⟩
    have HY := Lib.hid (show y' = (L0, S1) by rw [← hyy, hS1e]; unfold serN; rw [hfind])
    have hmg := Lib.hid (show mergeN S0 [⟨t, v⟩] = (S1, 0) by rw [hS1e]; exact merge_one hchk hlen _)
    have hLl := Lib.hid hLn
    have hSl := Lib.hid hSn
    obtain ⟨qc1, qc2⟩ := own_len hoS
    have hsc : ns ≤ cs := qc1
    have hscm : cs ≤ maxLen := qc2
    rw [hyy]
    clear hm hy hfind hchk hlen hLn hSn hyy hS1e qc1 qc2
    go_enter Tryz.func90, Tryz.ntmps90
    go_upto_region 1 with fail
    rw [HW0.out, Hq.out]
    go_upto_region 2 with fail
    obtain ⟨w3, hw3⟩ : ∃ w3, W0.alloc (.cells #[.slice A2 n2 c2, .slice AS ns cs] 101) = w3 := ⟨_, rfl⟩
    obtain ⟨q1, hq1⟩ : ∃ q1, W0.heap.size = q1 := ⟨_, rfl⟩
    have hb1 : Below W0.heap.size W0 w3 := by rw [← hw3]; exact one_allocB _ _
    have ky3 : Blk w3 q1 101 #[.slice A2 n2 c2, .slice AS ns cs] := by rw [← hw3]; exact Blk.newD _ _ _ _ hq1
    have hb03 := Lib.hid (bnext hb0.out hb1)
    have hb03s := Lib.hid hb1.size
    have kx3 := kx.next hb1
    have kr3 := kr.next hb1
    have ho3 := Lib.hid (own_next hoL hb1)
    have hSh := Lib.hid (Has.of_own (own_next hoS hb1))
    have hq01 : q + 1 < q1 := by rw [← hq1]; exact kr.lt
    rw [hw3, hq1]
    clear hw3 hq1 o0 hr hb1 kx kr hoL hoS
    go_upto_region 6 with fail
    have ky3 := Lib.hid ky3
    have kr3 := Lib.hid kr3
    have kx3' := Lib.hid kx3
    have y0 : w3.cell? ⟨q1, 0, none⟩ = some (.slice A2 n2 c2) := ky3.out.cell 0
    have y1 : w3.cell? ⟨q1, 1, none⟩ = some (.slice AS ns cs) := ky3.out.cell 1
    have x0 : w3.cell? ⟨q, 0, none⟩ = some (.int .i64 t) := kx3.cell 0
    have x1 : w3.cell? ⟨q, 1, none⟩ = some (.int .i64 v) := kx3.cell 1
    clear kx3
    go_wp2_with fail
    obtain ⟨W4, hW4⟩ : ∃ W4, w3.alloc (.cells #[.int .i64 t, .int .i64 v] 26) = W4 := ⟨_, rfl⟩
    obtain ⟨q4, hq4⟩ : ∃ q4, w3.heap.size = q4 := ⟨_, rfl⟩
    have hb4 : Below w3.heap.size w3 W4 := by rw [← hW4]; exact one_allocB _ _
    have kz : Blk W4 q4 26 #[.int .i64 t, .int .i64 v] := by rw [← hW4]; exact Blk.newD _ _ _ _ hq4
    have hz : Has W4 W4.heap.size (some ⟨q4, 0, none⟩) (smpCs [⟨t, v⟩]) := by
      rw [← hW4, ← hq4]
      exact Has.fresh w3 #[.int .i64 t, .int .i64 v] 26
    have hM := merge_any AS cs S0 (by rw [hSl.out]; exact hsc) hscm (some ⟨q4, 0, none⟩) 1 [⟨t, v⟩] (by simp) (by unfold maxLen; omega) W4 (hSh.out.next hb4) hz
    rw [hmg.out, hSl.out] at hM
    rw [hW4, hq4]
    refine hM.mono ?_
    rintro e w5 ⟨u, rfl, A5, c5, rfl, ho5, hb5⟩
    have hb35 := bnext hb4 hb5
    have ky5 := ky3.out.next hb35
    have kr5 := kr3.out.next hb35
    have z0 : w5.cell? ⟨q1, 0, none⟩ = some (.slice A2 n2 c2) := ky5.cell 0
    have r0 : w5.cell? ⟨q + 1, 0, none⟩ = some (.slice none 0 0) := kr5.cell 0
    have r1 : w5.cell? ⟨q + 1, 1, none⟩ = some (.slice none 0 0) := kr5.cell 1
    have f0 : w5.frozen? ⟨q + 1, 0, none⟩ = false := kr5.frozen 0
    have f1 : w5.frozen? ⟨q + 1, 1, none⟩ = false := kr5.frozen 1
    have gne : ¬ q1 = q + 1 := by omega
    have gne' : ¬ q + 1 = q1 := by omega
    clear y0 y1 x0 x1
    go_wp2_with fail
    refine bodyPost_ret (v := .tuple #[.agg #[.slice A2 n2 c2, .slice A5 S1.length c5], .int .i64 0]) (by simp [results, Tryz.results90, go_sem, *]) rfl (RV.mk ?_)
    have hb05 := bnext hb03.out hb35
    rw [HY.out]
    refine ⟨.agg #[.slice A2 n2 c2, .slice A5 S1.length c5], rfl, ⟨A2, n2, c2, A5, S1.length, c5, rfl, hLl.out, rfl, ?_, ?_⟩, (hb05.setCell (by show w.heap.size ≤ q + 1; rw [Hq.out]; omega) _).setCell (by show w.heap.size ≤ q + 1; rw [Hq.out]; omega) _⟩
    · exact ownsRow_setCell_other (ownsRow_setCell_other (own_next ho3.out hb35) (a := ⟨q + 1, 0, none⟩) (own_ne_blk kr5 (own_next ho3.out hb35) (by decide)) _) (a := ⟨q + 1, 1, none⟩) (own_ne_blk kr5 (own_next ho3.out hb35) (by decide)) _
    · exact own_less (ownsRow_setCell_below (ownsRow_setCell_below ho5 (a := ⟨q + 1, 0, none⟩) (kr3.out.next hb4).lt _) (a := ⟨q + 1, 1, none⟩) (kr3.out.next hb4).lt _) (Nat.le_trans (Nat.le_trans hbase0.out (Nat.le_trans (by exact hb03s.out) hb4.size)) (Nat.le_refl _))
end Go.Proofs.YtihjgbhnlejhfaaGreatDoor
namespace Go.Proofs.YtihjgbhnlejhfaaGreatDoor
open Go.RowKit Go.ChangeMaps
variable {w w' : World} {base g b dg : Nat} {A : Option Addr} {c : Nat} {es : Array MapEntry} {clock : Nat} {kvs : List (Value × Value)} {dk : List Nat} {sf : Int} {st : StD}
theorem blk_cells {g : Nat} {t : TypeId} {cs : Array Value} (h : Blk w g t cs) : w.heap[g]? = some (Obj.cells cs t (0, 0)) := h
theorem StAt.mod2 (h : StAt w base g b dg A c es clock kvs dk sf st) (hm : Mod2 dg (A.map Addr.block) w w') {A' : Option Addr} {c' : Nat} {dk' : List Nat} {sf' : Int} (hd : DiskAt w' base dg A' c' dk' sf') (hgr : ∀ k, A'.map Addr.block = some k → A.map Addr.block = some k ∨ w.heap.size ≤ k) : StAt w' base g b dg A' c' es clock kvs dk' sf' st ∧ OutS base g w w' := by
  have hdg := blk_cells h.disk.1
  have hrow : ∀ k, A.map Addr.block = some k → base ≤ k ∧ ∃ cs, w.heap[k]? = some (Obj.cells cs 5 (0, 0)) := fun k hk => ⟨(own_block h.disk.2 k (map_ob hk)).1, own_kindS h.disk.2 k (map_ob hk)⟩
  have hkind : ∀ (k : Nat) (cs : Array Value) (t : TypeId) (fr : Nat × Nat), w.heap[k]? = some (Obj.cells cs t fr) → t ≠ 175 → t ≠ 5 → w'.heap[k]? = w.heap[k]? := by
    intro k cs t fr hk h1 h2
    refine hm.block k (Array.getElem?_eq_some_iff.1 hk).1 (fun e => ?_) (fun e => ?_)
    · subst e; rw [hk] at hdg; injection hdg with hdg; injection hdg with _ h3; exact h1 h3
    · obtain ⟨cs', hc⟩ := (hrow k e.symm).2
      rw [hk] at hc; injection hc with hc; injection hc with _ h3; exact h2 h3
  have hOut : OutB base w w' := {
    os := hm.os
    tape := hm.tape
    output := hm.output
    size := hm.size
    low := fun k hk => by
      rcases Nat.lt_or_ge k w.heap.size with h1 | h1
      · refine hm.block k h1 (fun e => by have := h.od; omega) (fun e => by have := (hrow k e.symm).1; omega)
      · have := h.obj.lt; have := h.og; omega
    kinds := fun k cs t fr hk ht => hkind k cs t fr hk (fun e => ht (.inr (.inl e))) (fun e => ht (.inr (.inr e))) }
  have hN : StAt w' base g b dg A' c' es clock kvs dk' sf' st := {
    obj := (hkind g _ _ _ (blk_cells h.obj) (by decide) (by decide)).trans h.obj
    mp := (hm.block b (Array.getElem?_eq_some_iff.1 h.mp).1 (fun e => by subst e; rw [h.mp] at hdg; cases hdg) (fun e => by
      obtain ⟨cs', hc⟩ := (hrow b e.symm).2
      rw [h.mp] at hc; cases hc)).trans h.mp
    shape := h.shape
    rows := h.rows.keep fun _ _ k => k.out hOut
    disk := hd
    og := h.og
    ob := h.ob
    od := h.od }
  refine ⟨hN, hOut, fun k hk hf => ?_, fun k hk => ?_⟩
  · rw [h.foot] at hf
    simp only [List.mem_cons, Option.mem_toList, not_or] at hf
    exact hm.block k hk hf.2.2.1 (fun e => hf.2.2.2 e.symm)
  · rw [hN.foot] at hk
    rw [h.foot]
    simp only [List.mem_cons, Option.mem_toList] at hk ⊢
    rcases hk with e | e | e | e
    · exact .inl (.inl e)
    · exact .inl (.inr (.inl e))
    · exact .inl (.inr (.inr (.inl e)))
    · rcases hgr k e with e2 | e2
      · exact .inl (.inr (.inr (.inr e2)))
      · exact .inr e2
theorem heap_setBlock {w : World} {b : Nat} {o : Obj} {k : Nat} (h : k ≠ b) : (setBlock w b o).heap[k]? = w.heap[k]? := by
  unfold setBlock
  simp [Ne.symm h]
theorem heap_setBlock_self {w : World} {b : Nat} {o : Obj} (h : b < w.heap.size) : (setBlock w b o).heap[b]? = some o := by
  unfold setBlock
  simp [h]
theorem StAt.set (h : StAt w base g b dg A c es clock kvs dk sf st) {es' : Array MapEntry} {clock' : Nat} {kvs' : List (Value × Value)} (hs : MpS Tryz.prog 9 es' clock' kvs') {k : ByteArray} {v : Value} {y : Ser} (hv : SerOwn w base v y) (hp : PutV kvs (.string k) v kvs') :
    StAt (setBlock w b (.map es' clock')) base g b dg A c es' clock' kvs' dk sf (putSt st k y) ∧ OutS base g w (setBlock w b (.map es' clock')) := by
  have hbl := (Array.getElem?_eq_some_iff.1 h.mp).1
  have hne : ∀ (k : Nat) (cs : Array Value) (t : TypeId) (fr : Nat × Nat), w.heap[k]? = some (Obj.cells cs t fr) → (setBlock w b (.map es' clock')).heap[k]? = w.heap[k]? := fun k cs t fr hk => heap_setBlock (fun e => by subst e; rw [h.mp] at hk; cases hk)
  have hOut : OutB base w (setBlock w b (.map es' clock')) := {
    os := rfl
    tape := rfl
    output := rfl
    size := by unfold setBlock; simp
    low := fun k hk => heap_setBlock (fun e => by have := h.ob; omega)
    kinds := fun k cs t fr hk _ => hne k cs t fr hk }
  have hN : StAt (setBlock w b (.map es' clock')) base g b dg A c es' clock' kvs' dk sf (putSt st k y) := {
    obj := (hne g _ _ _ (blk_cells h.obj)).trans h.obj
    mp := heap_setBlock_self hbl
    shape := hs
    rows := (h.rows.keep fun _ _ q => q.out hOut).put h.nodup (hv.out hOut) hp
    disk := ⟨(hne dg _ _ _ (blk_cells h.disk.1)).trans h.disk.1, own_keepS h.disk.2 fun q hq => by
      obtain ⟨cs, hc⟩ := own_kindS h.disk.2 q hq
      exact hne q cs _ _ hc⟩
    og := h.og
    ob := h.ob
    od := h.od }
  refine ⟨hN, hOut, fun q _ hf => heap_setBlock (fun e => ?_), fun q hq => ?_⟩
  · rw [h.foot] at hf
    subst e
    exact hf (by simp)
  · rw [hN.foot] at hq
    rw [h.foot]
    exact .inl hq
theorem step_mapUpdate_shape {ops : Array Oper} {o : Oper} {a : Act} {K : Act → World → Prop} {Q : Exit → Act → World → Prop} {E : Prop} {w : World} (hg : o.guard = none) (m x u : Operand)
    (hop : o.op = .mapUpdate 96 m x u) {b : Nat} {es : Array MapEntry} {clock : Nat} {kvs : List (Value × Value)} {key : ByteArray} {v : Value} (hm : a.eval m = .map (some b)) (hx : a.eval x = .string key) (hu : a.eval u = v)
    (hb : w.heap[b]? = some (.map es clock)) (S : MpS Tryz.prog 9 es clock kvs) (hk : key.size ≤ maxLen)
    (hK : ∀ es' clock' kvs', MpS Tryz.prog 9 es' clock' kvs' → PutV kvs (.string key) v kvs' → K (a.put o.dst undef) (setBlock w b (.map es' clock'))) :
    if Region.wanted o (yielded ops a.tmps) = true then Oper.wp Tryz.prog o a w K Q else E := by
  have hw : Region.wanted o (yielded ops a.tmps) = true := by simp [Region.wanted, hg]
  rw [if_pos hw]
  obtain ⟨es', clock', kvs', h1, h2, h3⟩ := upd_shape strKey Tryz.underlying96 hb S (str_keyed key hk) v
  have hK := hK es' clock' kvs' h2 h3
  unfold Oper.wp
  simp [execOp, hop, hm, hx, hu, h1, Result.andThen]
  first | exact hK | (unfold Oper.upon; exact hK) | (simp [Oper.upon]; exact hK)
theorem frame_len {r : List Nat} (h : r.length ≤ 2000) : (frameL r).length ≤ r.length + 18 := by
  have := putL_len10 (show r.length < 18446744073709551616 by omega)
  unfold frameL
  rw [List.length_append, List.length_append, be8_len]
  omega
theorem enc_ok {L : List Lab} {x : Smp} (h : (encN L x).2 = 0) : chkL L = 0 ∧ encN L x = (recN L x, 0) ∧ -1152921504606846976 ≤ x.t ∧ x.t ≤ 1152921504606846976 := by
  unfold encN at h ⊢
  by_cases h1 : chkL L = 0
  · rw [if_neg (by simpa using h1)] at h ⊢
    by_cases h2 : x.t < -1152921504606846976 ∨ 1152921504606846976 < x.t
    · rw [if_pos h2] at h; simp at h
    · rw [if_neg h2]
      exact ⟨h1, rfl, by omega, by omega⟩
  · rw [if_pos h1] at h
    exact absurd h h1
def PutP (base g : Nat) (sf : Int) (s : StD × List Nat) (w w' : World) : Prop := StM w' base g s.2 sf s.1 ∧ OutS base g w w'
set_option maxRecDepth 1000000 in
set_option maxHeartbeats 4000000 in
theorem put_store (base g : Nat) (dk : List Nat) (sf : Int) (st : StD) (hok : StOk st) (hdk : dk.length ≤ 28000) (A : Option Addr) (n c : Nat) (L : List Lab) (hn : L.length = n) (hl : n ≤ maxLen) (hA : A = none → n = 0 ∧ c = 0) (x : Smp) (hx : SmpIn x) (hL : ∀ e ∈ L, LabOk e) (w : World) (hS : StM w base g dk sf st) (hbase : base ≤ w.heap.size) (h : Has w w.heap.size A (labCs L)) (tS : SgAt w) :
    Calls Tryz.prog 74 #[.pointer (some ⟨g, 0, none⟩), .slice A n c, .agg #[.int .i64 x.t, .int .i64 x.v]] w (R1 (.int .i64 (putN (st, dk) L x).2) (PutP base g sf (putN (st, dk) L x).1 w)) := by
  obtain ⟨W0, hW0⟩ : ∃ W0, w.alloc (.cells #[.int .i64 x.t, .int .i64 x.v] 26) = W0 := ⟨_, rfl⟩
  obtain ⟨q, hq⟩ : ∃ q, w.heap.size = q := ⟨_, rfl⟩
  have hb0 : Below w.heap.size w W0 := by rw [← hW0]; exact one_allocB _ _
  have kx : Blk W0 q 26 #[.int .i64 x.t, .int .i64 x.v] := by rw [← hW0]; exact Blk.newD _ _ _ _ hq
  have x0 : W0.cell? ⟨q, 0, none⟩ = some (.int .i64 x.t) := kx.cell 0
  have x1 : W0.cell? ⟨q, 1, none⟩ = some (.int .i64 x.v) := kx.cell 1
  have HEn := Lib.hid (enc_any A n c L hn hl x hx W0 (h.next hb0) hL (tS.next hb0))
  obtain ⟨⟨rc, er⟩, hr⟩ : ∃ r, encN L x = r := ⟨_, rfl⟩
  have hb0 := Lib.hid hb0
  have HW0 := Lib.hid hW0
  have Hq := Lib.hid hq
  by_cases he : er = 0
  · subst he
    obtain ⟨hchk, hrec, _, _⟩ := enc_ok (L := L) (x := x) (by rw [hr])
    rw [hr] at hrec
    have hrl := recN_len hchk hx
    have hrb := recN_bytes L x
    have hp : putN (st, dk) L x = ((addN st L x, dk ++ frameL (recN L x)), 0) := by unfold putN; rw [hr, if_neg (by simp)]
    rw [hp]
    have hrc : rc = recN L x := congrArg Prod.fst hrec
    have hts : (txL L).size ≤ 1200 := txtB_size (chkM_asM hchk)
    have hL10 := (labS_of hchk).1
    have htx : textN L = (txL L, 0) := by unfold textN txL; rw [hchk, if_neg (by simp)]
    rw [hr, hrc] at HEn
    unfold addN
    obtain ⟨key, hkey⟩ : ∃ key, txL L = key := ⟨_, rfl⟩
    rw [hkey] at htx hts ⊢
    obtain ⟨y, hy⟩ : ∃ y, serN st key L x = y := ⟨_, rfl⟩
    obtain ⟨rec, hrec'⟩ : ∃ rec, recN L x = rec := ⟨_, rfl⟩
    rw [hrec'] at hrl hrb HEn ⊢
    have happ : appN dk rec = 0 := by
      unfold appN
      have := frame_len (r := rec) (by omega)
      rw [if_neg (by omega), if_neg (by omega)]
    have HT := Lib.hid (fun (w1 : World) (hb : Below w.heap.size w w1) => by have := lbtext_any A n c L hn hl w1 (h.next hb) hL (tS.next hb); rw [htx] at this; exact this)
    have HM := Lib.hid (fun (w1 : World) (hb : Below w.heap.size w w1) => by have := more_any base g dk sf st hok key (by unfold maxLen; omega) A n c L hn hA (by omega) x w1 (hS.next hb) (Nat.le_trans hbase hb.size) (h.next hb); rw [hy] at this; exact this)
    rw [hy]
    obtain ⟨b, dg, DA, dc, es, clock, kvs, hS⟩ := hS
    have hS := Lib.hid hS
    have hbase := Lib.hid hbase
    have hrl := Lib.hid hrl
    have hrb := Lib.hid hrb
    have happ := Lib.hid happ
    have hkl := Lib.hid (show key.size ≤ maxLen by unfold maxLen; omega)
    clear hp hr hn hl hA hL h tS hok hW0 hq hchk hrec hrc hts hL10 htx hkey hy hrec'
    go_enter Tryz.func74, Tryz.ntmps74
    go_upto_region 1 with fail
    rw [HW0.out, Hq.out]
    go_wp2_with fail
    refine HEn.out.mono ?_
    rintro e w1 ⟨v, rfl, A1, n1, c1, rfl, ho1, hb1⟩
    have ho1 := Lib.hid ho1
    have hb01 := bnext hb0.out hb1
    have kx1 := kx.next hb1
    clear x0 x1
    go_wp2_with fail
    refine (HT.out _ hb01).mono ?_
    rintro e w2 ⟨rfl, hb2⟩
    have hb02 := bnext hb01 hb2
    have kx2 := kx1.next hb2
    have x0 : w2.cell? ⟨q, 0, none⟩ = some (.int .i64 x.t) := kx2.cell 0
    have x1 : w2.cell? ⟨q, 1, none⟩ = some (.int .i64 x.v) := kx2.cell 1
    go_wp2_with fail
    refine (HM.out _ hb02).mono ?_
    rintro e w3 ⟨v, rfl, u, rfl, hu, hb3⟩
    have hb03 := Lib.hid (bnext hb02 hb3)
    obtain ⟨AL, nl, cl, AS, ns, cs, rfl, _⟩ := id hu
    have hu := Lib.hid hu
    go_upto_region 6 with fail
    obtain ⟨W4, hW4⟩ : ∃ W4, w3.alloc (.cells #[.slice AL nl cl, .slice AS ns cs] 101) = W4 := ⟨_, rfl⟩
    obtain ⟨q4, hq4⟩ : ∃ q4, w3.heap.size = q4 := ⟨_, rfl⟩
    have hb4 : Below w3.heap.size w3 W4 := by rw [← hW4]; exact one_allocB _ _
    have k4 : Blk W4 q4 101 #[.slice AL nl cl, .slice AS ns cs] := by rw [← hW4]; exact Blk.newD _ _ _ _ hq4
    rw [hW4, hq4]
    have hb04 := Lib.hid (bnext hb03.out hb4)
    have hS4 := Lib.hid (hS.out.next hb04.out)
    have hu4 := Lib.hid (hu.out.next hb4)
    have hR4 := Lib.hid (Has.of_own (own_next ho1.out (bnext hb2 (bnext hb3 hb4))))
    have hnr : rec.length = n1 := by have h9 := ho1.out.1; rw [u8s_len, Nat.mul_one] at h9; exact h9
    have o1 : W4.cell? ⟨g, 1, none⟩ = some (.pointer (some ⟨dg, 0, none⟩)) := hS4.out.obj.cell 1
    have HA4 := Lib.hid (dapp_yes base dg DA dc dk sf A1 n1 c1 rec hnr (by have := hrl.out; unfold maxLen; omega) hrb.out happ.out W4 (Nat.le_trans hbase.out hb04.out.size) hS4.out.disk hR4.out)
    have hnr := Lib.hid hnr
    clear hW4 hq4 kx1 kx2 x0 x1 hb4
    go_wp2_with fail
    refine HA4.out.mono ?_
    rintro e w5 ⟨rfl, A5, c5, hD5, hgr5, hM5⟩
    obtain ⟨hS5, hO5⟩ := hS4.out.mod2 hM5 hD5 hgr5
    clear hgr5
    have k5 := hO5.blk k4 (by unfold StKind; decide)
    have hu5 := Lib.hid (hu4.out.out hO5.toOutB)
    have hmp5 := hS5.mp
    have hsh5 := Lib.hid hS5.shape
    have o0 : w5.cell? ⟨g, 0, none⟩ = some (.map (some b)) := hS5.obj.cell 0
    have z0 : w5.cell? ⟨q4, 0, none⟩ = some (.slice AL nl cl) := k5.cell 0
    have z1 : w5.cell? ⟨q4, 1, none⟩ = some (.slice AS ns cs) := k5.cell 1
    have hS5 := Lib.hid hS5
    have hO5 := Lib.hid hO5
    clear o1 hD5 hM5 k4
    go_upto_region 9 with fail
    have hbd : Below w5.heap.size w5 w5.drew := below_drewN (Below.refl _ _) 1
    obtain ⟨es6, clock6, kvs6, hrun6, hs6, hp6⟩ := upd_shape (w := w5.drew) strKey Tryz.underlying96 hmp5 hsh5.out (str_keyed key hkl.out) (.agg #[.slice AL nl cl, .slice AS ns cs])
    obtain ⟨hS6, hO6⟩ := (hS5.out.next hbd).set hs6 (hu5.out.next hbd) hp6
    have hO7 := Lib.hid ((OutS.of (bnext hb04.out (Below.refl _ _)) hbase.out hS.out).trans (hO5.out.trans ((OutS.of hbd (Nat.le_trans hbase.out (Nat.le_trans hb04.out.size hO5.out.size)) hS5.out).trans hO6)))
    have k6 := hO6.blk (k5.next hbd) (by unfold StKind; decide)
    have e6 : (setBlock w5.drew b (.map es6 clock6)).cell? ⟨g, 0, none⟩ = some (.map (some b)) ∧ (setBlock w5.drew b (.map es6 clock6)).cell? ⟨q4, 0, none⟩ = some (.slice AL nl cl) ∧ (setBlock w5.drew b (.map es6 clock6)).cell? ⟨q4, 1, none⟩ = some (.slice AS ns cs) := ⟨hS6.obj.cell 0, k6.cell 0, k6.cell 1⟩
    have hS6 := Lib.hid hS6
    clear hs6 hp6 hO6 hbd k5 k6
    go_region_held3 (fun w' => w'.cell? ⟨g, 0, none⟩ = some (.map (some b)) ∧ w'.cell? ⟨q4, 0, none⟩ = some (.slice AL nl cl) ∧ w'.cell? ⟨q4, 1, none⟩ = some (.slice AS ns cs)) (first | exact ⟨o0, z0, z1⟩ | exact e6) (fail)
    all_goals
      go_wp2_with fail
      go_ret
      exact R1.mk rfl ⟨⟨b, dg, A5, c5, es6, clock6, kvs6, hS6.out⟩, hO7.out⟩
  · have hp : putN (st, dk) L x = ((st, dk), er) := by unfold putN; rw [hr, if_pos he]
    rw [hp]
    rw [hr] at HEn
    have hS := Lib.hid hS
    have hbase := Lib.hid hbase
    clear hp hr hn hl hA hL h tS hok hW0 hq kx
    go_enter Tryz.func74, Tryz.ntmps74
    go_upto_region 1 with fail
    rw [HW0.out, Hq.out]
    go_wp2_with fail
    refine HEn.out.mono ?_
    rintro e w1 ⟨v, rfl, A1, n1, c1, rfl, ho1, hb1⟩
    have ho1 := Lib.hid ho1
    go_wp2_with fail
    go_ret
    have hb01 := bnext hb0.out hb1
    exact R1.mk rfl ⟨hS.out.next hb01, OutS.ofM hb01 hbase.out hS.out⟩
end Go.Proofs.YtihjgbhnlejhfaaGreatDoor
