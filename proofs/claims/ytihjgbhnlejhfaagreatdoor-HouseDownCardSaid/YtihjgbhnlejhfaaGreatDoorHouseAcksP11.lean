/- Texts of the proof of HouseAcks, joined (by merge.py). Conditions: each theorem's own hypotheses. -/
import Derived.Test.YtihjgbhnlejhfaaGreatDoorHouseAcksP8
import Derived.Lib.AppendZerosOnto
import Derived.Laws.NewBlocks
import Derived.Laws.Externs
import Derived.OwnWalk
import Derived.Shelf.RegionOpenPlain
namespace Go.Proofs.YtihjgbhnlejhfaaGreatDoor
open Go.RowKit

theorem insNinfo : (Tryz.prog.info? 36).map (fun i => (i.zero, i.size, i.bytes)) = some (some (.agg #[.string ⟨#[]⟩, .slice none 0 0]), 2, 40) := by kernel_rfl
theorem insNel : Elem Tryz.prog 22 36 2 40 := Elem.mk' (z := .agg #[.string ⟨#[]⟩, .slice none 0 0]) Tryz.underlying22 (by kernel_rfl) rfl (by decide)
theorem insNsz : (Tryz.prog.info? 36).map (·.size) = some 2 := by
  obtain ⟨i0, hi0, h0, h1, h2⟩ := info_parts insNinfo
  rw [hi0]; simp [h1]
def insNP (base : Nat) (v : Value) (n : Nat) (ys : List Value) (w : World) (v' : Value) (w' : World) : Prop :=
  w'.ownsRow base 36 2 v' (n + 1) ys ∧ w.grownBy w' v.ownBlock ∧ (v'.ownBlock = v.ownBlock ∨ ∀ k, v'.ownBlock = some k → w.heap.size ≤ k)

set_option maxRecDepth 1000000 in
set_option maxHeartbeats 4000000 in
theorem insNend_any {base n c vb vc : Nat} {A : Option Addr} {xs : List Value} (vs : Array Value) (w : World) (hown : w.ownsRow base 36 2 (.slice A n c) n xs) (hbase : base ≤ w.heap.size) (hv : vs.size = 2) (h1v : ∀ u ∈ vs.toList, u.oneCell' = true) (hvb : Blk w vb 36 vs) (hn : n ≤ 2000) :
    Calls Tryz.prog 46 #[.slice A n c, .int .i64 n, .slice (some ⟨vb, 0, none⟩) 1 vc] w (RV (insNP base (.slice A n c) n (xs ++ vs.toList) w)) := by
  have hr : Has w w.heap.size (some ⟨vb, 0, none⟩) vs.toList := fun _ => ⟨_, rfl, hvb.lt, fun j u hu => by
    have hadd : (⟨vb, 0, none⟩ : Addr).add j = ⟨vb, j, none⟩ := by unfold Addr.add; split <;> simp <;> omega
    rw [hadd, hvb.cell j]; simpa using hu⟩
  have hc := own_len hown
  by_cases hcn : c = n
  · subst hcn
    go_enter Tryz.func46, Tryz.ntmps46
    go_wp2_with (at_builtin; refine wpList_spreadM rfl _ _ _ rfl insNel (v := .slice A c c) rfl hown rfl hr ?_ ?c1 ?c2 ?c3 ?c4 ?c5; intro A' c' w1 hown1 hgrow1 hbel1 hbl1)
    case c1 => simpa using hv
    case c2 => exact h1v
    case c3 => omega
    case c4 => unfold maxLen; omega
    case c5 => exact hbase
    have hfin : insNP base (.slice A c c) c (xs ++ vs.toList) w (.slice A' (c + 1) c') w1 := ⟨hown1, hgrow1, hbl1.imp id (fun e k hk => by rw [e] at hk; injection hk with hk; omega)⟩
    go_ret
    exact RV.mk hfin
  · go_enter Tryz.func46, Tryz.ntmps46
    go_wp2_with (at_builtin; refine wpList_spreadM rfl _ _ _ rfl insNel (v := .slice A n c) rfl hown rfl hr ?_ ?c1 ?c2 ?c3 ?c4 ?c5; intro A' c' w1 hown1 hgrow1 hbel1 hbl1)
    case c1 => simpa using hv
    case c2 => exact h1v
    case c3 => omega
    case c4 => unfold maxLen; omega
    case c5 => exact hbase
    have hfin : insNP base (.slice A n c) n (xs ++ vs.toList) w (.slice A' (n + 1) c') w1 := ⟨hown1, hgrow1, hbl1.imp id (fun e k hk => by rw [e] at hk; injection hk with hk; omega)⟩
    go_ret
    exact RV.mk hfin

set_option maxRecDepth 1000000 in
set_option maxHeartbeats 8000000 in
theorem insNshift_any {base n c g vb vc i : Nat} {xs : List Value} (vs : Array Value) (w : World) (hown : w.ownsRow base 36 2 (.slice (some ⟨g, 0, none⟩) n c) n xs) (hi : i < n) (hroom : n + 1 ≤ c) (hv : vs.size = 2) (h1v : ∀ u ∈ vs.toList, u.oneCell' = true) (h1 : ∀ u ∈ xs, u.oneCell' = true) (hvb : Blk w vb 36 vs) (hne : vb ≠ g) (hn : n ≤ 2000) :
    Calls Tryz.prog 46 #[.slice (some ⟨g, 0, none⟩) n c, .int .i64 i, .slice (some ⟨vb, 0, none⟩) 1 vc] w (RV (insNP base (.slice (some ⟨g, 0, none⟩) n c) n (xs.take (i * 2) ++ (vs.toList ++ xs.drop (i * 2))) w)) := by
  obtain ⟨hxl, hd⟩ := hown
  rcases hd with ⟨h', _⟩ | ⟨g', cap', cur, h', hbg, hg, hnc, hcm, hcs, htk⟩
  · cases h'
  injection h' with h1' h2' h3'
  injection h1' with h1'
  injection h1' with h1' _ _
  subst h1' h3'
  have hc63 : c ≤ 9223372036854775807 := by unfold maxLen at hcm; exact hcm
  have hsz := insNsz
  have hvl : vs.toList.length = 2 := by simpa using hv
  have hshape : w.shape? vb = some (36, vs.size) := by unfold Blk at hvb; simp [World.shape?, hvb]
  have hshapeg : w.shape? g = some (36, cur.size) := by simp [World.shape?, hg]
  have hov : ∀ lb cb, (callFunc 79 #[.slice (some ⟨vb, 0, none⟩) 1 vc, .slice (some ⟨g, (i + 1) * 2, none⟩) lb cb]).run Tryz.prog w = .ok (.value (.bool false)) w := fun lb cb => by
    rw [run_callFunc_extern Tryz.func79 (by kernel_rfl) (by kernel_rfl) (by kernel_rfl) (e := Extern.SlicesOverlaps.overlaps #[22, 22] #[4]) (by kernel_rfl),
      Lib.run_overlaps_apart w 22 4 36 Tryz.underlying22 2 Tryz.sizeOf36 ⟨vb, 0, none⟩ ⟨g, (i + 1) * 2, none⟩ 1 vc lb cb hne 36 36 vs.size cur.size hshape hshapeg (by omega) (hvb.frozen 0) (hvb.frozen _)]
    rfl
  obtain ⟨I, hI⟩ : ∃ I, i * 2 = I := ⟨_, rfl⟩
  have hxl' : xs.length = n * 2 := hxl
  have hdl : (xs.drop I).length = n * 2 - I := by rw [List.length_drop, hxl']
  have hmin1 : Nat.min (n + 1 - i) (n - i) = n - i := by show min (n + 1 - i) (n - i) = n - i; omega
  have hmin2 : Nat.min 1 (n + 1 - i) = 1 := by show min 1 (n + 1 - i) = 1; omega
  obtain ⟨cur1, hcur1⟩ : ∃ cur1 : Array Value, cur1 = (cur.toList.take (I + 2) ++ xs.drop I ++ cur.toList.drop (I + 2 + (xs.drop I).length)).toArray := ⟨_, rfl⟩
  obtain ⟨cur2, hcur2⟩ : ∃ cur2 : Array Value, cur2 = (cur1.toList.take I ++ vs.toList ++ cur1.toList.drop (I + vs.toList.length)).toArray := ⟨_, rfl⟩
  obtain ⟨hs1, hs2⟩ := ins_shift (C := cur.toList) (cs := xs) (vs := vs.toList) (I := I) (K := 2) (N := n * 2) htk (by omega) (by rw [Array.length_toList, hcs]; omega) hvl
  have hs1' : cur2.toList.take (n * 2 + 2) = xs.take I ++ (vs.toList ++ xs.drop I) := by rw [hcur2, hcur1]; exact hs1
  have hs2' : cur2.size = cur.size := by rw [← Array.length_toList, ← Array.length_toList, hcur2, hcur1]; exact hs2
  have hcur1l : cur1.size = cur.size := by
    rw [← Array.length_toList, hcur1]
    simp only [List.length_append, List.length_take, List.length_drop, Array.length_toList]
    rw [hcs]; omega
  clear hs1 hs2
  obtain ⟨w1, hw1⟩ : ∃ w1, w1 = w.drew.setRow g cur1 := ⟨_, rfl⟩
  have hg1 : w1.heap[g]? = some (.cells cur1 36 (0, 0)) := by rw [hw1]; exact setRow_heap w.drew g cur cur1 _ _ hg
  have hv1 : Blk w1 vb 36 vs := by rw [hw1]; exact (setRow_other w.drew g vb cur1 hne).trans hvb
  have hcp1 : ∀ ty dc sc, (Builtin.copy_ #[22, 22] ty #[.slice (some ⟨g, (i + 1) * 2, none⟩) (n - i) dc, .slice (some ⟨g, i * 2, none⟩) (n + 1 - i) sc]).run Tryz.prog w.drew = .ok (goInt (n - i : Nat)) w1 := fun ty dc sc => by
    have := run_copy_rowK (P := Tryz.prog) w.drew 22 22 ty 36 2 g ((i + 1) * 2) (n - i) dc ⟨g, i * 2, none⟩ (n + 1 - i) sc cur 36 (xs.drop I) Tryz.underlying22 hsz hg (by rw [hmin1, hdl]; omega)
      (fun j u hj => by
        have hadd : (⟨g, i * 2, none⟩ : Addr).add j = ⟨g, I + j, none⟩ := by unfold Addr.add; split <;> simp <;> omega
        rw [List.getElem?_drop, ← htk, List.getElem?_take] at hj
        split at hj
        · rw [hadd]
          show w.cell? _ = _
          rw [cell_of_row w g (I + j) cur _ (0, 0) hg]; simpa using hj
        · cases hj) (by rw [hdl, hcs]; omega) (fun u hu => h1 u (List.mem_of_mem_drop hu))
    rw [hmin1] at this
    rw [this, hw1, hcur1, show (i + 1) * 2 = I + 2 from by omega]
  obtain ⟨w2, hw2⟩ : ∃ w2, w2 = w1.setRow g cur2 := ⟨_, rfl⟩
  have hcp2 : ∀ ty dc, (Builtin.copy_ #[22, 22] ty #[.slice (some ⟨g, i * 2, none⟩) (n + 1 - i) dc, .slice (some ⟨vb, 0, none⟩) 1 vc]).run Tryz.prog w1 = .ok (goInt (1 : Nat)) w2 := fun ty dc => by
    have := run_copy_rowK (P := Tryz.prog) w1 22 22 ty 36 2 g (i * 2) (n + 1 - i) dc ⟨vb, 0, none⟩ 1 vc cur1 36 vs.toList Tryz.underlying22 hsz hg1 (by rw [hmin2, hvl])
      (fun j u hj => by
        have hadd : (⟨vb, 0, none⟩ : Addr).add j = ⟨vb, j, none⟩ := by unfold Addr.add; split <;> simp <;> omega
        rw [hadd, hv1.cell j]; simpa using hj) (by rw [hvl, hcur1l, hcs]; omega) h1v
    rw [hmin2] at this
    rw [this, hw2, hcur2, show i * 2 = I from by omega]
  have hfin : insNP base (.slice (some ⟨g, 0, none⟩) n c) n (xs.take I ++ (vs.toList ++ xs.drop I)) w (.slice (some ⟨g, 0, none⟩) (n + 1) c) w2 := by
    refine ⟨⟨by simp only [List.length_append, List.length_take, List.length_drop, hvl, hxl']; omega, .inr ⟨g, c, cur2, rfl, hbg, by rw [hw2]; exact setRow_heap w1 g cur1 cur2 _ _ hg1, hroom, hcm, by rw [hs2', hcs], by rw [show (n + 1) * 2 = n * 2 + 2 from by omega]; exact hs1'⟩⟩, ?_, .inl rfl⟩
    have o1 : w.grownBy w1 (some g) := by
      rw [hw1]
      exact ⟨rfl, rfl, rfl, by simp [World.setRow], fun k hk hkne => setRow_other w.drew g k cur1 (fun e => hkne (by rw [e]))⟩
    rw [hw2]
    exact ⟨o1.os, o1.tape, o1.output, by simp [World.setRow]; exact o1.size, fun k hk hkne => (setRow_other w1 g k cur2 (fun e => hkne (by rw [e]; rfl))).trans (o1.block k hk hkne)⟩
  rw [hI]
  have hq1 : ¬ (c = i) := by omega
  have hq2 : ¬ (c = i + 1) := by omega
  have hq3 : ¬ ((i : Int) = (n : Int)) := by omega
  have hw1' : IntKind.i64.wrap ((i : Int) + 1) = (i : Int) + 1 := by rw [IntKind.wrap_i64]; omega
  have hb1 : (0 : Int) ≤ (i : Int) + 1 := by omega
  have hin : i ≤ n := by omega
  have htn : ((i : Int) + 1).toNat = i + 1 := by omega
  have hb3 : (i : Int) ≤ (n : Int) + 1 := by omega
  have HF := Lib.hid hfin
  have mixed : Tryz.prog.follows .mixedOrders = true := by kernel_rfl
  clear hfin hs1' hs2' hcur1l hcur1 hcur2 htk hcs hxl' hdl hmin1 hmin2 hg1 hv1 hw1 hw2 hxl hg hshape hshapeg hI hsz
  go_enter Tryz.func46, Tryz.ntmps46
  go_wp2_with (simp only [hov])
  go_region_law_o (refine step_copy_runK rfl _ _ 22 22 rfl _ _ (by simp [Act.eval, Act.put]) (by simp [Act.eval, Act.put]) (hcp1 _ _ _) ?_)
  go_wp2_with (at_builtin; refine wpList_copy_runK _ rfl _ _ 22 22 rfl _ _ rfl rfl (hcp2 _ _) ?_)
  go_ret
  exact RV.mk HF.out

set_option maxRecDepth 1000000 in
set_option maxHeartbeats 8000000 in
theorem insNgrow_any {base n c g vb vc i : Nat} {xs : List Value} (vs : Array Value) (w : World) (hown : w.ownsRow base 36 2 (.slice (some ⟨g, 0, none⟩) n c) n xs) (hbase : base ≤ w.heap.size) (hi : i < n) (hroom : c < n + 1) (hv : vs.size = 2) (h1v : ∀ u ∈ vs.toList, u.oneCell' = true) (h1 : ∀ u ∈ xs, u.oneCell' = true) (hvb : Blk w vb 36 vs) (hn : n ≤ 2000) :
    Calls Tryz.prog 46 #[.slice (some ⟨g, 0, none⟩) n c, .int .i64 i, .slice (some ⟨vb, 0, none⟩) 1 vc] w (RV (insNP base (.slice (some ⟨g, 0, none⟩) n c) n (xs.take (i * 2) ++ (vs.toList ++ xs.drop (i * 2))) w)) := by
  obtain ⟨hxl, hd⟩ := hown
  rcases hd with ⟨h', _⟩ | ⟨g', cap', cur, h', hbg, hg, hnc, hcm, hcs, htk⟩
  · cases h'
  injection h' with h1' h2' h3'
  injection h1' with h1'
  injection h1' with h1' _ _
  subst h1' h3'
  have hxl' : xs.length = n * 2 := hxl
  have hgl : g < w.heap.size := (Array.getElem?_eq_some_iff.1 hg).1
  have hvl : vs.toList.length = 2 := by simpa using hv
  obtain ⟨i0, hi0, hz0, hzs, hzb⟩ := info_parts insNinfo
  have hsz := insNsz
  have hxc : ∀ (W : World), W.heap[g]? = some (.cells cur 36 (0, 0)) → ∀ (o j : Nat) u, (xs.drop o)[j]? = some u → W.cell? ((⟨g, o, none⟩ : Addr).add j) = some u := by
    intro W hW o j u hj
    have hadd : (⟨g, o, none⟩ : Addr).add j = ⟨g, o + j, none⟩ := by unfold Addr.add; split <;> simp <;> omega
    rw [List.getElem?_drop, ← htk, List.getElem?_take] at hj
    split at hj
    · rw [hadd, cell_of_row W g (o + j) cur _ (0, 0) hW]; simpa using hj
    · cases hj
  obtain ⟨I, hI⟩ : ∃ I, i * 2 = I := ⟨_, rfl⟩
  have hIn : I ≤ n * 2 := by omega
  have hdl : (xs.drop I).length = n * 2 - I := by rw [List.length_drop, hxl']
  have hold : (Builtin.firstCells i0.size i (.slice (some ⟨g, 0, none⟩) i c)).run Tryz.prog w.drew = .ok (xs.take I).toArray w.drew := by
    rw [hzs]
    exact run_firstCells_some (P := Tryz.prog) (w := w.drew) 2 i ⟨g, 0, none⟩ i c (xs.take I) (by rw [List.length_take, hxl', hI]; omega) (fun j u hj => by
      rw [List.getElem?_take] at hj
      split at hj
      · exact hxc w.drew hg 0 j u hj
      · cases hj)
  have hkk : (n : Int) + 1 - (i : Int) = ((n + 1 - i : Nat) : Int) := by omega
  have hik : i + (n + 1 - i) = n + 1 := by omega
  obtain ⟨G, hG⟩ : ∃ G, G = grownCap w (n + 1) c 36 := ⟨_, rfl⟩
  obtain ⟨ROW, hROW⟩ : ∃ ROW : Array Value, ROW = (xs.take I).toArray ++ Builtin.zeroCells (.agg #[.string ⟨#[]⟩, .slice none 0 0] : Value).cells (n + 1 - i) ++ Builtin.zeroCells (.agg #[.string ⟨#[]⟩, .slice none 0 0] : Value).cells (G - (n + 1)) := ⟨_, rfl⟩
  have hrz : ∀ ty, (Builtin.append_ #[22, 3] ty #[.slice (some ⟨g, 0, none⟩) i c, .int .i64 ((n : Int) + 1 - (i : Int))]).run Tryz.prog w =
      .ok (.slice (some ⟨w.heap.size, 0, none⟩) (n + 1) G) (w.drew.alloc (.cells ROW 36)) := fun ty => by
    have h := Lib.run_append_grow_zeros (P := Tryz.prog) w 22 3 ty 36 i0 _ .i64 .i64 Tryz.underlying22 Tryz.underlying3 hi0 hz0 (some ⟨g, 0, none⟩) i c (xs.take I).toArray.toList (by simpa using hold) (n + 1 - i) (by omega) (by omega) (by omega) (by omega) (by rw [hzb]; omega) (by rw [hzb, hik]; exact growslice_fits hroom (by omega))
    rw [hik, ← hG] at h
    rw [hkk, h, hROW]
  have hGn : n + 1 ≤ G := by rw [hG]; exact grownCap_ge w _ _ _
  have hG63 : G ≤ maxLen := by rw [hG]; exact grownCap_le_maxLen w (n + 1) c 36 (by unfold maxLen; omega)
  have hzc : ∀ k, (Builtin.zeroCells (.agg #[.string ⟨#[]⟩, .slice none 0 0] : Value).cells k).size = k * 2 := fun k => by simp [Builtin.zeroCells, Value.cells]
  have hRs : ROW.size = G * 2 := by
    rw [hROW, Array.size_append, Array.size_append, hzc, hzc]
    simp only [List.size_toArray, List.length_take, hxl']
    omega
  have hRt : ROW.toList.take I = xs.take I := by
    rw [hROW]
    simp only [Array.toList_append, List.append_assoc]
    rw [List.take_append_of_le_length (by simp [hxl']; omega), List.take_of_length_le (by simp; omega)]
  obtain ⟨w1, hw1⟩ : ∃ w1, w1 = w.drew.alloc (.cells ROW 36) := ⟨_, rfl⟩
  rw [← hw1] at hrz
  obtain ⟨N, hN⟩ : ∃ N, w.heap.size = N := ⟨_, rfl⟩
  have hN1 : w1.heap[N]? = some (.cells ROW 36 (0, 0)) := by rw [hw1, ← hN]; exact heap_alloc_new w.drew _
  have hold1 : ∀ k, k < N → w1.heap[k]? = w.heap[k]? := fun k hk => by rw [hw1]; exact Below.heap_alloc w.drew _ k (by show k < w.heap.size; omega)
  have hs1 : N + 1 = w1.heap.size := by rw [hw1, ← hN]; simp
  have hv1 : Blk w1 vb 36 vs := (hold1 vb (by rw [← hN]; exact hvb.lt)).trans hvb
  obtain ⟨cur1, hcur1⟩ : ∃ cur1 : Array Value, cur1 = (ROW.toList.take I ++ vs.toList ++ ROW.toList.drop (I + vs.toList.length)).toArray := ⟨_, rfl⟩
  obtain ⟨cur2, hcur2⟩ : ∃ cur2 : Array Value, cur2 = (cur1.toList.take (I + 2) ++ xs.drop I ++ cur1.toList.drop (I + 2 + (xs.drop I).length)).toArray := ⟨_, rfl⟩
  obtain ⟨q1, q2⟩ := ins_grow (R := ROW.toList) (cs := xs) (vs := vs.toList) (I := I) (K := 2) (N := n * 2) hxl' hIn hRt (by rw [Array.length_toList, hRs]; omega) hvl
  have hs1' : cur2.toList.take (n * 2 + 2) = xs.take I ++ (vs.toList ++ xs.drop I) := by rw [hcur2, hcur1]; exact q1
  have hs2' : cur2.size = ROW.size := by rw [← Array.length_toList, ← Array.length_toList, hcur2, hcur1]; exact q2
  have hcur1l : cur1.size = ROW.size := by
    rw [← Array.length_toList, hcur1]
    simp only [List.length_append, List.length_take, List.length_drop, Array.length_toList, hvl]
    rw [hRs]; omega
  clear q1 q2
  have hmin1 : Nat.min 1 (n + 1 - i) = 1 := by show min 1 (n + 1 - i) = 1; omega
  have hmin2 : Nat.min (n - i) (n - i) = n - i := by show min (n - i) (n - i) = n - i; omega
  obtain ⟨w2, hw2⟩ : ∃ w2, w2 = w1.setRow N cur1 := ⟨_, rfl⟩
  have hN2 : w2.heap[N]? = some (.cells cur1 36 (0, 0)) := by rw [hw2]; exact setRow_heap w1 N ROW cur1 _ _ hN1
  have hold2 : ∀ k, k < N → w2.heap[k]? = w.heap[k]? := fun k hk => by rw [hw2]; exact (setRow_other w1 N k cur1 (by omega)).trans (hold1 k hk)
  have hcp1 : ∀ ty dc, (Builtin.copy_ #[22, 22] ty #[.slice (some ⟨N, i * 2, none⟩) (n + 1 - i) dc, .slice (some ⟨vb, 0, none⟩) 1 vc]).run Tryz.prog w1 = .ok (goInt (1 : Nat)) w2 := fun ty dc => by
    have := run_copy_rowK (P := Tryz.prog) w1 22 22 ty 36 2 N (i * 2) (n + 1 - i) dc ⟨vb, 0, none⟩ 1 vc ROW 36 vs.toList Tryz.underlying22 hsz hN1 (by rw [hmin1, hvl])
      (fun j u hj => by
        have hadd : (⟨vb, 0, none⟩ : Addr).add j = ⟨vb, j, none⟩ := by unfold Addr.add; split <;> simp <;> omega
        rw [hadd, hv1.cell j]; simpa using hj) (by rw [hvl, hRs]; omega) h1v
    rw [hmin1] at this
    rw [this, hw2, hcur1, show i * 2 = I from by omega]
  obtain ⟨w3, hw3⟩ : ∃ w3, w3 = w2.drew.setRow N cur2 := ⟨_, rfl⟩
  have hcp2 : ∀ ty dc sc, (Builtin.copy_ #[22, 22] ty #[.slice (some ⟨N, (i + 1) * 2, none⟩) (n - i) dc, .slice (some ⟨g, i * 2, none⟩) (n - i) sc]).run Tryz.prog w2.drew = .ok (goInt (n - i : Nat)) w3 := fun ty dc sc => by
    have := run_copy_rowK (P := Tryz.prog) w2.drew 22 22 ty 36 2 N ((i + 1) * 2) (n - i) dc ⟨g, i * 2, none⟩ (n - i) sc cur1 36 (xs.drop I) Tryz.underlying22 hsz hN2 (by rw [hmin2, hdl]; omega)
      (fun j u hj => by rw [show i * 2 = I from by omega]; exact hxc w2.drew ((hold2 g (by omega)).trans hg) I j u hj) (by rw [hdl, hcur1l, hRs]; omega) (fun u hu => h1 u (List.mem_of_mem_drop hu))
    rw [hmin2] at this
    rw [this, hw3, hcur2, show (i + 1) * 2 = I + 2 from by omega]
  have hfin : insNP base (.slice (some ⟨g, 0, none⟩) n c) n (xs.take I ++ (vs.toList ++ xs.drop I)) w (.slice (some ⟨N, 0, none⟩) (n + 1) G) w3 := by
    refine ⟨⟨by simp only [List.length_append, List.length_take, List.length_drop, hvl, hxl']; omega, .inr ⟨N, G, cur2, rfl, by omega, by rw [hw3]; exact setRow_heap w2.drew N cur1 cur2 _ _ hN2, hGn, hG63, by rw [hs2', hRs], by rw [show (n + 1) * 2 = n * 2 + 2 from by omega]; exact hs1'⟩⟩, ?_, .inr (fun k hk => by injection hk with hk; have hk : N = k := hk; omega)⟩
    refine ⟨by rw [hw3, hw2, hw1]; rfl, by rw [hw3, hw2, hw1]; rfl, by rw [hw3, hw2, hw1]; rfl, ?_, fun k hk _ => ?_⟩
    · rw [hw3, size_setRow]; show _ ≤ w2.heap.size; rw [hw2, size_setRow]; omega
    · rw [hw3]; exact (setRow_other w2.drew N k cur2 (by omega)).trans (hold2 k (by omega))
  rw [hI]
  rw [hN] at hrz
  have hq1 : ¬ (c = i) := by omega
  have hq2 : ¬ (G = i) := by omega
  have hq4 : ¬ (G = i + 1) := by omega
  have hq3 : ¬ ((i : Int) = (n : Int)) := by omega
  have hq5 : (c : Int) < (n : Int) + 1 := by omega
  have hG63' : G ≤ 9223372036854775807 := by unfold maxLen at hG63; exact hG63
  have hw1' : IntKind.i64.wrap ((i : Int) + 1) = (i : Int) + 1 := by rw [IntKind.wrap_i64]; omega
  have hb1 : (0 : Int) ≤ (i : Int) + 1 := by omega
  have hin : i ≤ n := by omega
  have htn : ((i : Int) + 1).toNat = i + 1 := by omega
  have hb3 : (i : Int) ≤ (n : Int) := by omega
  have HF := Lib.hid hfin
  have mixed : Tryz.prog.follows .mixedOrders = true := by kernel_rfl
  clear hfin hs1' hs2' hcur1l hcur1 hcur2 htk hcs hxl' hdl hmin1 hmin2 hN1 hN2 hv1 hw1 hw2 hw3 hxl hg hI hsz hold hold1 hold2 hkk hik hROW hRs hRt hG hzc hzs hzb hz0 hi0 hxc hN hs1 hG63
  go_enter Tryz.func46, Tryz.ntmps46
  go_wp2_with (first
    | (at_builtin; refine Lib.wpList_append_run _ rfl _ _ _ _ rfl _ _ rfl rfl _ _ (hrz _) ?_)
    | (at_builtin; refine wpList_copy_runK _ rfl _ _ 22 22 rfl _ _ rfl rfl (hcp1 _ _) ?_))
  go_region_law_o (refine step_copy_runK rfl _ _ 22 22 rfl _ _ (by simp [Act.eval, Act.put]) (by simp [Act.eval, Act.put]) (hcp2 _ _ _) ?_)
  go_wp2_with fail
  go_ret
  exact RV.mk HF.out

theorem insN_any {base n vc i vb : Nat} {v : Value} {xs : List Value} (vs : Array Value) (w : World) (hown : w.ownsRow base 36 2 v n xs) (hbase : base ≤ w.heap.size) (hi : i ≤ n) (hv : vs.size = 2) (h1v : ∀ u ∈ vs.toList, u.oneCell' = true) (h1 : ∀ u ∈ xs, u.oneCell' = true) (hvb : Blk w vb 36 vs) (hne : v.ownBlock ≠ some vb) (hn : n ≤ 2000) :
    Calls Tryz.prog 46 #[v, .int .i64 i, .slice (some ⟨vb, 0, none⟩) 1 vc] w (RV (insNP base v n (xs.take (i * 2) ++ (vs.toList ++ xs.drop (i * 2))) w)) := by
  obtain ⟨A, c, rfl, h1c, h2c, h3c, _⟩ := own_form hown
  rcases Nat.lt_or_ge i n with hlt | hge
  · obtain ⟨g, cap, ev, hg, hgs⟩ := hown.form (by omega)
    injection ev with e1 e2 e3
    subst e1 e3
    rcases Nat.lt_or_ge c (n + 1) with hr | hr
    · exact insNgrow_any vs w hown hbase hlt hr hv h1v h1 hvb hn
    · exact insNshift_any vs w hown hlt hr hv h1v h1 hvb (fun e => hne (by rw [e]; rfl)) hn
  · obtain rfl : i = n := by omega
    have e1 : xs.take (i * 2) = xs := List.take_of_length_le (by rw [hown.1]; exact Nat.le_refl _)
    have e2 : xs.drop (i * 2) = [] := List.drop_of_length_le (by rw [hown.1]; exact Nat.le_refl _)
    rw [e1, e2, List.append_nil]
    exact insNend_any vs w hown hbase hv h1v hvb hn
end Go.Proofs.YtihjgbhnlejhfaaGreatDoor
