/- The walk of the law GossipGrows: it returns true. Conditions: the arguments fit their kinds. -/
import Derived.Test.YtokilodekbjpnaaIdxL
namespace Go.Proofs.Ytokilodekbjpnaa
open Go.RowKit

set_option maxRecDepth 1000000 in
set_option maxHeartbeats 4000000 in
/-- is it the name of the claim that the closure holds? -/
theorem grn1_any (y : ClE) (g : Nat) (nm : ByteArray) (w : World) (hg : g < w.heap.size) (c2 : w.cell? ⟨g, 2, none⟩ = some (.string nm)) :
    Calls Try.prog 13 #[.agg (clA4 y), .pointer (some ⟨g, 0, none⟩)] w (R1 (.bool (decide (y.nm = nm))) (Below w.heap.size w)) := by
  have hbx : Below w.heap.size w (w.alloc (.cells (clA4 y) 34)) := one_alloc _ _
  have kc : Blk (w.alloc (.cells (clA4 y) 34)) w.heap.size 34 (clA4 y) := Blk.new _ _ _
  have y2 : (w.alloc (.cells (clA4 y) 34)).cell? ⟨w.heap.size, 2, none⟩ = some (.string y.nm) := kc.cell 2
  have z2 : (w.alloc (.cells (clA4 y) 34)).cell? ⟨g, 2, none⟩ = some (.string nm) := (hbx.cell (p := ⟨g, 2, none⟩) hg).trans c2
  have he := Lib.hid (show (y.nm.toList == nm.toList) = decide (y.nm = nm) by
    rw [Bool.eq_iff_iff, beq_iff_eq, decide_eq_true_iff]
    exact ⟨toList_eq, fun h => by rw [h]⟩)
  go_enter Try.func13, Try.ntmps13
  go_wp2_with fail
  go_ret
  exact R1.mk (bool_eq (by first | exact he.out | (rw [← he.out]; rfl))) hbx
theorem ls_one {w : World} {x : ClE} (hx : x.t.ok w) (n : Nat) (h : Blk w n 34 (clA4 x)) : LsAt w (some ⟨n, 0, none⟩) 1 1 [x] := by
  refine ⟨rfl, Nat.le_refl _, by unfold maxLen; omega, fun _ => ⟨_, rfl, h.lt, fun j u hu => ?_⟩, fun e he => by simp at he; subst he; exact hx⟩
  have hadd : (⟨n, 0, none⟩ : Addr).add j = ⟨n, j, none⟩ := by unfold Addr.add; split <;> simp <;> omega
  rw [hadd, h.cell j]
  simpa [clCs, clC] using hu
set_option maxRecDepth 1000000 in
set_option maxHeartbeats 4000000 in
theorem grs_any (x y : ClE) (g : Nat) (w : World) (kx : Blk w g 34 (clA4 x)) (hx : x.t.ok w) (hy : y.t.ok w) :
    Calls Try.prog 18 #[.agg (clA4 y), .pointer (some ⟨g, 0, none⟩)] w (R1 (.bool (decide (x.x = y.x))) (Below w.heap.size w)) := by
  have k1 := kx.alloc (.cells (clA4 y) 34)
  have hs : (w.alloc (.cells (clA4 y) 34)).heap.size = w.heap.size + 1 := World.size_alloc _ _
  have ky : Blk (w.alloc (.cells (clA4 y) 34)) w.heap.size 34 (clA4 y) := Blk.new _ _ _
  have hb1 : Below w.heap.size w (w.alloc (.cells (clA4 y) 34)) := one_alloc _ _
  have p0 : (w.alloc (.cells (clA4 y) 34)).cell? ⟨g, 0, none⟩ = some (.int .i64 x.v) := k1.cell 0
  have p1 : (w.alloc (.cells (clA4 y) 34)).cell? ⟨g, 1, none⟩ = some (.int .i64 x.s) := k1.cell 1
  have p2 : (w.alloc (.cells (clA4 y) 34)).cell? ⟨g, 2, none⟩ = some (.string x.nm) := k1.cell 2
  have p3 : (w.alloc (.cells (clA4 y) 34)).cell? ⟨g, 3, none⟩ = some (.slice x.t.A x.t.l.length x.t.c) := k1.cell 3
  have q0 : (w.alloc (.cells (clA4 y) 34)).cell? ⟨w.heap.size, 0, none⟩ = some (.int .i64 y.v) := ky.cell 0
  have q1 : (w.alloc (.cells (clA4 y) 34)).cell? ⟨w.heap.size, 1, none⟩ = some (.int .i64 y.s) := ky.cell 1
  have q2 : (w.alloc (.cells (clA4 y) 34)).cell? ⟨w.heap.size, 2, none⟩ = some (.string y.nm) := ky.cell 2
  have q3 : (w.alloc (.cells (clA4 y) 34)).cell? ⟨w.heap.size, 3, none⟩ = some (.slice y.t.A y.t.l.length y.t.c) := ky.cell 3
  have hgl := k1.lt
  have hyl := ky.lt
  have ka : Blk ((w.alloc (.cells (clA4 y) 34)).alloc (.cells (clA4 x) 34)) (w.alloc (.cells (clA4 y) 34)).heap.size 34 (clA4 x) := Blk.new _ _ _
  have hb2 : Below (w.alloc (.cells (clA4 y) 34)).heap.size (w.alloc (.cells (clA4 y) 34)) ((w.alloc (.cells (clA4 y) 34)).alloc (.cells (clA4 x) 34)) := one_alloc _ _
  have hb3 := one_alloc ((w.alloc (.cells (clA4 y) 34)).alloc (.cells (clA4 x) 34)) (.cells (clA4 y) 34)
  have kb := Blk.new ((w.alloc (.cells (clA4 y) 34)).alloc (.cells (clA4 x) 34)) 34 (clA4 y)
  have ka3 := ka.next hb3
  have hbs : Below w.heap.size w (((w.alloc (.cells (clA4 y) 34)).alloc (.cells (clA4 x) 34)).alloc (.cells (clA4 y) 34)) := bnext (bnext hb1 hb2) hb3
  have L1 := ls_one (hx.next hbs) _ ka3
  rw [World.size_alloc] at L1
  have L1 := Lib.hid L1
  have L2 := ls_one (hy.next hbs) _ kb
  rw [World.size_alloc, World.size_alloc] at L2
  have L2 := Lib.hid L2
  clear ka kb ka3 k1 ky hb2 hb3 hb1 hs
  go_enter Try.func18, Try.ntmps18
  go_wp2_with fail
  refine (sameQ (L := [x]) (M := [y]) _ rfl (by exact L1.out) (by exact L2.out)).mono ?_
  rintro e w2 ⟨rfl, hb2⟩
  go_wp2_with fail
  go_ret
  exact R1.mk (bool_eq (by simp)) (bnext hbs hb2)
set_option maxRecDepth 1000000 in
set_option maxHeartbeats 4000000 in
theorem grl_any (x : ClE) (e : LsE) (g : Nat) (w : World) (kx : Blk w g 34 (clA4 x)) (hx : x.t.ok w) (he : e.good w) {b : Bool} (hb : anyN (fun j => decide (x.x = (at_ e.L j).x)) e.L.length = b) :
    Calls Try.prog 16 #[e.v, .pointer (some ⟨g, 0, none⟩)] w (R1 (.bool b) (Below w.heap.size w)) := by
  have H := Lib.hid (conK_any 18 (fun _ _ => by kernel_rfl) (.pointer (some ⟨g, 0, none⟩)) (fun j => decide (x.x = (at_ e.L j).x)) e.A e.L.length e.c e.L rfl (by have := he.2.2.2.2.2; omega) w he.2.2.2.2.1 hb
    (fun j hj w' hw' => grs_any x (at_ e.L j) g w' (kx.next hw') (hx.next hw') ((he.1 _ (at_mem hj)).1.1.next hw')))
  clear hb he hx kx
  unfold LsE.v
  go_enter Try.func16, Try.ntmps16
  go_wp2_with fail
  refine (H.out).mono ?_
  rintro e w1 ⟨rfl, hb1⟩
  go_wp2_with fail
  go_ret
  exact R1.mk rfl hb1

theorem grow_chk {LL OO : List LsE} {EL : List Edg} (h : (spreadN (LL.map LsE.x) EL).2 = 0) (hO : OO.map LsE.x = (spreadN (LL.map LsE.x) EL).1) {k : Nat} (hk : k < LL.length) (hc : checkC (at_ LL k).x = 0) : checkC (at_ OO k).x = 0 := by
  have hl := (from_law h).1
  have hlo : k < OO.length := by have := congrArg List.length hO; rw [List.length_map, hl, List.length_map] at this; omega
  have ek : at_ (LL.map LsE.x) k = (at_ LL k).x := map_at hk
  have eo : at_ (spreadN (LL.map LsE.x) EL).1 k = (at_ OO k).x := by rw [← hO]; exact map_at hlo
  obtain ⟨_, _, e⟩ := spread_zero h
  have h2 := h
  rw [e] at h2
  have := ((runE_grows _ _ h2).2.1 k (by rw [ek]; exact hc)).1
  rw [← e, eo] at this
  exact this
theorem keepC9 {w W : World} {B g : Nat} {ad ao : Addr} {u : Value} {x y : ClE} (k : Below B w W) (ha : ao.block < B) (hb : ad.block < B) (hg : g < B) (u0 : w.cell? ao = some u) (c0 : w.cell? ad = some (.int .i64 x.v)) (c1 : w.cell? ⟨ad.block, ad.off + 1, none⟩ = some (.int .i64 x.s)) (c2 : w.cell? ⟨ad.block, ad.off + 2, none⟩ = some (.string x.nm)) (c3 : w.cell? ⟨ad.block, ad.off + 3, none⟩ = some (.slice x.t.A x.t.l.length x.t.c)) (kc : Blk w g 34 (clA4 y)) :
    W.cell? ao = some u ∧ (W.cell? ad = some (.int .i64 x.v) ∧ W.cell? ⟨ad.block, ad.off + 1, none⟩ = some (.int .i64 x.s) ∧ W.cell? ⟨ad.block, ad.off + 2, none⟩ = some (.string x.nm) ∧ W.cell? ⟨ad.block, ad.off + 3, none⟩ = some (.slice x.t.A x.t.l.length x.t.c)) ∧
    W.cell? ⟨g, 0, none⟩ = some (.int .i64 y.v) ∧ W.cell? ⟨g, 1, none⟩ = some (.int .i64 y.s) ∧ W.cell? ⟨g, 2, none⟩ = some (.string y.nm) ∧ W.cell? ⟨g, 3, none⟩ = some (.slice y.t.A y.t.l.length y.t.c) :=
  ⟨(k.cell ha).trans u0, ⟨(k.cell hb).trans c0, (k.cell (p := ⟨ad.block, ad.off + 1, none⟩) hb).trans c1, (k.cell (p := ⟨ad.block, ad.off + 2, none⟩) hb).trans c2, (k.cell (p := ⟨ad.block, ad.off + 3, none⟩) hb).trans c3⟩,
    (k.cell (p := ⟨g, 0, none⟩) hg).trans (kc.cell 0), (k.cell (p := ⟨g, 1, none⟩) hg).trans (kc.cell 1), (k.cell (p := ⟨g, 2, none⟩) hg).trans (kc.cell 2), (k.cell (p := ⟨g, 3, none⟩) hg).trans (kc.cell 3)⟩
/-- none gets older: at a place -/
theorem grow_at {LL OO : List LsE} {EL : List Edg} (h : (spreadN (LL.map LsE.x) EL).2 = 0) (hO : OO.map LsE.x = (spreadN (LL.map LsE.x) EL).1) {k : Nat} (hk : k < LL.length) (hc : checkC (at_ LL k).x = 0) {q : Nat} (hq : q < (at_ LL k).L.length) :
    (∃ i, i < (at_ OO k).L.length ∧ (at_ (at_ OO k).L i).nm = (at_ (at_ LL k).L q).nm) ∧ ∀ i, i < (at_ OO k).L.length → (at_ (at_ OO k).L i).nm = (at_ (at_ LL k).L q).nm → newerN (at_ (at_ LL k).L q).x (at_ (at_ OO k).L i).x = false := by
  have hl := (from_law h).1
  have hlo : k < OO.length := by have := congrArg List.length hO; rw [List.length_map, hl, List.length_map] at this; omega
  have ek : at_ (LL.map LsE.x) k = (at_ LL k).x := map_at hk
  have eo : at_ (spreadN (LL.map LsE.x) EL).1 k = (at_ OO k).x := by rw [← hO]; exact map_at hlo
  obtain ⟨_, _, e⟩ := spread_zero h
  have km : checkC (at_ OO k).x = 0 := by
    have h2 := h
    rw [e] at h2
    have := ((runE_grows _ _ h2).2.1 k (by rw [ek]; exact hc)).1
    rw [← e, eo] at this
    exact this
  have hx : (at_ (at_ LL k).L q).x ∈ at_ (LL.map LsE.x) k := by rw [ek]; exact List.mem_map_of_mem (at_mem hq)
  obtain ⟨y, hy1, hy2⟩ := grow_law h (by rw [ek]; exact hc) hx
  rw [eo] at hy1
  refine ⟨?_, fun i hi hn => ?_⟩
  · obtain ⟨f, hf, rfl⟩ := List.mem_map.1 (lookC_mem hy1)
    obtain ⟨i, hi, rfl⟩ := List.getElem_of_mem hf
    refine ⟨i, hi, ?_⟩
    rw [at_eq hi]
    exact lookC_nm hy1
  · have hm : (at_ (at_ OO k).L i).x ∈ (at_ OO k).x := List.mem_map_of_mem (at_mem hi)
    have := lookC_at (upOf km) hm
    rw [show (at_ (at_ OO k).L i).x.nm = (at_ (at_ LL k).L q).x.nm from hn, hy1] at this
    rw [← Option.some.inj this]
    exact hy2
/-- none comes from nowhere: at a place -/
theorem from_at {LL OO : List LsE} {EL : List Edg} (h : (spreadN (LL.map LsE.x) EL).2 = 0) (hO : OO.map LsE.x = (spreadN (LL.map LsE.x) EL).1) {k : Nat} (hk : k < OO.length) {q : Nat} (hq : q < (at_ OO k).L.length) :
    anyN (fun j => anyN (fun i => decide ((at_ (at_ OO k).L q).x = (at_ (at_ LL j).L i).x)) (at_ LL j).L.length) LL.length = true := by
  have hd : (at_ OO k).x ∈ (spreadN (LL.map LsE.x) EL).1 := by rw [← hO]; exact List.mem_map_of_mem (at_mem hk)
  obtain ⟨d', hd', hc'⟩ := (from_law h).2 _ hd (at_ (at_ OO k).L q).x (List.mem_map_of_mem (at_mem hq))
  obtain ⟨e, he, rfl⟩ := List.mem_map.1 hd'
  obtain ⟨j, hj, rfl⟩ := List.getElem_of_mem he
  obtain ⟨f, hf, e2⟩ := List.mem_map.1 hc'
  obtain ⟨i, hi, rfl⟩ := List.getElem_of_mem hf
  refine anyN_true.2 ⟨j, hj, ?_⟩
  rw [at_eq hj]
  refine anyN_true.2 ⟨i, hi, decide_eq_true ?_⟩
  rw [at_eq hi]
  exact e2.symm

set_option maxRecDepth 1000000 in
set_option maxHeartbeats 8000000 in
theorem grows_any (w : World) (A B : Option Addr) (n c m d : Nat) (LL : List LsE) (EL : List Edg) (hL : SsAt w A n c LL) (hE : EdAt w B m d EL) :
    Calls Try.prog 3 #[.slice A n c, .slice B m d] w (R1 (.bool true) (Below w.heap.size w)) := by
  obtain ⟨⟨p, z⟩, hp⟩ : ∃ r, spreadN (LL.map LsE.x) EL = r := ⟨_, rfl⟩
  have HL := Lib.hid hL
  have HE := Lib.hid hE
  have Hp := Lib.hid hp
  clear hL hE
  by_cases hz : z = 0
  · subst hz
    have h20 : n ≤ 20 := by have := (spread_zero (o := LL.map LsE.x) (l := EL) (by rw [hp])).1; rw [List.length_map, HL.out.1] at this; exact this
    clear hp
    go_enter Try.func3, Try.ntmps3
    go_wp2_with fail
    refine (gossips_true _).mono ?_
    rintro e0 w1 ⟨rfl, hb1⟩
    go_wp2_with fail
    refine (spread_any _ rfl Hp.out (HL.out.next hb1) (HE.out.next hb1)).mono ?_
    rintro e0 w2 ⟨v, rfl, OO, A1, c1, rfl, s1, hown, hall, hb2'⟩
    have hb2 := bnext hb1 hb2'
    have hOn : OO.length = n := by
      have h1 := (from_law (o := LL.map LsE.x) (l := EL) (by rw [Hp.out])).1
      rw [Hp.out] at h1
      have h2 := congrArg List.length s1
      rw [List.length_map] at h2 h1
      rw [h2, h1, HL.out.1]
    have HO := Lib.hid (show OO.map LsE.x = (spreadN (LL.map LsE.x) EL).1 by rw [s1, Hp.out])
    have HG := Lib.hid (fun k (hk : k < LL.length) (hc : checkC (at_ LL k).x = 0) q (hq : q < (at_ LL k).L.length) => grow_at (LL := LL) (OO := OO) (EL := EL) (by rw [Hp.out]) HO.out hk hc hq)
    have HF := Lib.hid (fun k (hk : k < OO.length) q (hq : q < (at_ OO k).L.length) => from_at (LL := LL) (OO := OO) (EL := EL) (by rw [Hp.out]) HO.out hk hq)
    have HC2 := Lib.hid (fun k (hk : k < LL.length) (hc : checkC (at_ LL k).x = 0) => grow_chk (LL := LL) (OO := OO) (EL := EL) (by rw [Hp.out]) HO.out hk hc)
    have HOn := Lib.hid hOn
    rw [hOn] at hown ⊢
    have hown := Lib.hid (Has.of_own hown)
    have hall := Lib.hid hall
    clear hOn s1 hb2' hb1
    go_wp2_with fail
    go_loopw [36] (fun i wr => ∃ k : Nat, k ≤ n ∧ i = .int .i64 (k : Nat) ∧ Below w2.heap.size w2 wr) (fun i _ => n - (intOf i).toNat)
    case atStart => exact ⟨0, by omega, rfl, Below.refl _ _⟩
    case round =>
      obtain ⟨k, hk, rfl, hbr⟩ := hrel
      have hbr0 := bnext hb2 hbr
      by_cases hlt : (k : Int) < (n : Int)
      · have l1 := Lib.hid (show k < LL.length by rw [HL.out.1]; omega)
        have l2 := Lib.hid (show k < OO.length by rw [HOn.out]; omega)
        obtain ⟨ad, rfl, had, c0⟩ := (HL.out.next hbr0).2.2.2.1.at (lsCs_at l1.out)
        have hgo := Lib.hid ((HL.out.next hbr0).2.2.2.2 _ (at_mem l1.out))
        have hgk := Lib.hid (HG.out k l1.out)
        have hfo := Lib.hid ((hall.out.next hbr) _ (at_mem l2.out)).ls
        obtain ⟨E, hE⟩ : ∃ E, at_ LL k = E := ⟨_, rfl⟩
        obtain ⟨Fo, hFo⟩ : ∃ Fo, at_ OO k = Fo := ⟨_, rfl⟩
        rw [hE] at c0 hgo hgk
        rw [hFo] at hgk hfo
        have HFo := Lib.hid hFo
        have HE2 := Lib.hid hE
        clear hE hFo
        have c0' : _ = some (Value.slice E.A E.L.length E.c) := c0
        clear c0
        obtain ⟨zc, hzc⟩ : ∃ zc, checkC E.x = zc := ⟨_, rfl⟩
        have Hck := Lib.hid (ccheck_any E.A E.L.length E.c E.L rfl (Nat.le_trans hgo.out.2.1 hgo.out.2.2.1) wr hgo.out.2.2.2.2.1 (fun y hy => (hgo.out.1 y hy).1.1))
        have Hzc := Lib.hid hzc
        by_cases hz0 : zc = 0
        · subst hz0
          have hE20 : E.L.length ≤ 20 := by have := (checkC_zero.1 hzc).1; unfold LsE.x at this; rw [List.length_map] at this; exact this
          have hF20 : Fo.L.length ≤ 20 := by
            have h1 := (checkC_zero.1 (HC2.out k l1.out (by rw [HE2.out]; exact hzc))).1
            rw [HFo.out] at h1
            unfold LsE.x at h1
            rwa [List.length_map] at h1
          clear hzc
          go_wp2_with fail
          refine (Hck.out).mono ?_
          rw [show checkC (E.L.map ClE.x) = 0 from Hzc.out]
          rintro e0 w4 ⟨rfl, hb4⟩
          obtain ⟨ne, hne⟩ : ∃ ne, E.L.length = ne := ⟨_, rfl⟩
          have Hne := Lib.hid hne
          rw [hne] at hE20 ⊢
          clear hne c0'
          go_wp2_with fail
          go_loopw [46] (fun i wq => ∃ q : Nat, q ≤ ne ∧ i = .int .i64 (q : Nat) ∧ Below wr.heap.size wr wq) (fun i _ => ne - (intOf i).toNat)
          case atStart => exact ⟨0, by omega, rfl, hb4⟩
          case round =>
            obtain ⟨q, hq, rfl, hbq⟩ := hrel
            by_cases hlq : (q : Int) < (ne : Int)
            · have lq := Lib.hid (show q < E.L.length by rw [Hne.out]; omega)
              obtain ⟨hex, hup⟩ := hgk.out Hzc.out q lq.out
              obtain ⟨ad2, had2, hadb2, b0, b1, b2, b3⟩ := (hgo.out.2.2.2.2.1.next hbq).clAt lq.out
              have hxo := Lib.hid ((hgo.out.1 _ (at_mem lq.out)).1.1.next hbq)
              obtain ⟨x, hx⟩ : ∃ x, at_ E.L q = x := ⟨_, rfl⟩
              rw [hx] at b0 b1 b2 b3 hxo hex hup
              clear hx
              have Hex := Lib.hid hex
              have Hup := Lib.hid hup
              clear hex hup
              have hF4 := Lib.hid (hfo.out.next hbq)
              have kc : Blk (wr.alloc (.cells (clA4 x) 34)) wr.heap.size 34 (clA4 x) := Blk.new _ _ _
              have hbc := one_alloc wr (.cells (clA4 x) 34)
              have hOw := (hown.out.next (bnext hbr hbq)).at (lsCs_at l2.out)
              obtain ⟨ao, hao, haob, o0⟩ := hOw
              rw [HFo.out] at o0
              have o0' : _ = some (Value.slice Fo.A Fo.L.length Fo.c) := o0
              clear o0
              have o1 := (hbc.cell (p := ao.add k) (by rw [add_block]; exact haob)).trans o0'
              subst hao
              have hEA := Lib.hid had2
              clear had2
              have hbrq := bnext hbr hbq
              have i0 : (q : Int) < (ne : Int) := hlq
              obtain ⟨EA, hEA2⟩ : ∃ EA, E.A = EA := ⟨_, rfl⟩
              rw [hEA2] at hEA
              rw [hEA2]
              have hEAs := hEA.out
              subst hEAs
              have kn : decide ((k : Int) < 0) = false := by rw [decide_eq_false_iff_not]; omega
              clear hEA2 hEA
              go_wp2_with fail
              obtain ⟨wc, hwc⟩ : ∃ wc, wr.alloc (.cells (clA4 x) 34) = wc := ⟨_, rfl⟩
              rw [hwc] at kc hbc o1
              rw [hwc]
              obtain ⟨g, hg⟩ : ∃ g, wr.heap.size = g := ⟨_, rfl⟩
              rw [hg] at kc ⊢
              have hF5 := Lib.hid (hF4.out.next hbc)
              have hxo := Lib.hid (hxo.out.next hbc)
              have hbq5 := bnext hbq hbc
              clear hwc b0 b1 b2 b3 hg
              refine (idxC_any 13 (fun _ _ => by kernel_rfl) _ (fun i => decide ((at_ Fo.L i).nm = x.nm)) Fo.A Fo.L.length Fo.c Fo.L rfl (by omega) _ hF5.out.2.2.2.1 (fun j hj w' hw' => grn1_any (at_ Fo.L j) g x.nm w' (Nat.lt_of_lt_of_le kc.lt hw'.size) (by exact (kc.next hw').cell 2))).mono ?_
              rintro e0 w6 ⟨v, rfl, ⟨r, rfl, hr⟩, hb6⟩
              rcases hr with ⟨_, hno⟩ | ⟨i, hi, rfl, hyes⟩
              · obtain ⟨q0, hq0, hq1⟩ := Hex.out
                exact absurd hq1 (by have := hno q0 hq0; simpa using this)
              · have hnw := Lib.hid (Hup.out i hi (by simpa using hyes))
                clear hyes
                have kc6 := kc.next hb6
                have hF6 := hF5.out.next hb6
                have li := Lib.hid hi
                obtain ⟨bd, hbd, hbd2, d0, d1, d2, d3⟩ := hF6.2.2.2.1.clAt li.out
                have hyo := Lib.hid (hF6.2.2.2.2 _ (at_mem li.out))
                have o6 := (hb6.cell (p := ao.add k) (by rw [add_block]; have := hbc.size; omega)).trans o1
                rw [hbd] at o6
                obtain ⟨NF, hNF⟩ : ∃ NF, Fo.L.length = NF := ⟨_, rfl⟩
                obtain ⟨y, hy⟩ : ∃ y, at_ Fo.L i = y := ⟨_, rfl⟩
                rw [hy] at d0 d1 d2 d3 hyo hnw
                have hiN : (i : Int) < (NF : Int) := by omega
                rw [hNF] at o6 ⊢
                clear hy hNF hF6
                have hxo := Lib.hid (hxo.out.next hb6)
                have hbq6 := bnext hbq5 hb6
                have hi0 : decide ((i : Int) < 0) = false := by rw [decide_eq_false_iff_not]; omega
                have hgl : g < w6.heap.size := kc6.lt
                have e0 : w6.cell? ⟨g, 0, none⟩ = some (.int .i64 x.v) := kc6.cell 0
                have e1 : w6.cell? ⟨g, 1, none⟩ = some (.int .i64 x.s) := kc6.cell 1
                have e2 : w6.cell? ⟨g, 2, none⟩ = some (.string x.nm) := kc6.cell 2
                have e3 : w6.cell? ⟨g, 3, none⟩ = some (.slice x.t.A x.t.l.length x.t.c) := kc6.cell 3
                have haol : (ao.add k).block < w6.heap.size := by rw [add_block]; have := hbc.size; have := hb6.size; omega
                go_wp2_with fail
                have hbl : (bd.add (i * 4)).block < w6.heap.size := by rw [add_block]; exact hbd2
                have hlx : x.t.l.length ≤ maxLen := Nat.le_trans hxo.out.1 hxo.out.2.1
                have hly : y.t.l.length ≤ maxLen := Nat.le_trans hyo.out.1 hyo.out.2.1
                go_region_held3 (fun w' => w'.cell? (ao.add k) = some (.slice (some bd) NF Fo.c) ∧ (w'.cell? (bd.add (i * 4)) = some (.int .i64 y.v) ∧ w'.cell? ⟨(bd.add (i * 4)).block, (bd.add (i * 4)).off + 1, none⟩ = some (.int .i64 y.s) ∧ w'.cell? ⟨(bd.add (i * 4)).block, (bd.add (i * 4)).off + 2, none⟩ = some (.string y.nm) ∧ w'.cell? ⟨(bd.add (i * 4)).block, (bd.add (i * 4)).off + 3, none⟩ = some (.slice y.t.A y.t.l.length y.t.c)) ∧ w'.cell? ⟨g, 0, none⟩ = some (.int .i64 x.v) ∧ w'.cell? ⟨g, 1, none⟩ = some (.int .i64 x.s) ∧ w'.cell? ⟨g, 2, none⟩ = some (.string x.nm) ∧ w'.cell? ⟨g, 3, none⟩ = some (.slice x.t.A x.t.l.length x.t.c))
                  (first | (refine keepC9 (B := w6.heap.size) (w := w6) ?_ haol hbl hgl o6 d0 d1 d2 d3 kc6; (repeat' (first | with_reducible exact hB9 | with_reducible exact Below.refl _ _ | with_reducible refine below_drewM ?_ | with_reducible refine below_drewN ?_ _)); done) | (trace_state; fail))
                  ((go_at_call 14; refine (newer_any x.x y.x x.t.A y.t.A _ x.t.c _ y.t.c rfl rfl hlx hly _ (by exact hxo.out.2.2.2) (by exact hyo.out.2.2.2)).mono ?_; rw [hnw.out]; rintro e9 w9 ⟨rfl, hb9⟩; have hB9 : Below w6.heap.size w6 w9 := Below.trans (by first | with_reducible exact below_drewM (Below.refl _ _) | exact below_drewN (Below.refl _ _) 1) hb9))
                have hbq9 := bnext hbq6 hB9
                go_wp2_with fail
                go_roundw
                case rel => exact ⟨q + 1, by omega, by go_num, hbq9⟩
                case measure => simp [intOf]; omega
            · have hqn : ne = q := by omega
              subst hqn
              go_wp2_with fail
              go_roundw
              case rel => exact ⟨k + 1, by omega, by go_num, bnext hbr hbq⟩
              case measure => simp [intOf]; omega
        · have f1 : (zc != 0) = true := by rw [bne_iff_ne]; exact hz0
          clear hzc
          go_wp2_with fail
          refine (Hck.out).mono ?_
          rw [show checkC (E.L.map ClE.x) = zc from Hzc.out]
          rintro e0 w4 ⟨rfl, hb4⟩
          go_wp2_with fail
          go_roundw
          case rel => exact ⟨k + 1, by omega, by go_num, bnext hbr hb4⟩
          case measure => simp [intOf]; omega
      · have hkn : n = k := by omega
        subst hkn
        go_wp2_with fail
        go_loopw [73] (fun i wq => ∃ k : Nat, k ≤ n ∧ i = .int .i64 (k : Nat) ∧ Below w2.heap.size w2 wq) (fun i _ => n - (intOf i).toNat)
        case atStart => exact ⟨0, by omega, rfl, hbr⟩
        case round =>
          clear hbr hbr0
          obtain ⟨k, hk, rfl, hbr⟩ := hrel
          have hbr0 := bnext hb2 hbr
          by_cases hlt : (k : Int) < (n : Int)
          · have l2 := Lib.hid (show k < OO.length by rw [HOn.out]; omega)
            obtain ⟨ao, rfl, haob, o0⟩ := (hown.out.next hbr).at (lsCs_at l2.out)
            have hfo := Lib.hid ((hall.out.next hbr) _ (at_mem l2.out)).ls
            have hff := Lib.hid (HF.out k l2.out)
            obtain ⟨Fo, hFo⟩ : ∃ Fo, at_ OO k = Fo := ⟨_, rfl⟩
            rw [hFo] at o0 hfo hff
            have o0' : _ = some (Value.slice Fo.A Fo.L.length Fo.c) := o0
            clear o0 hFo
            obtain ⟨NF, hNF⟩ : ∃ NF, Fo.L.length = NF := ⟨_, rfl⟩
            have HNF := Lib.hid hNF
            rw [hNF] at o0'
            have hNm : NF ≤ 9223372036854775807 := by have h1 := hfo.out.2.1; have h2 := hfo.out.2.2.1; unfold maxLen at h2; omega
            clear hNF
            go_wp2_with fail
            go_loopw [79] (fun i wq => ∃ q : Nat, q ≤ NF ∧ i = .int .i64 (q : Nat) ∧ Below wr.heap.size wr wq) (fun i _ => NF - (intOf i).toNat)
            case atStart => exact ⟨0, by omega, rfl, Below.refl _ _⟩
            case round =>
              obtain ⟨q, hq, rfl, hbq⟩ := hrel
              by_cases hlq : (q : Int) < (NF : Int)
              · have lq := Lib.hid (show q < Fo.L.length by rw [HNF.out]; omega)
                have hany := hff.out q lq.out
                obtain ⟨ad2, had2, hadb2, b0, b1, b2, b3⟩ := (hfo.out.next hbq).2.2.2.1.clAt lq.out
                have hxo := Lib.hid ((hfo.out.next hbq).2.2.2.2 _ (at_mem lq.out))
                obtain ⟨x, hx⟩ : ∃ x, at_ Fo.L q = x := ⟨_, rfl⟩
                rw [hx] at b0 b1 b2 b3 hxo hany
                clear hx
                have hAny := Lib.hid hany
                clear hany
                obtain ⟨FA, hFA⟩ : ∃ FA, Fo.A = FA := ⟨_, rfl⟩
                rw [hFA] at had2
                rw [hFA]
                subst had2
                clear hFA
                have kc : Blk (wr.alloc (.cells (clA4 x) 34)) wr.heap.size 34 (clA4 x) := Blk.new _ _ _
                have hbc := one_alloc wr (.cells (clA4 x) 34)
                have hbqc := bnext hbq hbc
                have hLc := Lib.hid (HL.out.next (bnext hbr0 hbqc))
                have hxoc := Lib.hid (hxo.out.next hbc)
                go_wp2_with fail
                obtain ⟨wc, hwc⟩ : ∃ wc, wr.alloc (.cells (clA4 x) 34) = wc := ⟨_, rfl⟩
                rw [hwc] at kc hbc hbqc hLc hxoc
                rw [hwc]
                obtain ⟨g, hg⟩ : ∃ g, wr.heap.size = g := ⟨_, rfl⟩
                rw [hg] at kc ⊢
                clear hwc hg b0 b1 b2 b3
                refine (conL_any 16 (fun _ _ => by kernel_rfl) (.pointer (some ⟨g, 0, none⟩)) (fun j => anyN (fun i => decide (x.x = (at_ (at_ LL j).L i).x)) (at_ LL j).L.length) A n c LL hLc.out.1 (by omega) _ (by exact hLc.out.2.2.2.1) (b := true) (by rw [← HL.out.1]; exact hAny.out)
                  (fun j hj w' hw' => grl_any x (at_ LL j) g w' (kc.next hw') (hxoc.out.next hw') ((hLc.out.2.2.2.2 _ (at_mem (by rw [hLc.out.1]; exact hj))).next hw') rfl)).mono ?_
                rintro e0 w6 ⟨rfl, hb6⟩
                have hbq6 := bnext hbqc hb6
                go_wp2_with fail
                go_roundw
                case rel => exact ⟨q + 1, by omega, by go_num, hbq6⟩
                case measure => simp [intOf]; omega
              · have hqn : NF = q := by omega
                subst hqn
                go_wp2_with fail
                go_roundw
                case rel => exact ⟨k + 1, by omega, by go_num, bnext hbr hbq⟩
                case measure => simp [intOf]; omega
          · go_wp2_with fail
            go_ret
            exact R1.mk rfl hbr0
  · have hpe : p = [] := by have := spread_bad (o := LL.map LsE.x) (l := EL) (by rw [hp]; exact hz); rw [hp] at this; exact this
    subst hpe
    have f1 : (z != 0) = true := by rw [bne_iff_ne]; exact hz
    clear hp
    go_enter Try.func3, Try.ntmps3
    go_wp2_with fail
    refine (gossips_true _).mono ?_
    rintro e0 w1 ⟨rfl, hb1⟩
    go_wp2_with fail
    refine (spread_any _ rfl Hp.out (HL.out.next hb1) (HE.out.next hb1)).mono ?_
    rintro e0 w2 ⟨v, rfl, OO, A1, c1, rfl, s1, hown, hall, hb2'⟩
    obtain rfl : OO = [] := List.map_eq_nil_iff.1 s1
    clear s1 hown hall
    go_wp2_with fail
    go_ret
    exact R1.mk (by simp) (bnext hb1 hb2')
theorem gossipGrows_true (w : World) (A : Option Addr) (c : Nat) (LL : List LsE) (hL : ∀ e ∈ LL, e.good w) (h1 : LL.length ≤ c) (h2 : c ≤ maxLen) (_ : A = none → c = 0) (h3 : Has w w.heap.size A (lsCs LL)) (_ : LL.length * 24 ≤ 140737488351232)
    (B : Option Addr) (d : Nat) (EL : List Edg) (hE : ∀ e ∈ EL, e.ok) (m1 : EL.length ≤ d) (m2 : d ≤ maxLen) (_ : B = none → d = 0) (m3 : Has w w.heap.size B (edCs EL)) (_ : EL.length * 16 ≤ 140737488351232) :
    Calls Try.prog 3 #[.slice A LL.length c, .slice B EL.length d] w (R1 (.bool true) (Below w.heap.size w)) :=
  grows_any w A B _ c _ d LL EL ⟨rfl, h1, h2, h3, hL⟩ ⟨rfl, m1, m2, m3, hE⟩
end Go.Proofs.Ytokilodekbjpnaa
