/- What Digest of package gossip tells. Conditions: claims lie in their cells. -/
import Derived.Test.YtokilodekbjpnaaGossLaw
import Derived.Test.YtokilodekbjpnaaLsC
namespace Go.Proofs.Ytokilodekbjpnaa
open Go.RowKit

def snC (s : Sn) : List Value := [.string s.nm, .int .i64 s.v]
def snCs (l : List Sn) : List Value := l.flatMap snC
theorem snCs_0 {l : List Sn} {k : Nat} (h : k < l.length) : (snCs l)[k * 2]? = some (.string (at_ l k).nm) := flat_at (f := snC) (C := 2) (fun _ => rfl) h (r := 0) (by decide)
theorem snCs_1 {l : List Sn} {k : Nat} (h : k < l.length) : (snCs l)[k * 2 + 1]? = some (.int .i64 (at_ l k).v) := flat_at (f := snC) (C := 2) (fun _ => rfl) h (r := 1) (by decide)
theorem snCs_app1 (l : List Sn) (s : Sn) : snCs (l ++ [s]) = snCs l ++ (#[Value.string s.nm, .int .i64 s.v] : Array Value).toList := by simp [snCs, snC]
theorem Has.snAt {w : World} {B : Nat} {A : Option Addr} {S : List Sn} (h : Has w B A (snCs S)) {j : Nat} (hj : j < S.length) : ∃ ad, A = some ad ∧ ad.block < B ∧
    w.cell? (ad.add (j * 2)) = some (.string (at_ S j).nm) ∧ w.cell? ⟨(ad.add (j * 2)).block, (ad.add (j * 2)).off + 1, none⟩ = some (.int .i64 (at_ S j).v) := by
  obtain ⟨ad, rfl, had, c0⟩ := h.at (snCs_0 hj)
  obtain ⟨ad', e, _, c1⟩ := h.at (snCs_1 hj)
  injection e with e
  subst e
  exact ⟨_, rfl, had, c0, cell_off c1 (by decide)⟩
theorem elSn : Elem Try.prog 84 119 2 24 := Elem.mk' (z := .agg #[.string ⟨#[]⟩, .int .i64 0]) Try.underlying84 (by kernel_rfl) rfl (by decide)
def DigP (r : List Sn × Int) (w : World) (v : Value) (w' : World) : Prop :=
  ∃ A c, v = .tuple #[.slice A r.1.length c, .int .i64 r.2] ∧ w'.ownsRow w.heap.size 119 2 (.slice A r.1.length c) r.1.length (snCs r.1) ∧ Below w.heap.size w w'
theorem take_seen {L : List ClE} {k : Nat} (h : k < L.length) : ((L.take (k + 1)).map ClE.x).map seenC = ((L.take k).map ClE.x).map seenC ++ [⟨(at_ L k).nm, (at_ L k).v⟩] := by
  rw [take_at h]; simp [ClE.x, seenC]

set_option maxRecDepth 1000000 in
set_option maxHeartbeats 4000000 in
theorem digest_any {A : Option Addr} {n c : Nat} {L : List ClE} {a : List Clm} {r : List Sn × Int} (w : World) (ha : L.map ClE.x = a) (hr : digN a = r) (hL : LsAt w A n c L) :
    Calls Try.prog 41 #[.slice A n c] w (RV (DigP r w)) := by
  obtain ⟨z, hz⟩ : ∃ z, checkC a = z := ⟨_, rfl⟩
  have hck := ccheck_any A n c L hL.1 (Nat.le_trans hL.2.1 hL.2.2.1)
  rw [ha, hz] at hck
  by_cases hz0 : z = 0
  · subst hz0
    have hr2 : r = (a.map seenC, 0) := by rw [← hr]; unfold digN; rw [if_neg (by rw [hz]; simp)]
    have h20 := (checkC_zero.1 hz).1
    rw [← ha, List.length_map] at h20
    have hn20 : n ≤ 20 := by have := hL.1; omega
    have HL := Lib.hid hL; clear hL
    have Ha := Lib.hid ha
    have HR := Lib.hid hr2
    have Hck := Lib.hid hck
    clear hr hr2 ha hz h20 hck
    go_enter Try.func41, Try.ntmps41
    go_wp2_with fail
    refine (Hck.out _ HL.out.2.2.2.1 HL.out.2.2.2.2).mono ?_
    rintro e w1 ⟨rfl, hb1⟩
    go_wp2_with fail
    go_loopw [5, 15] (fun v i wr => ∃ (k : Nat) (O : Option Addr) (e : Nat), k ≤ n ∧ i = .int .i64 (k : Nat) ∧ v = .slice O k e ∧ wr.ownsRow w.heap.size 119 2 (.slice O k e) k (snCs (((L.take k).map ClE.x).map seenC)) ∧ Below w.heap.size w wr) (fun _ i _ => n + 5 - (intOf i).toNat)
    case atStart => exact ⟨0, none, 0, by omega, rfl, rfl, ⟨rfl, .inl ⟨rfl, rfl⟩⟩, hb1⟩
    case round =>
      obtain ⟨k, O, e, hk, rfl, rfl, hown, hbr⟩ := hrel
      have hbs := hbr.size
      by_cases hlt : (k : Int) < (n : Int)
      · have l1 := Lib.hid (show k < L.length by rw [HL.out.1]; omega)
        obtain ⟨ad, rfl, had, c0, c1, c2, c3⟩ := (HL.out.next hbr).2.2.2.1.clAt l1.out
        have hst := Lib.hid (take_seen l1.out)
        obtain ⟨p, hp⟩ : ∃ p, at_ L k = p := ⟨_, rfl⟩
        rw [hp] at c0 c1 c2 c3 hst
        clear hp
        have kc : Blk (wr.alloc (.cells #[.int .i64 p.v, .int .i64 p.s, .string p.nm, .slice p.t.A p.t.l.length p.t.c] 34)) wr.heap.size 34 (clA4 p) := Blk.new _ _ _
        have y0 : (wr.alloc (.cells #[.int .i64 p.v, .int .i64 p.s, .string p.nm, .slice p.t.A p.t.l.length p.t.c] 34)).cell? ⟨wr.heap.size, 0, none⟩ = some (.int .i64 p.v) := kc.cell 0
        have y2 : (wr.alloc (.cells #[.int .i64 p.v, .int .i64 p.s, .string p.nm, .slice p.t.A p.t.l.length p.t.c] 34)).cell? ⟨wr.heap.size, 2, none⟩ = some (.string p.nm) := kc.cell 2
        have hownA := hown.alloc (.cells #[.int .i64 p.v, .int .i64 p.s, .string p.nm, .slice p.t.A p.t.l.length p.t.c] 34)
        have hbA := hbr.alloc hbs (.cells #[.int .i64 p.v, .int .i64 p.s, .string p.nm, .slice p.t.A p.t.l.length p.t.c] 34)
        go_wp2_with (at_builtin; refine wpList_append1 rfl _ _ _ rfl elSn rfl hownA rfl (by simp) rfl ?_ ?k1 ?k2 ?k3 ?k4; intro A2 e2 w3 hown3 hgrow hb3)
        case k1 => first | exact ⟨rfl, rfl⟩ | (intro u hu; simp at hu; rcases hu with rfl | rfl <;> rfl)
        case k2 => omega
        case k3 => unfold maxLen; omega
        case k4 => simp; omega
        have hown3 := Lib.hid hown3
        go_roundw
        case rel => exact ⟨k + 1, A2, e2, by omega, by go_num, rfl, by rw [hst.out, snCs_app1]; exact hown3.out, hbA.trans hb3⟩
        case measure => simp [intOf]; omega
      · obtain rfl : k = n := by omega
        have hlen : r.1.length = k := by rw [HR.out]; show (a.map seenC).length = k; rw [List.length_map, ← Ha.out, List.length_map, HL.out.1]
        rw [List.take_of_length_le (by rw [HL.out.1]; exact Nat.le_refl _), Ha.out] at hown
        have hown := Lib.hid hown
        have hlen := Lib.hid hlen
        go_wp2_with fail
        go_ret2
        refine RV.mk ⟨O, e, ?_, ?_, hbr⟩
        · show Value.tuple #[.slice O k e, .int .i64 0] = _
          rw [hlen.out, show r.2 = 0 by rw [HR.out]]
        · rw [hlen.out, show r.1 = a.map seenC by rw [HR.out]]; exact hown.out
  · have HR := Lib.hid (show r = ([], z) by rw [← hr]; unfold digN; rw [if_pos (by rw [hz]; exact hz0), hz])
    have f1 : (z != 0) = true := by rw [bne_iff_ne]; exact hz0
    have HL := Lib.hid hL; clear hL
    have Hck := Lib.hid hck
    clear hr ha hz hck
    go_enter Try.func41, Try.ntmps41
    go_wp2_with fail
    refine (Hck.out _ HL.out.2.2.2.1 HL.out.2.2.2.2).mono ?_
    rintro e w1 ⟨rfl, hb1⟩
    go_wp2_with fail
    go_ret2
    rw [HR.out]
    exact RV.mk ⟨none, 0, rfl, ⟨rfl, .inl ⟨rfl, rfl⟩⟩, hb1⟩
end Go.Proofs.Ytokilodekbjpnaa
