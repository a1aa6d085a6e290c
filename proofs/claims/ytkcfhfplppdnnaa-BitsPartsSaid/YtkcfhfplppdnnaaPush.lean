/- What Push of package bits computes. Conditions: bytes are bytes, at most 2 to the 47th; numbers fit their kinds. -/
import Derived.Test.YtkcfhfplppdnnaaWriter
import Derived.Test.YtkcfhfplppdnnaaPull
import Derived.Test.YtkcfhfplppdnnaaCloneU8
import Derived.Deep.RegionHeld3
import Derived.Deep.RegionLaw
namespace Go.Proofs.Ytkcfhfplppdnnaa
open Go.RowKit

theorem below_drew {B : Nat} {a w : World} (h : Below B a w) : Below B a w.drew := below_drewN h 1
theorem Has.drewA {w : World} {A : Option Addr} {xs : List Value} (h : Has w w.heap.size A xs) : Has w.drew w.drew.heap.size A xs := h
theorem Has.drewB {w : World} {A : Option Addr} {xs : List Value} (h : Has w w.heap.size A xs) (n : Nat) : Has (w.drewN n) (w.drewN n).heap.size A xs := h
theorem Has.allocA {w : World} {A : Option Addr} {xs : List Value} (h : Has w w.heap.size A xs) (o : Obj) : Has (w.alloc o) (w.alloc o).heap.size A xs := (h.alloc (Nat.le_refl _) o).more (by simp)
theorem Blk.drewA {w : World} {g : Nat} {t : TypeId} {cs : Array Value} (h : Blk w g t cs) : Blk w.drew g t cs := h
theorem keep2 {w W : World} {B g : Nat} {x y : Value} (h : Below B w W) (h1 : g < B) (c0 : w.cell? ⟨g, 0, none⟩ = some x) (c1 : w.cell? ⟨g, 1, none⟩ = some y) : W.cell? ⟨g, 0, none⟩ = some x ∧ W.cell? ⟨g, 1, none⟩ = some y :=
  ⟨(h.cell (p := ⟨g, 0, none⟩) h1).trans c0, (h.cell (p := ⟨g, 1, none⟩) h1).trans c1⟩

def pushN (l : List Nat) (N : Int) (v : Nat) (n : Int) : (List Nat × Int) × Int :=
  if chkB l N ≠ 0 then (([], 0), 4) else if n < 0 ∨ 64 < n ∨ (n < 64 ∧ v / 2 ^ n.toNat ≠ 0) then (([], 0), 1) else if 80000 < N + n then (([], 0), 2) else ((packB (unB l N.toNat ++ toB v n.toNat), N + n), 0)
/-- bits and an error, the bytes a row of the call's own -/
def BitsP (r : (List Nat × Int) × Int) (w : World) (v : Value) (w' : World) : Prop :=
  ∃ A c, v = .tuple #[.agg #[.slice A r.1.1.length c, .int .i64 r.1.2], .int .i64 r.2] ∧ w'.ownsRow w.heap.size 5 1 (.slice A r.1.1.length c) r.1.1.length (u8s r.1.1) ∧ Below w.heap.size w w'

theorem wr_of {w : World} {base g : Nat} {l : List Nat} {m : Nat} (hb : Bytes l) (h : BOk l m) {A : Option Addr} {c : Nat} (hB : Blk w g 86 #[.slice A l.length c, .int .i64 m]) (ho : w.ownsRow base 5 1 (.slice A l.length c) l.length (u8s l)) : WrAt w base g (unB l m) := by
  have e := packB_unB hb h
  refine ⟨A, c, ?_, ?_⟩
  · rw [e, unB_len]; exact hB
  · rw [e]; exact ho

set_option maxRecDepth 1000000 in
set_option maxHeartbeats 4000000 in
theorem push_any (A : Option Addr) (c : Nat) (l : List Nat) (N : Int) (v : Nat) (n : Int) (hN : N ≤ 9223372036854775807) (hv : v < 18446744073709551616) (hn : -9223372036854775808 ≤ n ∧ n ≤ 9223372036854775807) (hl : l.length ≤ 140737488355328) (hb : Bytes l) (hnil : A = none → c = 0) (hlc : l.length ≤ c) (w : World) (h : Has w w.heap.size A (u8s l)) :
    Calls Try.prog 29 #[.agg #[.slice A l.length c, .int .i64 N], .int .u64 v, .int .i64 n] w (RV (BitsP (pushN l N v n) w)) := by
  have hbx : Below w.heap.size w (w.alloc (.cells #[.slice A l.length c, .int .i64 N] 51)) := (Below.refl _ _).alloc (Nat.le_refl _) _
  have hbx2 : Below w.heap.size w ((w.alloc (.cells #[.slice A l.length c, .int .i64 N] 51)).alloc (.cells #[.slice none 0 0, .int .i64 0] 51)) := hbx.alloc (by simp) _
  have kN0 : Blk (w.alloc (.cells #[.slice A l.length c, .int .i64 N] 51)) w.heap.size 51 #[.slice A l.length c, .int .i64 N] := Blk.new w _ _
  have kR0 : Blk ((w.alloc (.cells #[.slice A l.length c, .int .i64 N] 51)).alloc (.cells #[.slice none 0 0, .int .i64 0] 51)) (w.heap.size + 1) 51 #[.slice none 0 0, .int .i64 0] := by simpa using Blk.new (w.alloc (.cells #[.slice A l.length c, .int .i64 N] 51)) _ _
  rcases chkB_or l N with hk | hk
  · have Hk := Lib.hid hk
    obtain ⟨hN0, hBO⟩ := chkB_ok hk
    clear hk
    obtain ⟨m, rfl⟩ := Int.eq_ofNat_of_zero_le hN0
    have hm47 : (m : Int) ≤ 1125899906842624 := by have := hBO.1; omega
    by_cases h1 : n < 0 ∨ 64 < n ∨ (n < 64 ∧ v / 2 ^ n.toNat ≠ 0)
    · have E := Lib.hid (show pushN l m v n = (([], 0), 1) by unfold pushN; rw [if_neg (by rw [Hk.out]; simp), if_pos h1])
      rw [E.out]
      rcases (show n < 0 ∨ (0 ≤ n ∧ 64 < n) ∨ (0 ≤ n ∧ n < 64 ∧ v / 2 ^ n.toNat ≠ 0) by omega) with h2 | ⟨h2, h3⟩ | ⟨h2, h3, h4⟩
      · clear h1
        go_enter Try.func29, Try.ntmps29
        go_wp2_with fail
        refine (bcheck_any A c l m hN hl _ (by exact ((h.next hbx).alloc (Nat.le_refl _) _).more (by simp))).mono ?_
        rintro e w1 ⟨rfl, hb1⟩
        have hb2 := bnext hbx2 hb1
        have kR := kR0.next hb1
        have kN := (kN0.alloc (.cells #[.slice none 0 0, .int .i64 0] 51)).next hb1
        have r0 : w1.cell? ⟨w.heap.size + 1, 0, none⟩ = some (.slice none 0 0) := kR.cell 0
        have r1 : w1.cell? ⟨w.heap.size + 1, 1, none⟩ = some (.int .i64 0) := kR.cell 1
        have f0 := kR.frozen 0
        have f1 := kR.frozen 1
        have n1 : w1.cell? ⟨w.heap.size, 1, none⟩ = some (.int .i64 m) := kN.cell 1
        rw [Hk.out]
        go_wp2_with fail
        refine bodyPost_ret (v := .tuple #[.agg #[.slice none 0 0, .int .i64 0], .int .i64 1]) (by simp [results, Try.results29, go_sem, *]) rfl (RV.mk ⟨none, 0, rfl, ⟨rfl, .inl ⟨rfl, rfl⟩⟩, (hb2.setCell (by simp) _).setCell (by simp) _⟩)
      · clear h1
        have h2' : ¬ n < 0 := by omega
        go_enter Try.func29, Try.ntmps29
        go_wp2_with fail
        refine (bcheck_any A c l m hN hl _ (by exact ((h.next hbx).alloc (Nat.le_refl _) _).more (by simp))).mono ?_
        rintro e w1 ⟨rfl, hb1⟩
        have hb2 := bnext hbx2 hb1
        have kR := kR0.next hb1
        have kN := (kN0.alloc (.cells #[.slice none 0 0, .int .i64 0] 51)).next hb1
        have r0 : w1.cell? ⟨w.heap.size + 1, 0, none⟩ = some (.slice none 0 0) := kR.cell 0
        have r1 : w1.cell? ⟨w.heap.size + 1, 1, none⟩ = some (.int .i64 0) := kR.cell 1
        have f0 := kR.frozen 0
        have f1 := kR.frozen 1
        have n1 : w1.cell? ⟨w.heap.size, 1, none⟩ = some (.int .i64 m) := kN.cell 1
        rw [Hk.out]
        go_wp2_with fail
        refine bodyPost_ret (v := .tuple #[.agg #[.slice none 0 0, .int .i64 0], .int .i64 1]) (by simp [results, Try.results29, go_sem, *]) rfl (RV.mk ⟨none, 0, rfl, ⟨rfl, .inl ⟨rfl, rfl⟩⟩, (hb2.setCell (by simp) _).setCell (by simp) _⟩)
      · clear h1
        obtain ⟨k, rfl⟩ := Int.eq_ofNat_of_zero_le h2
        have hsh : (((v : Int) / 2 ^ k) != 0) = true := by
          rw [bne_iff_ne]
          intro e
          have e2 : (v : Int) / 2 ^ k = ((v / 2 ^ k : Nat) : Int) := by rw [Int.natCast_ediv, Int.natCast_pow]; rfl
          rw [e2] at e
          exact h4 (Int.ofNat.inj e)
        clear h4
        have h2' : ¬ (k : Int) < 0 := by omega
        go_enter Try.func29, Try.ntmps29
        go_wp2_with fail
        refine (bcheck_any A c l m hN hl _ (by exact ((h.next hbx).alloc (Nat.le_refl _) _).more (by simp))).mono ?_
        rintro e w1 ⟨rfl, hb1⟩
        have hb2 := bnext hbx2 hb1
        have kR := kR0.next hb1
        have kN := (kN0.alloc (.cells #[.slice none 0 0, .int .i64 0] 51)).next hb1
        have r0 : w1.cell? ⟨w.heap.size + 1, 0, none⟩ = some (.slice none 0 0) := kR.cell 0
        have r1 : w1.cell? ⟨w.heap.size + 1, 1, none⟩ = some (.int .i64 0) := kR.cell 1
        have f0 := kR.frozen 0
        have f1 := kR.frozen 1
        have n1 : w1.cell? ⟨w.heap.size, 1, none⟩ = some (.int .i64 m) := kN.cell 1
        rw [Hk.out]
        go_wp2_with fail
        refine bodyPost_ret (v := .tuple #[.agg #[.slice none 0 0, .int .i64 0], .int .i64 1]) (by simp [results, Try.results29, go_sem, *]) rfl (RV.mk ⟨none, 0, rfl, ⟨rfl, .inl ⟨rfl, rfl⟩⟩, (hb2.setCell (by simp) _).setCell (by simp) _⟩)
    · obtain ⟨k, rfl⟩ := Int.eq_ofNat_of_zero_le (show 0 ≤ n by omega)
      have h2' : ¬ (k : Int) < 0 := by omega
      have hk64 : (k : Int) ≤ 64 := by omega
      have hsh : ((k : Int) < 64) → (((v : Int) / 2 ^ k) != 0) = false := by
        intro hk
        rw [bne_eq_false_iff_eq]
        have e2 : (v : Int) / 2 ^ k = ((v / 2 ^ k : Nat) : Int) := by rw [Int.natCast_ediv, Int.natCast_pow]; rfl
        rw [e2]
        have : v / 2 ^ k = 0 := by
          have := fun hv0 => h1 (.inr (.inr ⟨hk, hv0⟩))
          exact Decidable.byContradiction this
        rw [this]; rfl
      by_cases h80 : 80000 < (m : Int) + (k : Int)
      · have E := Lib.hid (show pushN l m v k = (([], 0), 2) by unfold pushN; rw [if_neg (by rw [Hk.out]; simp), if_neg h1, if_pos h80])
        rw [E.out]
        rcases (show ¬ (k : Int) < 64 ∨ (k : Int) < 64 by omega) with hk1 | hk1
        · clear hsh h1
          go_enter Try.func29, Try.ntmps29
          go_wp2_with fail
          refine (bcheck_any A c l m hN hl _ (by exact ((h.next hbx).alloc (Nat.le_refl _) _).more (by simp))).mono ?_
          rintro e w1 ⟨rfl, hb1⟩
          have hb2 := bnext hbx2 hb1
          have kR := kR0.next hb1
          have kN := (kN0.alloc (.cells #[.slice none 0 0, .int .i64 0] 51)).next hb1
          have r0 : w1.cell? ⟨w.heap.size + 1, 0, none⟩ = some (.slice none 0 0) := kR.cell 0
          have r1 : w1.cell? ⟨w.heap.size + 1, 1, none⟩ = some (.int .i64 0) := kR.cell 1
          have f0 := kR.frozen 0
          have f1 := kR.frozen 1
          have n1 : w1.cell? ⟨w.heap.size, 1, none⟩ = some (.int .i64 m) := kN.cell 1
          rw [Hk.out]
          go_wp2_with fail
          refine bodyPost_ret (v := .tuple #[.agg #[.slice none 0 0, .int .i64 0], .int .i64 2]) (by simp [results, Try.results29, go_sem, *]) rfl (RV.mk ⟨none, 0, rfl, ⟨rfl, .inl ⟨rfl, rfl⟩⟩, (hb2.setCell (by simp) _).setCell (by simp) _⟩)
        · have hsh := hsh hk1
          clear h1
          go_enter Try.func29, Try.ntmps29
          go_wp2_with fail
          refine (bcheck_any A c l m hN hl _ (by exact ((h.next hbx).alloc (Nat.le_refl _) _).more (by simp))).mono ?_
          rintro e w1 ⟨rfl, hb1⟩
          have hb2 := bnext hbx2 hb1
          have kR := kR0.next hb1
          have kN := (kN0.alloc (.cells #[.slice none 0 0, .int .i64 0] 51)).next hb1
          have r0 : w1.cell? ⟨w.heap.size + 1, 0, none⟩ = some (.slice none 0 0) := kR.cell 0
          have r1 : w1.cell? ⟨w.heap.size + 1, 1, none⟩ = some (.int .i64 0) := kR.cell 1
          have f0 := kR.frozen 0
          have f1 := kR.frozen 1
          have n1 : w1.cell? ⟨w.heap.size, 1, none⟩ = some (.int .i64 m) := kN.cell 1
          rw [Hk.out]
          go_wp2_with fail
          refine bodyPost_ret (v := .tuple #[.agg #[.slice none 0 0, .int .i64 0], .int .i64 2]) (by simp [results, Try.results29, go_sem, *]) rfl (RV.mk ⟨none, 0, rfl, ⟨rfl, .inl ⟨rfl, rfl⟩⟩, (hb2.setCell (by simp) _).setCell (by simp) _⟩)
      · have E := Lib.hid (show pushN l m v k = ((packB (unB l m ++ toB v k), (m : Int) + (k : Int)), 0) by unfold pushN; rw [if_neg (by rw [Hk.out]; simp), if_neg h1, if_neg h80]; rfl)
        rw [E.out]
        have h80' : (m : Int) + (k : Int) ≤ 80000 := by omega
        have hu1 : ∀ u ∈ u8s l, u.oneCell' = true := by intro u hu; simp only [u8s, List.mem_map] at hu; obtain ⟨x, _, rfl⟩ := hu; rfl
        have hA0 : A = none → l.length = 0 ∧ c = 0 := fun hA => by have := hnil hA; exact ⟨by omega, this⟩
        have hA0 := Lib.hid hA0; clear hnil
        have hu1 := Lib.hid hu1
        rcases (show ¬ (k : Int) < 64 ∨ (k : Int) < 64 by omega) with hk1 | hk1
        · clear hsh h1
          go_enter Try.func29, Try.ntmps29
          go_wp2_with fail
          refine (bcheck_any A c l m hN hl _ (by exact ((h.next hbx).alloc (Nat.le_refl _) _).more (by simp))).mono ?_
          rintro e w1 ⟨rfl, hb1⟩
          have hb2 := bnext hbx2 hb1
          have hH1 := h.next hb2
          have kR := kR0.next hb1
          have kN := (kN0.alloc (.cells #[.slice none 0 0, .int .i64 0] 51)).next hb1
          have n0 : w1.cell? ⟨w.heap.size, 0, none⟩ = some (.slice A l.length c) := kN.cell 0
          have n1 : w1.cell? ⟨w.heap.size, 1, none⟩ = some (.int .i64 m) := kN.cell 1
          have hsz : w.heap.size < w1.heap.size := kN.lt
          rw [Hk.out]
          go_wp2_with fail
          go_region_held3 (fun w' => w'.cell? ⟨w.heap.size, 0, none⟩ = some (.slice A l.length c) ∧ w'.cell? ⟨w.heap.size, 1, none⟩ = some (.int .i64 m))
            (first | ((refine keep2 (B := w1.heap.size) (w := w1) ?_ hsz n0 n1; (repeat' (first | with_reducible exact hb7' | with_reducible exact Below.refl _ _ | with_reducible refine below_drew ?_ | with_reducible refine below_drewN ?_ _ | with_reducible refine Below.setCell ?_ (by simp) _ | with_reducible refine Below.alloc ?_ (by first | exact hb7'.size | simp) _)); done)) | (trace_state; fail))
            ((go_at_call 48; refine (cloneU8_any A l.length c (u8s l) (by simp [u8s]) hu1.out hA0.out (by omega) _ (by first | with_reducible exact hH1 | with_reducible exact Has.drewA (Has.allocA hH1 _) | with_reducible exact Has.drewB (Has.allocA hH1 _) _ | with_reducible exact Has.drewA hH1 | with_reducible exact Has.drewB hH1 _ | with_reducible exact Has.allocA (Has.drewA hH1) _ | with_reducible exact Has.allocA (Has.drewB hH1 _) _ | with_reducible exact Has.allocA hH1 _)).mono ?_; rintro e w7 ⟨v7, rfl, A7, c7, rfl, ho7, hb7⟩; have ho7 := Lib.hid ho7; have hb7' : Below w1.heap.size w1 w7 := Below.trans (by (repeat' (first | with_reducible exact Below.refl _ _ | with_reducible refine below_drew ?_ | with_reducible refine below_drewN ?_ _ | with_reducible refine Below.alloc ?_ (by simp) _))) (hb7.mono (by simp)); try (have kz := Blk.next (Blk.drewA (Blk.new w1 86 #[.slice none 0 0, .int .i64 0])) hb7; have z0 : w7.cell? ⟨w1.heap.size, 0, none⟩ = some (.slice none 0 0) := kz.cell 0; have fz0 : w7.frozen? ⟨w1.heap.size, 0, none⟩ = false := kz.frozen 0; have z1 : w7.cell? ⟨w1.heap.size, 1, none⟩ = some (.int .i64 0) := kz.cell 1; have fz1 : w7.frozen? ⟨w1.heap.size, 1, none⟩ = false := kz.frozen 1)))
          · rename_i hHd; clear hHd
            have kR8 : Blk (w7.alloc (.cells #[.slice A7 l.length c7, .int .i64 m] 86)) (w.heap.size + 1) 51 #[.slice none 0 0, .int .i64 0] := (kR.next hb7').alloc _
            have hwr : WrAt (w7.alloc (.cells #[.slice A7 l.length c7, .int .i64 m] 86)) w.heap.size w7.heap.size (unB l m) := wr_of hb hBO (Blk.new _ _ _) ((own_less ho7.out (Nat.le_of_lt hsz)).alloc _)
            have hb8 : Below w.heap.size w (w7.alloc (.cells #[.slice A7 l.length c7, .int .i64 m] 86)) := (bnext hb2 hb7').alloc (Nat.le_trans hb2.size hb7'.size) _
            have hgw : w.heap.size ≤ w7.heap.size := Nat.le_trans hb2.size hb7'.size
            have hgr : w.heap.size + 1 ≠ w7.heap.size := Nat.ne_of_lt (Nat.lt_of_lt_of_le kR.lt hb7'.size)
            clear ho7
            generalize w7.alloc (.cells #[.slice A7 l.length c7, .int .i64 m] 86) = W8 at kR8 hwr hb8 ⊢
            generalize w7.heap.size = g at hwr hgw hgr ⊢
            clear n0 n1 kN kR hb7 hb7'
            go_wp2_with fail
            refine (wput_any w.heap.size g (unB l m) v k hv (by omega) (by rw [unB_len]; omega) _ hgw hwr).mono ?_
            rintro e w9 ⟨rfl, ⟨A9, c9, hB9, ho9⟩, hb9, hm9⟩
            have kR9 := kR8.mod hm9 hgr (by decide)
            have r0 : w9.cell? ⟨w.heap.size + 1, 0, none⟩ = some (.slice none 0 0) := kR9.cell 0
            have r1 : w9.cell? ⟨w.heap.size + 1, 1, none⟩ = some (.int .i64 0) := kR9.cell 1
            have f0 := kR9.frozen 0
            have f1 := kR9.frozen 1
            have q0 : w9.cell? ⟨g, 0, none⟩ = some (.slice A9 (packB (unB l m ++ toB v k)).length c9) := hB9.cell 0
            have q1 : w9.cell? ⟨g, 1, none⟩ = some (.int .i64 (unB l m ++ toB v k).length) := hB9.cell 1
            have ho9 := Lib.hid ho9
            go_wp2_with fail
            refine bodyPost_ret (v := .tuple #[.agg #[.slice A9 (packB (unB l m ++ toB v k)).length c9, .int .i64 (unB l m ++ toB v k).length], .int .i64 0]) (by simp [results, Try.results29, go_sem, *]) rfl (RV.mk ⟨A9, c9, ?_, ?_, ?_⟩)
            · rw [show ((unB l m ++ toB v k).length : Int) = (m : Int) + (k : Int) by rw [List.length_append, unB_len, toB_len]; omega]
            · exact own_set_other (own_set_other ho9.out (own_row_ne kR9 ho9.out (by decide)) 0 _) (own_row_ne kR9 ho9.out (by decide)) 1 _
            · exact ((hb8.trans hb9).setCell (by simp) _).setCell (by simp) _
          · rename_i hHd; clear hHd
            have hgr : w.heap.size + 1 ≠ w1.heap.size := Nat.ne_of_lt kR.lt
            have kR8 : Blk ((w7.setCell ⟨w1.heap.size, 0, none⟩ (.slice A7 l.length c7)).setCell ⟨w1.heap.size, 1, none⟩ (.int .i64 m)) (w.heap.size + 1) 51 #[.slice none 0 0, .int .i64 0] := (kR.next hb7').below (Below.setCell (p := ⟨w1.heap.size, 1, none⟩) (Below.setCell (p := ⟨w1.heap.size, 0, none⟩) (Below.refl (w.heap.size + 2) _) (Nat.succ_le_of_lt kR.lt) _) (Nat.succ_le_of_lt kR.lt) _) (by omega)
            have hwr : WrAt ((w7.setCell ⟨w1.heap.size, 0, none⟩ (.slice A7 l.length c7)).setCell ⟨w1.heap.size, 1, none⟩ (.int .i64 m)) w.heap.size w1.heap.size (unB l m) := wr_of hb hBO ((kz.set 0 _).set 1 _) (own_set_other (own_set_other (own_less ho7.out (Nat.le_trans (Nat.le_of_lt hsz) (by simp))) (own_row_ne kz ho7.out (by decide)) 0 _) (own_row_ne kz ho7.out (by decide)) 1 _)
            have hb8 : Below w.heap.size w ((w7.setCell ⟨w1.heap.size, 0, none⟩ (.slice A7 l.length c7)).setCell ⟨w1.heap.size, 1, none⟩ (.int .i64 m)) := ((bnext hb2 hb7').setCell hb2.size _).setCell hb2.size _
            have hgw : w.heap.size ≤ w1.heap.size := hb2.size
            clear ho7 z0 z1 fz0 fz1 kz
            generalize ((w7.setCell ⟨w1.heap.size, 0, none⟩ (.slice A7 l.length c7)).setCell ⟨w1.heap.size, 1, none⟩ (.int .i64 m)) = W8 at kR8 hwr hb8 ⊢
            generalize hgg : w1.heap.size = g at hwr hgw hgr ⊢
            clear hgg
            clear n0 n1 kN kR hb7 hb7'
            go_wp2_with fail
            refine (wput_any w.heap.size g (unB l m) v k hv (by omega) (by rw [unB_len]; omega) _ hgw hwr).mono ?_
            rintro e w9 ⟨rfl, ⟨A9, c9, hB9, ho9⟩, hb9, hm9⟩
            have kR9 := kR8.mod hm9 hgr (by decide)
            have r0 : w9.cell? ⟨w.heap.size + 1, 0, none⟩ = some (.slice none 0 0) := kR9.cell 0
            have r1 : w9.cell? ⟨w.heap.size + 1, 1, none⟩ = some (.int .i64 0) := kR9.cell 1
            have f0 := kR9.frozen 0
            have f1 := kR9.frozen 1
            have q0 : w9.cell? ⟨g, 0, none⟩ = some (.slice A9 (packB (unB l m ++ toB v k)).length c9) := hB9.cell 0
            have q1 : w9.cell? ⟨g, 1, none⟩ = some (.int .i64 (unB l m ++ toB v k).length) := hB9.cell 1
            have ho9 := Lib.hid ho9
            go_wp2_with fail
            refine bodyPost_ret (v := .tuple #[.agg #[.slice A9 (packB (unB l m ++ toB v k)).length c9, .int .i64 (unB l m ++ toB v k).length], .int .i64 0]) (by simp [results, Try.results29, go_sem, *]) rfl (RV.mk ⟨A9, c9, ?_, ?_, ?_⟩)
            · rw [show ((unB l m ++ toB v k).length : Int) = (m : Int) + (k : Int) by rw [List.length_append, unB_len, toB_len]; omega]
            · exact own_set_other (own_set_other ho9.out (own_row_ne kR9 ho9.out (by decide)) 0 _) (own_row_ne kR9 ho9.out (by decide)) 1 _
            · exact ((hb8.trans hb9).setCell (by simp) _).setCell (by simp) _
        · have hsh := hsh hk1
          clear h1
          go_enter Try.func29, Try.ntmps29
          go_wp2_with fail
          refine (bcheck_any A c l m hN hl _ (by exact ((h.next hbx).alloc (Nat.le_refl _) _).more (by simp))).mono ?_
          rintro e w1 ⟨rfl, hb1⟩
          have hb2 := bnext hbx2 hb1
          have hH1 := h.next hb2
          have kR := kR0.next hb1
          have kN := (kN0.alloc (.cells #[.slice none 0 0, .int .i64 0] 51)).next hb1
          have n0 : w1.cell? ⟨w.heap.size, 0, none⟩ = some (.slice A l.length c) := kN.cell 0
          have n1 : w1.cell? ⟨w.heap.size, 1, none⟩ = some (.int .i64 m) := kN.cell 1
          have hsz : w.heap.size < w1.heap.size := kN.lt
          rw [Hk.out]
          go_wp2_with fail
          go_region_held3 (fun w' => w'.cell? ⟨w.heap.size, 0, none⟩ = some (.slice A l.length c) ∧ w'.cell? ⟨w.heap.size, 1, none⟩ = some (.int .i64 m))
            (first | ((refine keep2 (B := w1.heap.size) (w := w1) ?_ hsz n0 n1; (repeat' (first | with_reducible exact hb7' | with_reducible exact Below.refl _ _ | with_reducible refine below_drew ?_ | with_reducible refine below_drewN ?_ _ | with_reducible refine Below.setCell ?_ (by simp) _ | with_reducible refine Below.alloc ?_ (by first | exact hb7'.size | simp) _)); done)) | (trace_state; fail))
            ((go_at_call 48; refine (cloneU8_any A l.length c (u8s l) (by simp [u8s]) hu1.out hA0.out (by omega) _ (by first | with_reducible exact hH1 | with_reducible exact Has.drewA (Has.allocA hH1 _) | with_reducible exact Has.drewB (Has.allocA hH1 _) _ | with_reducible exact Has.drewA hH1 | with_reducible exact Has.drewB hH1 _ | with_reducible exact Has.allocA (Has.drewA hH1) _ | with_reducible exact Has.allocA (Has.drewB hH1 _) _ | with_reducible exact Has.allocA hH1 _)).mono ?_; rintro e w7 ⟨v7, rfl, A7, c7, rfl, ho7, hb7⟩; have ho7 := Lib.hid ho7; have hb7' : Below w1.heap.size w1 w7 := Below.trans (by (repeat' (first | with_reducible exact Below.refl _ _ | with_reducible refine below_drew ?_ | with_reducible refine below_drewN ?_ _ | with_reducible refine Below.alloc ?_ (by simp) _))) (hb7.mono (by simp)); try (have kz := Blk.next (Blk.drewA (Blk.new w1 86 #[.slice none 0 0, .int .i64 0])) hb7; have z0 : w7.cell? ⟨w1.heap.size, 0, none⟩ = some (.slice none 0 0) := kz.cell 0; have fz0 : w7.frozen? ⟨w1.heap.size, 0, none⟩ = false := kz.frozen 0; have z1 : w7.cell? ⟨w1.heap.size, 1, none⟩ = some (.int .i64 0) := kz.cell 1; have fz1 : w7.frozen? ⟨w1.heap.size, 1, none⟩ = false := kz.frozen 1)))
          · rename_i hHd; clear hHd
            have kR8 : Blk (w7.alloc (.cells #[.slice A7 l.length c7, .int .i64 m] 86)) (w.heap.size + 1) 51 #[.slice none 0 0, .int .i64 0] := (kR.next hb7').alloc _
            have hwr : WrAt (w7.alloc (.cells #[.slice A7 l.length c7, .int .i64 m] 86)) w.heap.size w7.heap.size (unB l m) := wr_of hb hBO (Blk.new _ _ _) ((own_less ho7.out (Nat.le_trans (Nat.le_of_lt hsz) (by simp))).alloc _)
            have hb8 : Below w.heap.size w (w7.alloc (.cells #[.slice A7 l.length c7, .int .i64 m] 86)) := (bnext hb2 hb7').alloc (Nat.le_trans hb2.size hb7'.size) _
            have hgw : w.heap.size ≤ w7.heap.size := Nat.le_trans hb2.size hb7'.size
            have hgr : w.heap.size + 1 ≠ w7.heap.size := Nat.ne_of_lt (Nat.lt_of_lt_of_le kR.lt hb7'.size)
            clear ho7
            generalize w7.alloc (.cells #[.slice A7 l.length c7, .int .i64 m] 86) = W8 at kR8 hwr hb8 ⊢
            generalize w7.heap.size = g at hwr hgw hgr ⊢
            clear n0 n1 kN kR hb7 hb7'
            go_wp2_with fail
            refine (wput_any w.heap.size g (unB l m) v k hv (by omega) (by rw [unB_len]; omega) _ hgw hwr).mono ?_
            rintro e w9 ⟨rfl, ⟨A9, c9, hB9, ho9⟩, hb9, hm9⟩
            have kR9 := kR8.mod hm9 hgr (by decide)
            have r0 : w9.cell? ⟨w.heap.size + 1, 0, none⟩ = some (.slice none 0 0) := kR9.cell 0
            have r1 : w9.cell? ⟨w.heap.size + 1, 1, none⟩ = some (.int .i64 0) := kR9.cell 1
            have f0 := kR9.frozen 0
            have f1 := kR9.frozen 1
            have q0 : w9.cell? ⟨g, 0, none⟩ = some (.slice A9 (packB (unB l m ++ toB v k)).length c9) := hB9.cell 0
            have q1 : w9.cell? ⟨g, 1, none⟩ = some (.int .i64 (unB l m ++ toB v k).length) := hB9.cell 1
            have ho9 := Lib.hid ho9
            go_wp2_with fail
            refine bodyPost_ret (v := .tuple #[.agg #[.slice A9 (packB (unB l m ++ toB v k)).length c9, .int .i64 (unB l m ++ toB v k).length], .int .i64 0]) (by simp [results, Try.results29, go_sem, *]) rfl (RV.mk ⟨A9, c9, ?_, ?_, ?_⟩)
            · rw [show ((unB l m ++ toB v k).length : Int) = (m : Int) + (k : Int) by rw [List.length_append, unB_len, toB_len]; omega]
            · exact own_set_other (own_set_other ho9.out (own_row_ne kR9 ho9.out (by decide)) 0 _) (own_row_ne kR9 ho9.out (by decide)) 1 _
            · exact ((hb8.trans hb9).setCell (by simp) _).setCell (by simp) _
          · rename_i hHd; clear hHd
            have hgr : w.heap.size + 1 ≠ w1.heap.size := Nat.ne_of_lt kR.lt
            have kR8 : Blk ((w7.setCell ⟨w1.heap.size, 0, none⟩ (.slice A7 l.length c7)).setCell ⟨w1.heap.size, 1, none⟩ (.int .i64 m)) (w.heap.size + 1) 51 #[.slice none 0 0, .int .i64 0] := (kR.next hb7').below (Below.setCell (p := ⟨w1.heap.size, 1, none⟩) (Below.setCell (p := ⟨w1.heap.size, 0, none⟩) (Below.refl (w.heap.size + 2) _) (Nat.succ_le_of_lt kR.lt) _) (Nat.succ_le_of_lt kR.lt) _) (by omega)
            have hwr : WrAt ((w7.setCell ⟨w1.heap.size, 0, none⟩ (.slice A7 l.length c7)).setCell ⟨w1.heap.size, 1, none⟩ (.int .i64 m)) w.heap.size w1.heap.size (unB l m) := wr_of hb hBO ((kz.set 0 _).set 1 _) (own_set_other (own_set_other (own_less ho7.out (Nat.le_trans (Nat.le_of_lt hsz) (by simp))) (own_row_ne kz ho7.out (by decide)) 0 _) (own_row_ne kz ho7.out (by decide)) 1 _)
            have hb8 : Below w.heap.size w ((w7.setCell ⟨w1.heap.size, 0, none⟩ (.slice A7 l.length c7)).setCell ⟨w1.heap.size, 1, none⟩ (.int .i64 m)) := ((bnext hb2 hb7').setCell hb2.size _).setCell hb2.size _
            have hgw : w.heap.size ≤ w1.heap.size := hb2.size
            clear ho7 z0 z1 fz0 fz1 kz
            generalize ((w7.setCell ⟨w1.heap.size, 0, none⟩ (.slice A7 l.length c7)).setCell ⟨w1.heap.size, 1, none⟩ (.int .i64 m)) = W8 at kR8 hwr hb8 ⊢
            generalize hgg : w1.heap.size = g at hwr hgw hgr ⊢
            clear hgg
            clear n0 n1 kN kR hb7 hb7'
            go_wp2_with fail
            refine (wput_any w.heap.size g (unB l m) v k hv (by omega) (by rw [unB_len]; omega) _ hgw hwr).mono ?_
            rintro e w9 ⟨rfl, ⟨A9, c9, hB9, ho9⟩, hb9, hm9⟩
            have kR9 := kR8.mod hm9 hgr (by decide)
            have r0 : w9.cell? ⟨w.heap.size + 1, 0, none⟩ = some (.slice none 0 0) := kR9.cell 0
            have r1 : w9.cell? ⟨w.heap.size + 1, 1, none⟩ = some (.int .i64 0) := kR9.cell 1
            have f0 := kR9.frozen 0
            have f1 := kR9.frozen 1
            have q0 : w9.cell? ⟨g, 0, none⟩ = some (.slice A9 (packB (unB l m ++ toB v k)).length c9) := hB9.cell 0
            have q1 : w9.cell? ⟨g, 1, none⟩ = some (.int .i64 (unB l m ++ toB v k).length) := hB9.cell 1
            have ho9 := Lib.hid ho9
            go_wp2_with fail
            refine bodyPost_ret (v := .tuple #[.agg #[.slice A9 (packB (unB l m ++ toB v k)).length c9, .int .i64 (unB l m ++ toB v k).length], .int .i64 0]) (by simp [results, Try.results29, go_sem, *]) rfl (RV.mk ⟨A9, c9, ?_, ?_, ?_⟩)
            · rw [show ((unB l m ++ toB v k).length : Int) = (m : Int) + (k : Int) by rw [List.length_append, unB_len, toB_len]; omega]
            · exact own_set_other (own_set_other ho9.out (own_row_ne kR9 ho9.out (by decide)) 0 _) (own_row_ne kR9 ho9.out (by decide)) 1 _
            · exact ((hb8.trans hb9).setCell (by simp) _).setCell (by simp) _
  · have Hk := Lib.hid hk
    have E := Lib.hid (show pushN l N v n = (([], 0), 4) by unfold pushN; rw [if_pos (by rw [hk]; simp)])
    clear hk
    rw [E.out]
    go_enter Try.func29, Try.ntmps29
    go_wp2_with fail
    refine (bcheck_any A c l N hN hl _ (by exact ((h.next hbx).alloc (Nat.le_refl _) _).more (by simp))).mono ?_
    rintro e w1 ⟨rfl, hb1⟩
    have hb2 := bnext hbx2 hb1
    have kR := kR0.next hb1
    have kN := (kN0.alloc (.cells #[.slice none 0 0, .int .i64 0] 51)).next hb1
    have r0 : w1.cell? ⟨w.heap.size + 1, 0, none⟩ = some (.slice none 0 0) := kR.cell 0
    have r1 : w1.cell? ⟨w.heap.size + 1, 1, none⟩ = some (.int .i64 0) := kR.cell 1
    have f0 := kR.frozen 0
    have f1 := kR.frozen 1
    have n1 : w1.cell? ⟨w.heap.size, 1, none⟩ = some (.int .i64 N) := kN.cell 1
    rw [Hk.out]
    go_wp2_with fail
    refine bodyPost_ret (v := .tuple #[.agg #[.slice none 0 0, .int .i64 0], .int .i64 4]) (by simp [results, Try.results29, go_sem, *]) rfl (RV.mk ⟨none, 0, rfl, ⟨rfl, .inl ⟨rfl, rfl⟩⟩, (hb2.setCell (by simp) _).setCell (by simp) _⟩)
end Go.Proofs.Ytkcfhfplppdnnaa
