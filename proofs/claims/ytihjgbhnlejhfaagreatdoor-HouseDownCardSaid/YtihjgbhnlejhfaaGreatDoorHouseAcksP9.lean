/- Texts of the proof of HouseAcks, joined (by merge.py). Conditions: each theorem's own hypotheses. -/
import Derived.Test.YtihjgbhnlejhfaaGreatDoorHouseAcksP3
import Derived.Test.YtihjgbhnlejhfaaGreatDoorHouseAcksP6
import Derived.Deep.RegionHeld3
namespace Go.Proofs.YtihjgbhnlejhfaaGreatDoor
open Go.RowKit

theorem below_drewD {B : Nat} {a w : World} (h : Below B a w) : Below B a w.drew := below_drewN h 1
theorem Has.drewC {w : World} {A : Option Addr} {xs : List Value} (h : Has w w.heap.size A xs) : Has w.drew w.drew.heap.size A xs := h
theorem Has.drewE {w : World} {A : Option Addr} {xs : List Value} (h : Has w w.heap.size A xs) (n : Nat) : Has (w.drewN n) (w.drewN n).heap.size A xs := h
theorem keepD {w W : World} {B g : Nat} {x y : Value} (h : Below B w W) (h1 : g < B) (c0 : w.cell? ⟨g, 0, none⟩ = some x) (c1 : w.cell? ⟨g, 1, none⟩ = some y) : W.cell? ⟨g, 0, none⟩ = some x ∧ W.cell? ⟨g, 1, none⟩ = some y :=
  ⟨(h.cell (p := ⟨g, 0, none⟩) h1).trans c0, (h.cell (p := ⟨g, 1, none⟩) h1).trans c1⟩
theorem mod2_two {g : Nat} {w w1 : World} (h : Below w.heap.size w w1) (u v : Value) : Mod2 g none w ((w1.setCell ⟨g, 0, none⟩ u).setCell ⟨g, 1, none⟩ v) :=
  ⟨h.os, h.tape, h.output, by simp [World.setCell]; exact h.size, fun q hq hne _ =>
    (Below.heap_setCell _ ⟨g, 1, none⟩ v q hne).trans ((Below.heap_setCell w1 ⟨g, 0, none⟩ u q hne).trans (h.block q hq))⟩
theorem own_cut {w : World} {base c : Nat} {A : Option Addr} {b : List Nat} (h : w.ownsRow base 5 1 (.slice A b.length c) b.length (u8s b)) {n : Nat} (hn : n ≤ b.length) : w.ownsRow base 5 1 (.slice A (b.take n).length c) (b.take n).length (u8s (b.take n)) := by
  have hl : (b.take n).length = n := by rw [List.length_take]; omega
  have e : u8s (b.take n) = (u8s b).take n := by simp [u8s, List.map_take]
  rw [hl, e]
  refine ⟨by rw [List.length_take, u8s_length]; omega, ?_⟩
  rcases h.2 with ⟨h1, h2⟩ | ⟨q, cap, cur, h1, hb, hg, h3, h4, h5, h6⟩
  · injection h1 with h1 _ h7
    subst h1 h7
    have : n = 0 := by omega
    subst this
    exact .inl ⟨rfl, rfl⟩
  · injection h1 with h1 _ h7
    subst h1 h7
    refine .inr ⟨q, c, cur, rfl, hb, hg, by omega, h4, h5, ?_⟩
    rw [← h6, List.take_take]
    congr 1
    omega

set_option maxRecDepth 1000000 in
set_option maxHeartbeats 400000 in
theorem dsync_any (base g : Nat) (A : Option Addr) (c : Nat) (b : List Nat) (s : Int) (w : World) (hD : DiskAt w base g A c b s) :
    Calls Tryz.prog 104 #[.pointer (some ⟨g, 0, none⟩)] w (R1 (.tuple #[]) (fun w' => w' = w.setCell ⟨g, 1, none⟩ (.int .i64 b.length))) := by
  have k0 : w.cell? ⟨g, 0, none⟩ = some (.slice A b.length c) := hD.1.cell 0
  have k1 : w.cell? ⟨g, 1, none⟩ = some (.int .i64 s) := hD.1.cell 1
  have f1 := hD.1.frozen 1
  go_enter Tryz.func104, Tryz.ntmps104
  go_wp2
  exact bodyPost_end (v := .tuple #[]) (results_none rfl _ _ _) rfl (R1.mk rfl rfl)
theorem disk_sync {w : World} {base g : Nat} {A : Option Addr} {c : Nat} {b : List Nat} {s : Int} (hD : DiskAt w base g A c b s) : DiskAt (w.setCell ⟨g, 1, none⟩ (.int .i64 b.length)) base g A c b b.length :=
  ⟨hD.1.set 1 _, own_set2 hD.2 (own_row_ne2 hD.1 hD.2 (by decide)) 1 _⟩

set_option maxRecDepth 1000000 in
set_option maxHeartbeats 1000000 in
theorem dcrash_no (base g : Nat) (A : Option Addr) (c : Nat) (b : List Nat) (s : Nat) (hs : s ≤ b.length) (hb : b.length ≤ 1000000) (k : Int) (hkb : -9223372036854775808 ≤ k ∧ k ≤ 9223372036854775807) (hk : k < 0 ∨ (b.length : Int) - (s : Int) < k) (w : World) (hD : DiskAt w base g A c b s) :
    Calls Tryz.prog 87 #[.pointer (some ⟨g, 0, none⟩), .int .i64 k] w (R1 (.int .i64 1) (Drawn w)) := by
  have k0 : w.cell? ⟨g, 0, none⟩ = some (.slice A b.length c) := hD.1.cell 0
  have k1 : w.cell? ⟨g, 1, none⟩ = some (.int .i64 s) := hD.1.cell 1
  have e1 : IntKind.i64.wrap ((b.length : Int) - (s : Int)) = (b.length : Int) - (s : Int) := IntWalk.i64_in _ (by omega)
  rcases (show k < 0 ∨ (0 ≤ k ∧ (b.length : Int) - (s : Int) < k) by omega) with h1 | ⟨h1, h2⟩
  · have f1 : decide (k < 0) = true := by simpa using h1
    clear hk
    go_enter Tryz.func87, Tryz.ntmps87
    go_wp2_with fail
    go_quiet (fail)
    go_wp2_with fail
    go_ret
    exact R1.mk rfl ⟨_, rfl⟩
  · have f1 : decide (k < 0) = false := by rw [decide_eq_false_iff_not]; omega
    have f2 : decide ((b.length : Int) - (s : Int) < k) = true := by simpa using h2
    clear hk
    go_enter Tryz.func87, Tryz.ntmps87
    go_wp2_with fail
    go_quiet (fail)
    go_wp2_with fail
    go_ret
    exact R1.mk rfl ⟨_, rfl⟩

/-- what a disk is behind a crash that kept k bytes -/
def CrashP (base g : Nat) (A : Option Addr) (c : Nat) (b : List Nat) (n : Nat) (w w' : World) : Prop :=
  DiskAt w' base g A c (b.take n) n ∧ Mod2 g none w w'

set_option maxRecDepth 1000000 in
set_option maxHeartbeats 2000000 in
theorem dcrash_yes (base g : Nat) (A : Option Addr) (c : Nat) (b : List Nat) (s : Nat) (hs : s ≤ b.length) (hbb : Bytes b) (hb : b.length ≤ 1000000) (k : Nat) (hk : s + k ≤ b.length) (n : Nat) (rs : List (List Nat)) (hcut : cutN (b.take (s + k)) = (rs, n)) (hn : n ≤ b.length) (w : World) (hD : DiskAt w base g A c b s) :
    Calls Tryz.prog 87 #[.pointer (some ⟨g, 0, none⟩), .int .i64 k] w (R1 (.int .i64 0) (CrashP base g A c b n w)) := by
  have k0 : w.cell? ⟨g, 0, none⟩ = some (.slice A b.length c) := hD.1.cell 0
  have k1 : w.cell? ⟨g, 1, none⟩ = some (.int .i64 s) := hD.1.cell 1
  have hgl := hD.1.lt
  obtain ⟨q1, q2⟩ := own_len hD.2
  have hnil : A = none → c = 0 := by
    obtain ⟨A', c', e, _, _, _, h2⟩ := own_form hD.2
    injection e with e1 _ e2
    subst e1 e2
    exact h2
  have hnil := Lib.hid hnil
  have Hcut := Lib.hid hcut; clear hcut
  have e1 : IntKind.i64.wrap ((b.length : Int) - (s : Int)) = (b.length : Int) - (s : Int) := IntWalk.i64_in _ (by omega)
  have e2 : IntKind.i64.wrap ((s : Int) + (k : Int)) = (s : Int) + (k : Int) := IntWalk.i64_in _ (by omega)
  have f1 : decide ((k : Int) < 0) = false := by rw [decide_eq_false_iff_not]; omega
  have f2 : decide ((b.length : Int) - (s : Int) < (k : Int)) = false := by rw [decide_eq_false_iff_not]; omega
  have p1 : (0 : Int) ≤ (s : Int) + (k : Int) := by omega
  have p2 : (s : Int) + (k : Int) ≤ (c : Int) := by omega
  have p3 : ((s : Int) + (k : Int)).toNat = s + k := by omega
  have htl := Lib.hid (show (b.take (s + k)).length = s + k by rw [List.length_take]; omega)
  have htb : Bytes (b.take (s + k)) := fun y hy => hbb y (List.mem_of_mem_take hy)
  have htb := Lib.hid htb
  have hHas := Lib.hid (takeU8 (Has.of_own hD.2) (s + k))
  go_enter Tryz.func87, Tryz.ntmps87
  go_wp2_with fail
  go_quiet (fail)
  go_wp2_with fail
  go_region_held3 (fun w' => w'.cell? ⟨g, 0, none⟩ = some (.slice A b.length c) ∧ w'.cell? ⟨g, 1, none⟩ = some (.int .i64 s))
    (first | (refine keepD (B := w.heap.size) (w := w) ?_ hgl k0 k1; (repeat' (first | with_reducible exact hb7' | with_reducible exact Below.refl _ _ | with_reducible refine below_drewD ?_ | with_reducible refine below_drewN ?_ _)); done) | (trace_state; fail))
    ((go_at_call 109; refine (cut_any A (s + k) c (b.take (s + k)) (rs, n) Hcut.out htl.out (by omega) q2 (by rw [htl.out]; omega) htb.out hnil.out _ (by first | with_reducible exact hHas.out | with_reducible exact Has.drewC hHas.out | with_reducible exact Has.drewE hHas.out _)).mono ?_; rintro e w7 ⟨v7, rfl, A7, c7, vs7, rfl, ho7, hrec7, hb7⟩; have hb7' : Below w.heap.size w w7 := Below.trans (by (repeat' (first | with_reducible exact Below.refl _ _ | with_reducible refine below_drewD ?_ | with_reducible refine below_drewN ?_ _))) (hb7.mono (by simp))))
  rename_i hHd; clear hHd
  have hk7 := hD.1.next hb7'
  have hown7 := own_next hD.2 hb7'
  clear k0 k1 ho7 hrec7 hb7
  have k0 : w7.cell? ⟨g, 0, none⟩ = some (.slice A b.length c) := hk7.cell 0
  have fz0 := hk7.frozen 0
  have n1 : (n : Int) ≤ (c : Int) := by omega
  have hnl : (b.take n).length = n := by rw [List.length_take]; omega
  have hD8 : DiskAt (w7.setCell ⟨g, 0, none⟩ (.slice A n c)) base g A c (b.take n) s := ⟨by rw [hnl]; exact hk7.set 0 _, own_set2 (own_cut hown7 hn) (by have := own_row_ne2 hk7 hown7 (by decide); intro e; apply this; rw [e]; cases A <;> rfl) 0 _⟩
  have hmod : Mod2 g none w ((w7.setCell ⟨g, 0, none⟩ (.slice A n c)).setCell ⟨g, 1, none⟩ (.int .i64 (b.take n).length)) := mod2_two hb7' _ _
  have hD9 := disk_sync hD8
  have HNL := Lib.hid hnl; clear hnl
  have hD8 := Lib.hid hD8
  clear hk7 hown7
  go_wp2_with fail
  refine (dsync_any base g A c (b.take n) s _ (by exact hD8.out)).mono ?_
  rintro e w9 ⟨rfl, rfl⟩
  go_wp2_with fail
  go_ret
  rw [HNL.out] at hD9 hmod
  exact R1.mk rfl ⟨hD9, hmod⟩
end Go.Proofs.YtihjgbhnlejhfaaGreatDoor
