/- Claims, and what Newer of package claim tells. Conditions: rows lie in their cells. -/
import Derived.Test.YtokilodekbjpnaaCmp
import Derived.Test.YtokilodekbjpnaaEqU64
import Derived.StillTailTactics
namespace Go.Proofs.Ytokilodekbjpnaa
open Go.RowKit

structure Clm where
  v : Int
  s : Int
  nm : ByteArray
  tk : List Nat
instance : Inhabited Clm := ⟨⟨0, 0, ⟨#[]⟩, []⟩⟩
def newerN (a b : Clm) : Bool := decide (0 < orL [cmpI a.v b.v, cmpI a.s b.s, cmpL a.tk b.tk])

theorem still_of {P : Program} {f : FuncId} {args : Array Value} {w : World} {v : Value} (h : Calls P f args w (R1 v (fun w' => w' = w))) : Calls P f args w (fun e w' => e = .returned v ∧ w' = w) :=
  h.mono fun _ _ h => h

set_option maxRecDepth 1000000 in
set_option maxHeartbeats 4000000 in
theorem newer_any (a b : Clm) (A B : Option Addr) (n c m d : Nat) (hn : a.tk.length = n) (hm : b.tk.length = m) (hl : n ≤ maxLen) (hk : m ≤ maxLen) (w : World) (h : Has w w.heap.size A (u64s a.tk)) (h' : Has w w.heap.size B (u64s b.tk)) :
    Calls Try.prog 14 #[.agg #[.int .i64 a.v, .int .i64 a.s, .string a.nm, .slice A n c], .agg #[.int .i64 b.v, .int .i64 b.s, .string b.nm, .slice B m d]] w (R1 (.bool (newerN a b)) (Below w.heap.size w)) := by
  obtain ⟨x, hx⟩ : ∃ x, cmpI a.v b.v = x := ⟨_, rfl⟩
  obtain ⟨y, hy⟩ : ∃ y, cmpI a.s b.s = y := ⟨_, rfl⟩
  obtain ⟨z, hz⟩ : ∃ z, cmpL a.tk b.tk = z := ⟨_, rfl⟩
  have hN : Hid (newerN a b = decide (0 < orL [x, y, z])) := Lib.hid (by unfold newerN; rw [hx, hy, hz])
  have HN := hN
  have Hx := Lib.hid hx; clear hx
  have Hy := Lib.hid hy; clear hy
  have Hz := Lib.hid hz; clear hz
  have Hn := Lib.hid hn; clear hn
  have Hm := Lib.hid hm; clear hm
  obtain ⟨w0, hw0⟩ : ∃ w0, (w.alloc (.cells #[.int .i64 a.v, .int .i64 a.s, .string a.nm, .slice A n c] 34)).alloc (.cells #[.int .i64 b.v, .int .i64 b.s, .string b.nm, .slice B m d] 34) = w0 := ⟨_, rfl⟩
  have hb0 : Below w.heap.size w w0 := by rw [← hw0]; exact ((Below.refl _ _).alloc (Nat.le_refl _) _).alloc (by simp) _
  have ka : Blk w0 w.heap.size 34 #[.int .i64 a.v, .int .i64 a.s, .string a.nm, .slice A n c] := by rw [← hw0]; exact (Blk.new _ _ _).alloc _
  have kb : Blk w0 (w.heap.size + 1) 34 #[.int .i64 b.v, .int .i64 b.s, .string b.nm, .slice B m d] := by rw [← hw0]; have := Blk.new (w.alloc (.cells #[.int .i64 a.v, .int .i64 a.s, .string a.nm, .slice A n c] 34)) 34 #[.int .i64 b.v, .int .i64 b.s, .string b.nm, .slice B m d]; simpa using this
  have H1 := Lib.hid (h.next hb0)
  have H2 := Lib.hid (h'.next hb0)
  have HW := Lib.hid hw0; clear hw0
  have p0 : w0.cell? ⟨w.heap.size, 0, none⟩ = some (.int .i64 a.v) := ka.cell 0
  have p1 : w0.cell? ⟨w.heap.size, 1, none⟩ = some (.int .i64 a.s) := ka.cell 1
  have p3 : w0.cell? ⟨w.heap.size, 3, none⟩ = some (.slice A n c) := ka.cell 3
  have q0 : w0.cell? ⟨w.heap.size + 1, 0, none⟩ = some (.int .i64 b.v) := kb.cell 0
  have q1 : w0.cell? ⟨w.heap.size + 1, 1, none⟩ = some (.int .i64 b.s) := kb.cell 1
  have q3 : w0.cell? ⟨w.heap.size + 1, 3, none⟩ = some (.slice B m d) := kb.cell 3
  go_enter Try.func14, Try.ntmps14
  go_wp2_with fail
  rw [HW.out]
  go_still_tail 17, (by kernel_rfl)
  still_call (still_of (v := .int .i64 x) (by rw [← Hx.out]; exact compareI_any _ _ _))
  repeat still_step
  still_call (still_of (v := .int .i64 y) (by rw [← Hy.out]; exact compareN_any _ _ _))
  repeat still_step
  still_call (still_of (v := .int .i64 z) (by rw [← Hz.out]; exact compareUs_any A B n m c d a.tk b.tk Hn.out Hm.out hl hk _ (by exact H1.out) (by exact H2.out)))
  refine wpStill_nil ?_
  change wpList _ _ _ _ _ (w0.drewN 1)
  go_wp2_with fail
  refine (orInts_any _ 3 _ [x, y, z] rfl (by decide) _ (Has.fresh (w0.drewN 1) #[.int .i64 x, .int .i64 y, .int .i64 z] _)).mono ?_
  rintro e w3 ⟨rfl, rfl⟩
  obtain ⟨r, hr⟩ : ∃ r, orL [x, y, z] = r := ⟨_, rfl⟩
  have hN2 : Hid (newerN a b = decide (0 < r)) := Lib.hid (by rw [HN.out, hr])
  rw [hr]
  clear hr
  go_wp2_with fail
  go_ret
  exact R1.mk (bool_eq hN2.out.symm) ((below_drewN hb0 1).alloc (by exact hb0.size) _)
end Go.Proofs.Ytokilodekbjpnaa
