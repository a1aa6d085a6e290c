/- Texts of the proof of HouseAcks, joined (by merge.py). Conditions: each theorem's own hypotheses. -/
import Derived.Test.YtihjgbhnlejhfaaGreatDoorHouseAcksP3
import Derived.Test.YtihjgbhnlejhfaaGreatDoorHouseAcksP12
import Derived.Sort.Grow
import Derived.StillTailTactics
namespace Go.Proofs.YtihjgbhnlejhfaaGreatDoor
open Go.RowKit Go.Sort

def cmpS (a b : ByteArray) : Int := if nlt a b then -1 else if nlt b a then 1 else 0
set_option maxRecDepth 1000000 in
theorem isNaNS_any (x : ByteArray) (w : World) : Calls Tryz.prog 147 #[.string x] w (R1 (.bool false) (fun w' => w' = w)) := by
  have e : (x.toList == x.toList) = true := by rw [beq_iff_eq]
  go_enter Tryz.func147, Tryz.ntmps147
  go_wp2_with fail
  go_ret
  exact R1.mk (by simp) rfl
set_option maxRecDepth 1000000 in
set_option maxHeartbeats 1000000 in
theorem compareS_any (x y : ByteArray) (w : World) : Calls Tryz.prog 124 #[.string x, .string y] w (R1 (.int .i64 (cmpS x y)) (fun w' => w' = w)) := by
  by_cases h : nlt x y
  · have e := Lib.hid (show cmpS x y = -1 by unfold cmpS; rw [if_pos h])
    have b1 : Op.bytesLess x.toList y.toList = true := by rw [nlt_bytes]; exact decide_eq_true h
    clear h
    go_enter Tryz.func124, Tryz.ntmps124
    go_wp2_with fail
    refine (isNaNS_any _ _).mono ?_
    rintro e1 w1 ⟨rfl, rfl⟩
    go_wp2_with fail
    refine (isNaNS_any _ _).mono ?_
    rintro e1 w2 ⟨rfl, rfl⟩
    go_wp2_with fail
    go_ret
    exact R1.mk (congrArg _ e.out.symm) rfl
  · have b1 : Op.bytesLess x.toList y.toList = false := by rw [nlt_bytes]; exact decide_eq_false h
    by_cases h2 : nlt y x
    · have e := Lib.hid (show cmpS x y = 1 by unfold cmpS; rw [if_neg h, if_pos h2])
      have b2 : Op.bytesLess y.toList x.toList = true := by rw [nlt_bytes]; exact decide_eq_true h2
      have b3 : (x.toList == y.toList) = false := by rw [beq_eq_false_iff_ne]; intro h3; rw [bytes_ext h3] at h2; exact nlt_irrefl _ h2
      clear h h2
      go_enter Tryz.func124, Tryz.ntmps124
      go_wp2_with fail
      refine (isNaNS_any _ _).mono ?_
      rintro e1 w1 ⟨rfl, rfl⟩
      go_wp2_with fail
      refine (isNaNS_any _ _).mono ?_
      rintro e1 w2 ⟨rfl, rfl⟩
      go_wp2_with fail
      go_ret
      exact R1.mk (congrArg _ e.out.symm) rfl
    · have e := Lib.hid (show cmpS x y = 0 by unfold cmpS; rw [if_neg h, if_neg h2])
      have b2 : Op.bytesLess y.toList x.toList = false := by rw [nlt_bytes]; exact decide_eq_false h2
      have b3 : (x.toList == y.toList) = true := by rw [beq_iff_eq, nlt_tri h h2]
      clear h h2
      go_enter Tryz.func124, Tryz.ntmps124
      go_wp2_with fail
      refine (isNaNS_any _ _).mono ?_
      rintro e1 w1 ⟨rfl, rfl⟩
      go_wp2_with fail
      refine (isNaNS_any _ _).mono ?_
      rintro e1 w2 ⟨rfl, rfl⟩
      go_wp2_with fail
      go_ret
      exact R1.mk (congrArg _ e.out.symm) rfl

/-- a place on the ring: a token, and its node's name -/
structure Plc where
  t : Nat
  nm : ByteArray
instance : Inhabited Plc := ⟨⟨0, ⟨#[]⟩⟩⟩
def encP (x : Plc) : List Value := [.int .u64 (x.t : Nat), .string x.nm]
def cfP (x y : Plc) : Int := orL [cmpI x.t y.t, cmpS x.nm y.nm]
theorem still_ofR {P : Program} {f : FuncId} {args : Array Value} {w : World} {v : Value} (h : Calls P f args w (R1 v (fun w' => w' = w))) : Calls P f args w (fun e w' => e = .returned v ∧ w' = w) :=
  h.mono fun _ _ h => h
/-- what the order lays behind it -/
def CmpW (W W' : World) : Prop := ∃ q os', W' = grow (W.drewN q) os'

set_option maxRecDepth 1000000 in
set_option maxHeartbeats 4000000 in
theorem places1_any (x y : Plc) (W : World) : Calls Tryz.prog 121 #[.agg #[.int .u64 (x.t : Nat), .string x.nm], .agg #[.int .u64 (y.t : Nat), .string y.nm]] W (R1 (.int .i64 (cfP x y)) (CmpW W)) := by
  obtain ⟨a, ha⟩ : ∃ a, cmpI x.t y.t = a := ⟨_, rfl⟩
  obtain ⟨b, hb⟩ : ∃ b, cmpS x.nm y.nm = b := ⟨_, rfl⟩
  have HN := Lib.hid (show cfP x y = orL [a, b] by unfold cfP; rw [ha, hb])
  have Ha := Lib.hid ha; clear ha
  have Hb := Lib.hid hb; clear hb
  obtain ⟨w0, hw0⟩ : ∃ w0, (W.alloc (.cells #[.int .u64 (x.t : Nat), .string x.nm] 166)).alloc (.cells #[.int .u64 (y.t : Nat), .string y.nm] 166) = w0 := ⟨_, rfl⟩
  have ka : Blk w0 W.heap.size 166 #[.int .u64 (x.t : Nat), .string x.nm] := by rw [← hw0]; exact (Blk.new _ _ _).alloc _
  have kb : Blk w0 (W.heap.size + 1) 166 #[.int .u64 (y.t : Nat), .string y.nm] := by
    rw [← hw0]
    have h1 := Blk.new (W.alloc (.cells #[.int .u64 (x.t : Nat), .string x.nm] 166)) 166 #[.int .u64 (y.t : Nat), .string y.nm]
    rw [World.size_alloc] at h1
    exact h1
  have HW := Lib.hid hw0; clear hw0
  have p0 : w0.cell? ⟨W.heap.size, 0, none⟩ = some (.int .u64 (x.t : Nat)) := ka.cell 0
  have p1 : w0.cell? ⟨W.heap.size, 1, none⟩ = some (.string x.nm) := ka.cell 1
  have q0 : w0.cell? ⟨W.heap.size + 1, 0, none⟩ = some (.int .u64 (y.t : Nat)) := kb.cell 0
  have q1 : w0.cell? ⟨W.heap.size + 1, 1, none⟩ = some (.string y.nm) := kb.cell 1
  go_enter Tryz.func121, Tryz.ntmps121
  go_wp2_with fail
  rw [HW.out]
  go_still_tail 10, (by kernel_rfl)
  still_call (still_ofR (v := .int .i64 a) (by rw [← Ha.out]; exact compareU_any _ _ _))
  repeat still_step
  still_call (still_ofR (v := .int .i64 b) (by rw [← Hb.out]; exact compareS_any _ _ _))
  refine wpStill_nil ?_
  change wpList _ _ _ _ _ (w0.drewN 1)
  go_wp2_with fail
  refine (orInts_any _ 2 _ [a, b] rfl (by decide) _ (Has.fresh (w0.drewN 1) #[.int .i64 a, .int .i64 b] _)).mono ?_
  rintro e w3 ⟨rfl, rfl⟩
  obtain ⟨r, hr⟩ : ∃ r, orL [a, b] = r := ⟨_, rfl⟩
  rw [hr] at HN ⊢
  go_wp2_with fail
  go_ret
  have hw : (w0.drewN 1).alloc (.cells #[.int .i64 a, .int .i64 b] 3) = grow (W.drewN 1) (#[.cells #[.int .u64 (x.t : Nat), .string x.nm] 166] ++ #[.cells #[.int .u64 (y.t : Nat), .string y.nm] 166] ++ #[.cells #[.int .i64 a, .int .i64 b] 3]) := by
    rw [← HW.out]
    show (((W.drewN 1).alloc (.cells #[.int .u64 (x.t : Nat), .string x.nm] 166)).alloc (.cells #[.int .u64 (y.t : Nat), .string y.nm] 166)).alloc (.cells #[.int .i64 a, .int .i64 b] 3) = _
    rw [alloc_eq_grow, alloc_eq_grow, alloc_eq_grow, grow_grow, grow_grow]
    rfl
  exact R1.mk (congrArg _ HN.out.symm) ⟨1, _, hw⟩
end Go.Proofs.YtihjgbhnlejhfaaGreatDoor
