/- Texts of the proof of ExprOne, joined (by merge.py). Conditions: each theorem's own hypotheses. -/
import Derived.Test.YtnicbhmeigpjkaaGreatDoorExprOneP15
import Derived.Test.YtnicbhmeigpjkaaGreatDoorExprOneP16
import Derived.Test.YtnicbhmeigpjkaaGreatDoorExprOneP28
import Derived.Laws.RangeString
import Derived.Laws.RangeAny
import Derived.Recover
namespace Go.Proofs.YtnicbhmeigpjkaaGreatDoor
open Go.RowKit

/-- all but block r stays -/
structure But (r : Nat) (w w' : World) : Prop where
  os : w'.os = w.os
  tape : w'.tape = w.tape
  output : w'.output = w.output
  size : w.heap.size ≤ w'.heap.size
  block : ∀ k, k < w.heap.size → k ≠ r → w'.heap[k]? = w.heap[k]?
theorem But.refl (r : Nat) (w : World) : But r w w := ⟨rfl, rfl, rfl, Nat.le_refl _, fun _ _ _ => rfl⟩
theorem But.trans {r : Nat} {a b c : World} (h : But r a b) (k : But r b c) : But r a c :=
  ⟨k.os.trans h.os, k.tape.trans h.tape, k.output.trans h.output, Nat.le_trans h.size k.size, fun i hi hn => (k.block i (Nat.lt_of_lt_of_le hi h.size) hn).trans (h.block i hi hn)⟩
theorem But.of {r : Nat} {w w' : World} (h : Below w.heap.size w w') : But r w w' := ⟨h.os, h.tape, h.output, h.size, fun k hk _ => h.block k hk⟩
theorem But.set (r i : Nat) (w : World) (u : Value) : But r w (w.setCell ⟨r, i, none⟩ u) :=
  ⟨rfl, rfl, rfl, by simp [World.setCell], fun k _ hn => Below.heap_setCell _ _ _ _ hn⟩
theorem But.below {r : Nat} {w w' : World} (h : But r w w') (hr : r ≤ w.heap.size) : Below r w w' := ⟨h.os, h.tape, h.output, h.size, fun k hk => h.block k (Nat.lt_of_lt_of_le hk hr) (Nat.ne_of_lt hk)⟩
theorem But.cell {r : Nat} {w w' : World} (h : But r w w') {p : Addr} (hp : p.block < w.heap.size) (hn : p.block ≠ r) : w'.cell? p = w.cell? p := World.cell?_of_block (w := w) (h.block p.block hp hn)
theorem Blk.but {r g : Nat} {w w' : World} {t : TypeId} {cs : Array Value} (h : Blk w g t cs) (hn : g ≠ r) (hb : But r w w') : Blk w' g t cs := (hb.block g h.lt hn).trans h
theorem Has.but {r : Nat} {w w' : World} {A : Option Addr} {xs : List Value} (h : Has w w.heap.size A xs) (hn : ∀ a, A = some a → a.block ≠ r) (hb : But r w w') : Has w' w'.heap.size A xs := fun hne => by
  obtain ⟨ad, e, h1, h2⟩ := h hne
  exact ⟨ad, e, Nat.lt_of_lt_of_le h1 hb.size, fun j u hu => (hb.cell (by rw [add_block]; exact h1) (by rw [add_block]; exact hn ad e)).trans (h2 j u hu)⟩

theorem belowDn {B : Nat} {a b : World} (h : Below B a b) (n : Nat) : Below B a (b.drewN n) := ⟨h.os, h.tape, h.output, h.size, h.block⟩
/-- the reader in its cell, right behind w0 -/
structure RdW (w0 w : World) (s : ByteArray) : Prop where
  below : Below w0.heap.size w0 w
  cell : Blk w w0.heap.size 91 #[.string s]
theorem RdW.next {w0 w w' : World} {s : ByteArray} (h : RdW w0 w s) (hb : Below w.heap.size w w') : RdW w0 w' s := ⟨h.below.trans (hb.mono h.below.size), h.cell.next hb⟩
theorem RdW.size {w0 w : World} {s : ByteArray} (h : RdW w0 w s) : w0.heap.size < w.heap.size := h.cell.lt
def PanB : List PanicEntry := [{ v := .iface 87 (.agg #[]), recovered := false }]
/-- it returns v, the reader holds s' -/
def RT (v : Value) (w0 w : World) (s' : ByteArray) (e : Ending) (w' : World) : Prop := e = .returned v ∧ RdW w0 w' s' ∧ But w0.heap.size w w'
theorem RT.mk {v v' : Value} {w0 w w' : World} {s' : ByteArray} (h : v' = v) (h1 : RdW w0 w' s') (h2 : But w0.heap.size w w') : RT v w0 w s' (.returned v') w' := ⟨by rw [h], h1, h2⟩
/-- it throws bad -/
def RP (w0 w : World) (e : Ending) (w' : World) : Prop := e = .panicked PanB ∧ Below w0.heap.size w0 w' ∧ But w0.heap.size w w'
theorem RP.mk {w0 w w' : World} (h1 : Below w0.heap.size w0 w') (h2 : But w0.heap.size w w') : RP w0 w (.panicked PanB) w' := ⟨rfl, h1, h2⟩

theorem cutP_yes {p s r : List UInt8} (h : cutP p s = some r) : Lib.hasPrefix s p = true ∧ Lib.trimPrefix s p = r := by
  unfold cutP at h
  split at h
  · rename_i hp
    injection h with h
    exact ⟨hp, by unfold Lib.trimPrefix; rw [if_pos hp, h]⟩
  · cases h
theorem cutP_no {p s : List UInt8} (h : cutP p s = none) : Lib.hasPrefix s p = false := by
  unfold cutP at h
  split at h
  · cases h
  · rename_i hp
    simpa using hp
set_option maxRecDepth 1000000 in
set_option maxHeartbeats 4000000 in
theorem take_yes (w0 w : World) (s p : ByteArray) (r : List UInt8) (hR : RdW w0 w s) (h : cutP (bl p) (bl s) = some r) :
    Calls Tryz.prog 65 #[.pointer (some ⟨w0.heap.size, 0, none⟩), .string p] w (RT (.bool true) w0 w ⟨r.toArray⟩) := by
  obtain ⟨h1, h2⟩ := cutP_yes h
  have HC := Tryz.strings_CutPrefix s p w
  rw [show s.data.toList = bl s from rfl, show p.data.toList = bl p from rfl, h1, h2] at HC
  obtain ⟨r0, hr0⟩ : ∃ r0, w0.heap.size = r0 := ⟨_, rfl⟩
  obtain ⟨s', hs'⟩ : ∃ s' : ByteArray, (⟨r.toArray⟩ : ByteArray) = s' := ⟨_, rfl⟩
  have hcell := hR.cell
  rw [hr0] at hcell
  have c0 : w.cell? ⟨r0, 0, none⟩ = some (.string s) := hcell.cell 0
  have f0 := hcell.frozen 0
  have hend : RT (.bool true) w0 w s' (.returned (.bool true)) (w.setCell ⟨r0, 0, none⟩ (.string s')) := RT.mk rfl ⟨by rw [← hr0]; exact hR.below.setCell (Nat.le_refl _) _, by rw [hr0]; exact hcell.set 0 (.string s')⟩ (by rw [hr0]; exact But.set r0 0 w (.string s'))
  rw [hs'] at HC ⊢
  rw [hr0]
  replace HC := Lib.hid HC
  replace hend := Lib.hid hend
  clear h h1 h2 hr0 hs' hR hcell
  go_enter Tryz.func65, Tryz.ntmps65
  go_wp2_with fail
  refine HC.out.mono ?_
  rintro e1 w1 ⟨rfl, hw1⟩
  obtain rfl := hw1.symm
  go_wp2_with fail
  go_ret
  exact hend.out
set_option maxRecDepth 1000000 in
set_option maxHeartbeats 4000000 in
theorem take_no (w0 w : World) (s p : ByteArray) (hR : RdW w0 w s) (h : cutP (bl p) (bl s) = none) :
    Calls Tryz.prog 65 #[.pointer (some ⟨w0.heap.size, 0, none⟩), .string p] w (RT (.bool false) w0 w s) := by
  have h1 := cutP_no h
  have HC := Tryz.strings_CutPrefix s p w
  rw [show s.data.toList = bl s from rfl, show p.data.toList = bl p from rfl, h1] at HC
  obtain ⟨r0, hr0⟩ : ∃ r0, w0.heap.size = r0 := ⟨_, rfl⟩
  obtain ⟨s', hs'⟩ : ∃ s' : ByteArray, (⟨(Lib.trimPrefix (bl s) (bl p)).toArray⟩ : ByteArray) = s' := ⟨_, rfl⟩
  have hcell := hR.cell
  rw [hr0] at hcell
  have c0 : w.cell? ⟨r0, 0, none⟩ = some (.string s) := hcell.cell 0
  have hend : RT (.bool false) w0 w s (.returned (.bool false)) w := RT.mk rfl hR (But.refl _ _)
  rw [hs'] at HC
  rw [hr0]
  replace HC := Lib.hid HC
  replace hend := Lib.hid hend
  clear h h1 hr0 hs' hR hcell
  go_enter Tryz.func65, Tryz.ntmps65
  go_wp2_with fail
  refine HC.out.mono ?_
  rintro e1 w1 ⟨rfl, hw1⟩
  obtain rfl := hw1.symm
  go_wp2_with fail
  go_ret
  exact hend.out
set_option maxRecDepth 1000000 in
set_option maxHeartbeats 4000000 in
theorem must_yes (w0 w : World) (s p : ByteArray) (r : List UInt8) (hR : RdW w0 w s) (h : cutP (bl p) (bl s) = some r) :
    Calls Tryz.prog 66 #[.pointer (some ⟨w0.heap.size, 0, none⟩), .string p] w (RT (.tuple #[]) w0 w ⟨r.toArray⟩) := by
  have HT := Lib.hid (take_yes w0 w s p r hR h)
  clear h hR
  go_enter Tryz.func66, Tryz.ntmps66
  go_wp2_with fail
  refine HT.out.mono ?_
  rintro e1 w1 ⟨rfl, h1, h2⟩
  go_wp2_with fail
  exact bodyPost_end (results_none rfl _ _ _) rfl ⟨rfl, h1, h2⟩
set_option maxRecDepth 1000000 in
set_option maxHeartbeats 4000000 in
theorem must_no (w0 w : World) (s p : ByteArray) (hR : RdW w0 w s) (h : cutP (bl p) (bl s) = none) :
    Calls Tryz.prog 66 #[.pointer (some ⟨w0.heap.size, 0, none⟩), .string p] w (RP w0 w) := by
  have HT := Lib.hid (take_no w0 w s p hR h)
  clear h hR
  go_enter Tryz.func66, Tryz.ntmps66
  go_wp2_with fail
  refine HT.out.mono ?_
  rintro e1 w1 ⟨rfl, h1, h2⟩
  go_wp2_with fail
  exact ⟨rfl, RP.mk h1.below h2⟩
theorem untilP_yes {c : UInt8} {s a r : List UInt8} (h : untilP c s = some (a, r)) : Lib.cut s [c] = (a, r, true) := by
  unfold untilP at h
  split at h
  · rename_i h1
    injection h with h
    injection h with h2 h3
    exact Prod.ext h2 (Prod.ext h3 h1)
  · cases h
theorem untilP_no {c : UInt8} {s : List UInt8} (h : untilP c s = none) : (Lib.cut s [c]).2.2 = false := by
  unfold untilP at h
  split at h
  · cases h
  · rename_i h1
    simpa using h1
set_option maxRecDepth 1000000 in
set_option maxHeartbeats 4000000 in
theorem until_yes (w0 w : World) (s : ByteArray) (c : UInt8) (a r : List UInt8) (hR : RdW w0 w s) (hs : s.size < 4294967281) (tL : LenAt w) (h : untilP c (bl s) = some (a, r)) :
    Calls Tryz.prog 68 #[.pointer (some ⟨w0.heap.size, 0, none⟩), .string ⟨#[c]⟩] w (RT (.string ⟨a.toArray⟩) w0 w ⟨r.toArray⟩) := by
  obtain ⟨m, hm⟩ := tL
  have h1 := untilP_yes h
  have HC := Tryz.strings_Cut s ⟨#[c]⟩ m w hs hm
  rw [show s.data.toList = bl s from rfl, show (⟨#[c]⟩ : ByteArray).data.toList = [c] from rfl, h1] at HC
  obtain ⟨r0, hr0⟩ : ∃ r0, w0.heap.size = r0 := ⟨_, rfl⟩
  obtain ⟨s', hs'⟩ : ∃ s' : ByteArray, (⟨r.toArray⟩ : ByteArray) = s' := ⟨_, rfl⟩
  obtain ⟨a', ha'⟩ : ∃ s' : ByteArray, (⟨a.toArray⟩ : ByteArray) = s' := ⟨_, rfl⟩
  have hcell := hR.cell
  rw [hr0] at hcell
  have c0 : w.cell? ⟨r0, 0, none⟩ = some (.string s) := hcell.cell 0
  have f0 := hcell.frozen 0
  have hend : ∀ n, RT (.string a') w0 w s' (.returned (.string a')) ((w.drewN n).setCell ⟨r0, 0, none⟩ (.string s')) := fun n => RT.mk rfl ⟨by rw [← hr0]; exact (belowDn hR.below n).setCell (Nat.le_refl _) _, by rw [hr0]; exact Blk.set (w := w.drewN n) hcell 0 (.string s')⟩ (by rw [hr0]; exact (But.of (belowDn (Below.refl _ _) n)).trans (But.set r0 0 (w.drewN n) (.string s')))
  dsimp only at HC
  rw [hs', ha'] at HC ⊢
  rw [hr0]
  replace HC := Lib.hid HC
  replace hend := Lib.hid hend
  have f1 := fun n => (show (w.drewN n).frozen? ⟨r0, 0, none⟩ = false from f0)
  have c1 := fun n => (show (w.drewN n).cell? ⟨r0, 0, none⟩ = some (.string s) from c0)
  clear h h1 hr0 hs' hR hcell ha'
  go_enter Tryz.func68, Tryz.ntmps68
  go_wp2_with fail
  refine HC.out.mono ?_
  rintro e1 w1 ⟨rfl, n, rfl⟩
  go_wp2_with fail
  go_ret
  exact hend.out n
set_option maxRecDepth 1000000 in
set_option maxHeartbeats 4000000 in
theorem until_no (w0 w : World) (s : ByteArray) (c : UInt8) (hR : RdW w0 w s) (hs : s.size < 4294967281) (tL : LenAt w) (h : untilP c (bl s) = none) :
    Calls Tryz.prog 68 #[.pointer (some ⟨w0.heap.size, 0, none⟩), .string ⟨#[c]⟩] w (RP w0 w) := by
  obtain ⟨m, hm⟩ := tL
  have h1 := untilP_no h
  have HC := Tryz.strings_Cut s ⟨#[c]⟩ m w hs hm
  rw [show s.data.toList = bl s from rfl, show (⟨#[c]⟩ : ByteArray).data.toList = [c] from rfl, h1] at HC
  have c0 : w.cell? ⟨w0.heap.size, 0, none⟩ = some (.string s) := hR.cell.cell 0
  have hb := Lib.hid hR.below
  replace HC := Lib.hid HC
  clear h h1 hR
  go_enter Tryz.func68, Tryz.ntmps68
  go_wp2_with fail
  refine HC.out.mono ?_
  rintro e1 w1 ⟨rfl, n, rfl⟩
  go_wp2_with fail
  exact ⟨rfl, RP.mk (belowDn hb.out n) (But.of (belowDn (Below.refl _ _) n))⟩
/-- the errors of package strconv: whatever they hold -/
def ErAt (w : World) : Prop := (∃ e, w.cell? ⟨4, 0, none⟩ = some e ∧ (e = .nilIface ∨ ∃ t p, e = .iface t p)) ∧ (∃ e, w.cell? ⟨5, 0, none⟩ = some e ∧ (e = .nilIface ∨ ∃ t p, e = .iface t p))
theorem ErAt.next {w w' : World} (h : ErAt w) (hb : Below w.heap.size w w') : ErAt w' := by
  obtain ⟨⟨a, h1, h2⟩, b, h3, h4⟩ := h
  exact ⟨⟨a, (hb.cell (World.block_lt_of_cell? w _ h1)).trans h1, h2⟩, b, (hb.cell (World.block_lt_of_cell? w _ h3)).trans h3, h4⟩
set_option maxRecDepth 1000000 in
set_option maxHeartbeats 4000000 in
theorem number_yes (w : World) (s : ByteArray) (n : Int) (hs : s.size ≤ 281474976710656) (h : numP (bl s) = some n) :
    Calls Tryz.prog 71 #[.string s] w (R1 (.int .i64 n) (Below w.heap.size w)) := by
  have h1 : Lib.parseIntB 64 s.data.toList = .ok n := by
    unfold numP at h
    split at h
    · rename_i v hv
      injection h with h
      rw [← h]; exact hv
    · cases h
  have HC := Lib.hid (Tryz.strconv_ParseInt_10_at64_ok s (by omega) n h1 w)
  clear h h1
  go_enter Tryz.func71, Tryz.ntmps71
  go_wp2_with fail
  refine HC.out.mono ?_
  rintro e1 w1 ⟨rfl, hw1⟩
  have hb : Hid (Below w.heap.size w w1) := by
    rcases hw1 with rfl | ⟨t, rfl⟩
    · exact Lib.hid (Below.refl _ _)
    · exact Lib.hid (Joins.below_bytesWorld _ _ _ _ (Nat.le_refl _))
  clear hw1
  go_wp2_with fail
  go_ret
  exact R1.mk rfl hb.out
set_option maxRecDepth 1000000 in
set_option maxHeartbeats 4000000 in
theorem number_no (w : World) (s : ByteArray) (hs : s.size ≤ 281474976710656) (tE : ErAt w) (h : numP (bl s) = none) :
    Calls Tryz.prog 71 #[.string s] w (fun e w' => e = .panicked PanB ∧ Below w.heap.size w w') := by
  obtain ⟨⟨e1, c1, k1⟩, e2, c2, k2⟩ := tE
  have HC : Calls Tryz.prog 97 #[.string s, .int .i64 10, .int .i64 64] w fun e w' => ∃ (n : Int) (N : Nat), e = .returned (.tuple #[.int .i64 n, .iface 222 (.pointer (some ⟨N, 0, none⟩))]) ∧ Below w.heap.size w w' := by
    unfold numP at h
    cases hp : Lib.parseIntB 64 (bl s)
    · rw [hp] at h; cases h
    · refine (Tryz.strconv_ParseInt_10_at64_bad s hs (fun v e => by have h9 := hp.symm.trans e; cases h9) (fun e => by have h9 := hp.symm.trans e; cases h9) e1 w c1 k1).mono ?_
      rintro e w' ⟨N, rfl, _, _, hb⟩
      exact ⟨_, N, rfl, hb⟩
    · refine (Tryz.strconv_ParseInt_10_at64_range s hs hp e2 w c2 k2).mono ?_
      rintro e w' ⟨N, rfl, _, _, hb⟩
      exact ⟨_, N, rfl, hb⟩
  replace HC := Lib.hid HC
  clear h c1 c2 k1 k2
  go_enter Tryz.func71, Tryz.ntmps71
  go_wp2_with fail
  refine HC.out.mono ?_
  rintro e1 w1 ⟨n, N, rfl, hb⟩
  replace hb := Lib.hid hb
  go_wp2_with fail
  exact ⟨rfl, rfl, hb.out⟩
theorem braceI_end (q : Bool) : braceI q [] = none := by unfold braceI; rfl
theorem braceI_esc (q : Bool) (r : List Nat) : braceI q (92 :: r) = (braceI q (r.drop 1)).map (· + 2) := by
  conv => lhs; unfold braceI
  rw [if_pos rfl]
  cases r with
  | nil => rw [List.drop_nil, braceI_end]; rfl
  | cons x r => rfl
theorem braceI_q (q : Bool) (r : List Nat) : braceI q (34 :: r) = (braceI (!q) r).map (· + 1) := by
  conv => lhs; unfold braceI
  rw [if_neg (by decide), if_pos rfl]
theorem braceI_hit (r : List Nat) : braceI false (125 :: r) = some 0 := by
  unfold braceI
  rw [if_neg (by decide), if_neg (by decide), if_pos ⟨rfl, rfl⟩]
theorem braceI_go (q : Bool) (c : Nat) (r : List Nat) (h1 : c ≠ 92) (h2 : c ≠ 34) (h3 : ¬ (c = 125 ∧ q = false)) : braceI q (c :: r) = (braceI q r).map (· + 1) := by
  conv => lhs; unfold braceI
  rw [if_neg h1, if_neg h2, if_neg h3]
/-- what braces gives -/
def BrP (w0 w : World) (s : ByteArray) (o : Option Nat) (e : Ending) (w' : World) : Prop :=
  match o with
  | some i => RT (.string (s.extract 0 (i + 1))) w0 w (s.extract (i + 1) s.size) e w'
  | none => RP w0 w e w'
theorem some_add {o : Option Nat} {i j : Nat} : (o.map (· + i)).map (· + j) = o.map (· + (i + j)) := by
  rw [Option.map_map]
  congr 1
  funext n
  simp only [Function.comp, Nat.add_assoc]
set_option maxRecDepth 1000000 in
set_option maxHeartbeats 8000000 in
theorem braces_any (w0 w : World) (s : ByteArray) (hR : RdW w0 w s) (hs : s.size < 4294967281) :
    Calls Tryz.prog 70 #[.pointer (some ⟨w0.heap.size, 0, none⟩)] w (BrP w0 w s (braceI false (sb s))) := by
  obtain ⟨o, ho⟩ : ∃ o, braceI false (sb s) = o := ⟨_, rfl⟩
  have HO := Lib.hid (show (braceI false ((sb s).drop 0)).map (· + 0) = o by rw [List.drop_zero, ho]; cases o <;> rfl)
  rw [ho]
  clear ho
  obtain ⟨r0, hr0⟩ : ∃ r0, w0.heap.size = r0 := ⟨_, rfl⟩
  have hcell := hR.cell
  have hbel := hR.below
  rw [hr0] at hcell hbel ⊢
  have c0 : w.cell? ⟨r0, 0, none⟩ = some (.string s) := hcell.cell 0
  have f0 := hcell.frozen 0
  have hend : ∀ i, o = some i → BrP w0 w s o (.returned (.string (s.extract 0 (i + 1)))) (w.setCell ⟨r0, 0, none⟩ (.string (s.extract (i + 1) s.size))) := fun i h => by
    rw [h]
    exact RT.mk rfl ⟨by rw [← hr0]; exact hR.below.setCell (Nat.le_refl _) _, by rw [hr0]; exact hcell.set 0 _⟩ (by rw [hr0]; exact But.set r0 0 w _)
  have hno : o = none → BrP w0 w s o (.panicked PanB) w := fun h => by
    rw [h]
    exact RP.mk hR.below (But.refl _ _)
  replace hend := Lib.hid hend
  replace hno := Lib.hid hno
  clear hR hcell hbel hr0
  go_enter Tryz.func70, Tryz.ntmps70
  go_wp2_with fail
  go_loopw [3, 4] (fun qv iv wr => ∃ (i : Nat) (q : Bool), i ≤ s.size + 1 ∧ iv = .int .i64 (i : Nat) ∧ qv = .bool q ∧ Hid ((braceI q ((sb s).drop i)).map (· + i) = o) ∧ Hid (wr = w)) (fun _ iv _ => s.size + 5 - (intOf iv).toNat)
  case atStart => exact ⟨0, false, by omega, rfl, rfl, HO, Lib.hid rfl⟩
  case round =>
    obtain ⟨i, q, hi, rfl, rfl, hg, hwr⟩ := hrel
    have hwr := hwr.out
    subst hwr
    by_cases hlt : (i : Int) < (s.size : Int)
    · have hil : i < s.size := by omega
      have hd := sb_drop_cons s i hil
      obtain ⟨x, hx⟩ : ∃ x, s[i].toNat = x := ⟨_, rfl⟩
      rw [hx] at hd
      have hi0 : (0 : Int) ≤ (i : Int) := by omega
      have hg2 := hg.out
      rw [hd] at hg2
      by_cases q1 : x = 92
      · rw [q1, braceI_esc, some_add, List.drop_drop] at hg2
        have hx' : s[i].toNat = 92 := by rw [hx, q1]
        have Hg := Lib.hid (show (braceI q ((sb s).drop (i + 2))).map (· + (i + 2)) = o by rw [← hg2, Nat.add_comm 2 i])
        clear hg2 hg hd hx q1
        go_wp2_with fail
        go_roundw
        case rel => exact ⟨i + 2, q, by omega, by go_num, rfl, Hg, trivial⟩
        case measure => simp [intOf]; omega
      · have q1' : ((x : Int) == 92) = false := by rw [beq_eq_false_iff_ne]; omega
        by_cases q2 : x = 34
        · rw [q2, braceI_q, some_add] at hg2
          have hx' : s[i].toNat = 34 := by rw [hx, q2]
          have Hg := Lib.hid (show (braceI (!q) ((sb s).drop (i + 1))).map (· + (i + 1)) = o by rw [← hg2, Nat.add_comm 1 i])
          clear hg2 hg hd hx q1 q1' q2
          go_wp2_with fail
          go_roundw
          case rel => exact ⟨i + 1, !q, by omega, by go_num, by simp, Hg, trivial⟩
          case measure => simp [intOf]; omega
        · have q2' : ((x : Int) == 34) = false := by rw [beq_eq_false_iff_ne]; omega
          by_cases q3 : x = 125
          · cases q with
            | false =>
              rw [q3, braceI_hit] at hg2
              have hx' : s[i].toNat = 125 := by rw [hx, q3]
              have he := Lib.hid (hend.out i (by rw [← hg2]; simp))
              have hi1 : (i : Int) + 1 ≤ (s.size : Int) := by omega
              clear hg2 hg hd hx q1 q1' q2 q2' q3
              go_wp2_with fail
              go_ret
              exact he.out
            | true =>
              rw [q3, braceI_go true 125 _ (by decide) (by decide) (by simp), some_add] at hg2
              have hx' : s[i].toNat = 125 := by rw [hx, q3]
              have Hg := Lib.hid (show (braceI true ((sb s).drop (i + 1))).map (· + (i + 1)) = o by rw [← hg2, Nat.add_comm 1 i])
              clear hg2 hg hd hx q1 q1' q2 q2' q3
              go_wp2_with fail
              go_roundw
              case rel => exact ⟨i + 1, true, by omega, by go_num, rfl, Hg, trivial⟩
              case measure => simp [intOf]; omega
          · have q3' : ((x : Int) == 125) = false := by rw [beq_eq_false_iff_ne]; omega
            rw [braceI_go q x _ q1 q2 (fun h => q3 h.1), some_add] at hg2
            have Hg := Lib.hid (show (braceI q ((sb s).drop (i + 1))).map (· + (i + 1)) = o by rw [← hg2, Nat.add_comm 1 i])
            clear hg2 hg hd q1 q2 q3
            go_wp2_with fail
            go_roundw
            case rel => exact ⟨i + 1, q, by omega, by go_num, rfl, Hg, trivial⟩
            case measure => simp [intOf]; omega
    · have hd : (sb s).drop i = [] := List.drop_of_length_le (by rw [sb_len]; omega)
      have hg2 := hg.out
      rw [hd, braceI_end] at hg2
      have hn := Lib.hid (hno.out hg2.symm)
      clear hg2 hg hd
      go_wp2_with fail
      exact ⟨rfl, hn.out⟩
end Go.Proofs.YtnicbhmeigpjkaaGreatDoor
