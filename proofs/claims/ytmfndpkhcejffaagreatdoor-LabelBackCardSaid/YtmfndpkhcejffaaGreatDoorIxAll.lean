/- strings.IndexAny(s, "!="): both roads. Conditions: s is no giant. -/
import Derived.Test.YtmfndpkhcejffaaGreatDoorIxAny
import Derived.Lib.OthersKept
namespace Go.Proofs.YtmfndpkhcejffaaGreatDoor
open Go.RowKit

set_option maxRecDepth 1000000 in
theorem suas_any (n : Int) (w : World) : Calls Tryz.prog 34 #[.int .i64 n] w fun e w' => e = .returned (.bool (decide (8 < n))) ∧ w' = w := by
  go_enter Tryz.func34, Tryz.ntmps34
  go_wp2_with fail
  go_ret
  exact ⟨rfl, rfl⟩
set_option maxRecDepth 1000000 in
set_option maxHeartbeats 4000000 in
theorem idxAny_short (s : ByteArray) (h8 : s.size ≤ 8) (w : World) :
    Calls Tryz.prog 23 #[.string s, .string exEq] w (R1 (.int .i64 (ixE s.data.toList)) (Below w.heap.size w)) := by
  have hX : exEq.size = 2 := rfl
  have hXe : (exEq.toList == []) = false := by rw [Lib.toList_data]; rfl
  have hXf : exEq.toList.isEmpty = false := by rw [Lib.toList_data]; rfl
  have hd : decide ((8 : Int) < (s.size : Int)) = false := decide_eq_false (by omega)
  obtain ⟨r, hr⟩ : ∃ r, ixE s.data.toList = r := ⟨_, rfl⟩
  rw [hr]
  have HR := Lib.hid hr
  have HS := Lib.hid (suas_any (s.size : Nat) w)
  clear hr
  go_enter Tryz.func23, Tryz.ntmps23
  go_wp2_with fail
  refine HS.out.mono ?_
  rintro e w1 ⟨rfl, rfl⟩
  rw [hd]
  go_wp2_with fail
  obtain ⟨g, hg⟩ : ∃ g, w1.heap.size = g := ⟨_, rfl⟩
  have hst : (w1.iter s 0).heap[g]? = some (.stringIter s 0) := by rw [← hg]; exact World.iter_heap w1 s 0
  have hb0 : Below w1.heap.size w1 (w1.iter s 0) := one_allocP _ _
  rw [hg]
  rw [hg] at hb0
  have Hg := Lib.hid hg
  clear hd HS hg
  go_loopw [9, 10] (fun _ _ wr => ∃ i : Nat, i ≤ s.size ∧ wr.heap[g]? = some (.stringIter s i) ∧ Hid (Lib.NoAny s.data.toList [33, 61] i) ∧ Below g w1 wr) (fun _ _ wr => s.size + 5 - wr.iterPos g)
  case atStart => exact ⟨0, by omega, hst, Lib.hid (Lib.NoAny.zero _ _), hb0⟩
  case round =>
    obtain ⟨i, hi, hit, hno, hbr⟩ := hrel
    have hip : wr.iterPos g = i := by simp [World.iterPos, hit]
    by_cases hlt : i < s.size
    · have hnx := fun ty => Lib.run_next_any_at (P := Tryz.prog) wr g s i ty hit hlt
      obtain ⟨x, hx⟩ : ∃ x, s[i]'hlt = x := ⟨_, rfl⟩
      have hxl : s.data.toList[i]? = some x := by rw [← hx]; exact Lib.data_getElem? s i hlt
      have hgs : g < wr.heap.size := (Array.getElem?_eq_some_iff.1 hit).1
      by_cases hx128 : x.toNat < 128
      · rw [decode_ascii s i hlt (by rw [hx]; exact hx128), hx] at hnx
        obtain ⟨W2, hW2⟩ : ∃ W2, wr.iterAt g s (i + 1) = W2 := ⟨_, rfl⟩
        have hit2 : W2.heap[g]? = some (.stringIter s (i + 1)) := by rw [← hW2]; exact Lib.iterAt_heap wr g s i (i + 1) hit
        have hb2 : Below g w1 W2 := by rw [← hW2]; exact Lib.below_iterAt hbr (Nat.le_refl _) s (i + 1)
        have hnx2 : ∀ ty, (Instr.next (.pointer (some ⟨g, 0, none⟩)) true ty).run Tryz.prog wr = .ok (.tuple #[.bool true, .int .i64 (i : Nat), .int .i32 (x.toNat : Nat)]) W2 := fun ty => by rw [← hW2]; exact hnx ty
        have HIR := Lib.hid (fun w => Tryz.strings_IndexRune_ascii exEq (x.toNat : Nat) w (by omega) (by omega))
        have hcon := Lib.contains_iff_indexByte exEq.data.toList x
        have hback : ((x.toNat : Int)).toNat.toUInt8 = x := by simp
        rw [hback] at HIR
        have Hx := Lib.hid hxl
        obtain ⟨o, ho⟩ : ∃ o, Lib.indexByte exEq.data.toList x = o := ⟨_, rfl⟩
        rw [ho] at HIR hcon
        clear hnx hW2 hxl hit hx
        cases hin : exEq.data.toList.contains x
        · rw [hin] at hcon
          have hlt0 : ¬ ((0 : Int) ≤ o) := of_decide_eq_false hcon.symm
          have Hno := Lib.hid (hno.out.succ Hx.out hin)
          clear hcon hin ho
          go_wp2_with fail
          refine (HIR.out W2).mono ?_
          rintro e w3 ⟨rfl, rfl⟩
          go_wp2_with fail
          go_roundw
          case rel => exact ⟨i + 1, by omega, hit2, Hno, hb2⟩
          case measure =>
            have : w3.iterPos g = i + 1 := by simp [World.iterPos, hit2]
            rw [this, hip]; omega
        · rw [hin] at hcon
          have hge : (0 : Int) ≤ o := of_decide_eq_true hcon.symm
          have HE := Lib.hid (show r = (i : Nat) by rw [← HR.out]; exact Lib.indexAny_hit hno.out Hx.out hin)
          clear hcon hin ho
          go_wp2_with fail
          refine (HIR.out W2).mono ?_
          rintro e w3 ⟨rfl, rfl⟩
          go_wp2_with fail
          go_ret
          rw [HE.out]
          exact R1.mk rfl (by first | exact hb2 | (rw [Hg.out]; exact hb2))
      · have hfar : 128 ≤ (s[i]'hlt).toNat := by rw [hx]; omega
        obtain ⟨k1, k2⟩ := decode_high s i hlt hfar
        obtain ⟨t1, t2⟩ := decode_tail s i hlt hfar
        have k3 := decode_le s i
        obtain ⟨ru, hru⟩ : ∃ ru, (Utf8.decode s i).1 = ru := ⟨_, rfl⟩
        obtain ⟨wd, hwd⟩ : ∃ wd, (Utf8.decode s i).2 = wd := ⟨_, rfl⟩
        rw [hru] at k1 k3
        rw [hwd] at k2 t1 t2
        rw [hru, hwd] at hnx
        obtain ⟨W2, hW2⟩ : ∃ W2, wr.iterAt g s (i + wd) = W2 := ⟨_, rfl⟩
        have hit2 : W2.heap[g]? = some (.stringIter s (i + wd)) := by rw [← hW2]; exact Lib.iterAt_heap wr g s i (i + wd) hit
        have hb2 : Below g w1 W2 := by rw [← hW2]; exact Lib.below_iterAt hbr (Nat.le_refl _) s (i + wd)
        have hnx2 : ∀ ty, (Instr.next (.pointer (some ⟨g, 0, none⟩)) true ty).run Tryz.prog wr = .ok (.tuple #[.bool true, .int .i64 (i : Nat), .int .i32 (ru : Nat)]) W2 := fun ty => by rw [← hW2]; exact hnx ty
        have hgs2 : g < W2.heap.size := (Array.getElem?_eq_some_iff.1 hit2).1
        have HIR := Lib.hid (idxRune_far ru k1 k3 W2)
        have Hno := Lib.hid (noAny_far (j := i + wd) hno.out (by omega) (fun k y h1 h2 hy => by
          have hk : k < s.size := by omega
          have := t2 k hk h1 h2
          rw [Lib.data_getElem? s k hk] at hy
          injection hy with hy
          rw [← hy]; exact this))
        clear hnx hW2 hxl hit hx t2 hno hru hwd hfar
        go_wp2_with fail
        refine HIR.out.mono ?_
        rintro e w3 ⟨rfl, hb3⟩
        have hit3 : w3.heap[g]? = some (.stringIter s (i + wd)) := (hb3.block g hgs2).trans hit2
        have hb13 : Below g w1 w3 := hb2.trans (hb3.mono (by omega))
        go_wp2_with fail
        go_roundw
        case rel => exact ⟨i + wd, by omega, hit3, Hno, hb13⟩
        case measure =>
          have : w3.iterPos g = i + wd := by simp [World.iterPos, hit3]
          rw [this, hip]; omega
    · have hnx := fun ty => Lib.run_next_end_at (P := Tryz.prog) wr g s i ty hit hlt
      have HE := Lib.hid (show r = -1 by
        rw [← HR.out]
        refine Lib.indexAny_none ?_
        rw [← Lib.size_eq, show s.size = i by omega]
        exact hno.out)
      clear hno
      go_wp2_with fail
      go_ret
      rw [HE.out]
      exact R1.mk rfl (by first | exact hbr | (rw [Hg.out]; exact hbr))
theorem v83 : ∀ w, (zeroValue 73).run Tryz.prog w = .ok (.agg (Array.replicate 256 (.bool false))) w := fun w => by kernel_rfl
theorem idxAny_any (s : ByteArray) (hs : s.size < 4294967281) (w : World) :
    Calls Tryz.prog 23 #[.string s, .string exEq] w (R1 (.int .i64 (ixE s.data.toList)) (Below w.heap.size w)) := by
  by_cases h8 : s.size ≤ 8
  · exact idxAny_short s h8 w
  · refine (Tryz.strings_IndexAny_long v83 s exEq w (by decide) (by omega) hs (by decide) (fun j b hj => ?_)).mono ?_
    · have : b = 33 ∨ b = 61 := by
        have := List.mem_of_getElem? hj
        have h : b ∈ ([33, 61] : List UInt8) := this
        simpa using h
      rcases this with rfl | rfl <;> decide
    · rintro e w' ⟨rfl, rfl⟩
      exact R1.mk rfl ((one_allocP w _).alloc (by simp) _)
end Go.Proofs.YtmfndpkhcejffaaGreatDoor
