/- Texts of the proof of HouseAcks, joined (by merge.py). Conditions: each theorem's own hypotheses. -/
import Derived.Test.YtihjgbhnlejhfaaGreatDoorHouseAcksP2
import Derived.Test.YtihjgbhnlejhfaaGreatDoorHouseAcksP28
import Derived.BigQuiet
import Derived.WalkMore
import Derived.Laws.RangeAny
import Derived.Laws.Runes
import Derived.Lib.DecodeN
import Derived.Lib.IndexAny
import Derived.Lib.OthersKept
namespace Go.Proofs.YtihjgbhnlejhfaaGreatDoor
open Go.RowKit

def exEq : ByteArray := ⟨#[33, 61]⟩
theorem idxByte_far (x : UInt8) (h : 128 ≤ x.toNat) : Lib.indexByte [61] x = -1 ∧ Lib.indexByte ([] : List UInt8) x = -1 := by
  refine ⟨?_, rfl⟩
  have : (61 : UInt8) ≠ x := fun e => by rw [← e] at h; revert h; decide
  simp [Lib.indexByte, this]
set_option maxRecDepth 1000000 in
set_option maxHeartbeats 4000000 in
theorem idxRune_far (r : Nat) (h1 : 128 ≤ r) (h2 : r ≤ 2147483647) (w : World) :
    Calls Tryz.prog 188 #[.string exEq, .int .i32 (r : Nat)] w (R1 (.int .i64 (-1)) (Below w.heap.size w)) := by
  have b1 : (0 : Int) ≤ (r : Int) := by omega
  have b2 : ¬ (r : Int) < 128 := by omega
  by_cases hE : (r : Int) = 65533
  · have hE' : ((r : Int) == 65533) = true := by simp [hE]
    have e0 : Utf8.decode exEq 0 = (33, 1) := by kernel_rfl
    have e1 : Utf8.decode exEq 1 = (61, 1) := by kernel_rfl
    have n0 := fun ty => run_next_any (P := Tryz.prog) w exEq 0 ty (by decide)
    have n1 := fun ty => run_next_any (P := Tryz.prog) w exEq 1 ty (by decide)
    have n2 := fun ty => run_next_end (P := Tryz.prog) w exEq 2 ty (by decide)
    rw [e0] at n0
    rw [e1] at n1
    have q1 : ((33 : Int) == 65533) = false := by decide
    have q2 : ((61 : Int) == 65533) = false := by decide
    clear e0 e1
    go_enter Tryz.func188, Tryz.ntmps188
    go_wp2_with fail
    go_loopw [5, 6] (fun _ _ wr => wr = w.iter exEq 0 ∨ wr = w.iter exEq 1 ∨ wr = w.iter exEq 2) (fun _ _ wr => 5 - wr.iterPos w.heap.size)
    case atStart => exact .inl rfl
    case round =>
      rcases hrel with rfl | rfl | rfl
      · go_wp2_with fail
        go_roundw
        case rel => first | exact .inr (.inl rfl) | simp
        case measure => simp
      · go_wp2_with fail
        go_roundw
        case rel => first | exact .inr (.inr rfl) | simp
        case measure => simp
      · go_wp2_with fail
        go_ret
        exact R1.mk rfl (one_allocP _ _)
  · have hE' : ((r : Int) == 65533) = false := by simp [hE]
    have hv := Tryz.utf8_ValidRune (r : Nat) w
    cases hV : Lib.validRune (r : Nat) with
    | false =>
      rw [hV] at hv
      have HV := Lib.hid hv
      clear hv hV
      go_enter Tryz.func188, Tryz.ntmps188
      go_wp2_with fail
      refine HV.out.mono ?_
      rintro e w1 ⟨rfl, rfl⟩
      go_wp2_with fail
      go_ret
      exact R1.mk rfl (Below.refl _ _)
    | true =>
      rw [hV] at hv
      have HV := Lib.hid hv
      obtain ⟨f1, f2, f3⟩ := encode_facts (r : Nat) (by rw [validRune_eq]; exact hV) (by omega)
      obtain ⟨E, hEe⟩ : ∃ E, Utf8.encode (r : Nat) = E := ⟨_, rfl⟩
      rw [hEe] at f1 f2 f3
      have hX : exEq.size = 2 := rfl
      have hcv : ∀ w, (convert 21 9 (.int .i32 (r : Nat))).run Tryz.prog w = .ok (.string E) w := fun w => by
        rw [run_convert_int_string w 21 9 .i32 (r : Nat) (by rw [Tryz.underlying21]; rfl) Tryz.underlying9, hEe]
      clear hEe
      clear hv hV
      by_cases h2 : E.size = 2
      · obtain ⟨x, hx⟩ : ∃ x, E[1]'(by omega) = x := ⟨_, rfl⟩
        have hx128 : 128 ≤ x.toNat := by
          have := f3 (by omega)
          simp only [h2] at this
          rw [← hx]; exact this
        have hxl := x.toNat_lt
        have e1 : (exEq[1]'(by decide)).toNat = 61 := rfl
        have hne : ((61 : Int) == (x.toNat : Int)) = false := by rw [beq_eq_false_iff_ne]; omega
        have hw2 : IntKind.i64.wrap 2 = 2 := by decide
        have hxe : exEq.extract 2 2 = ⟨#[]⟩ := rfl
        have hIB : ∀ w : World, Calls Tryz.prog 199 #[.string ByteArray.empty, .int .u8 (x.toNat : Nat)] w fun e w' => e = .returned (.int .i64 (-1)) ∧ w' = w := fun w => Tryz.strings_IndexByte ByteArray.empty (x.toNat : Nat) w
        have hib : Lib.indexByte (exEq.extract 2 2).data.toList ((x.toNat : Int)).toNat.toUInt8 = -1 := by
          rw [hxe]; rfl
        have hib2 : Lib.indexByte (⟨#[]⟩ : ByteArray).data.toList ((x.toNat : Int)).toNat.toUInt8 = -1 := rfl
        clear f3
        go_enter Tryz.func188, Tryz.ntmps188
        go_wp2_with fail
        refine HV.out.mono ?_
        rintro e w1 ⟨rfl, rfl⟩
        go_wp2_with fail
        go_step3
        go_wp2_with fail
        go_loopw [9, 10] (fun iv fv wr => iv = .int .i64 1 ∧ fv = .int .i64 0 ∧ wr = w1) (fun _ _ _ => 1)
        case atStart => exact ⟨rfl, rfl, rfl⟩
        case round =>
          obtain ⟨rfl, rfl, rfl⟩ := hrel
          go_wp2_with fail
          go_step3
          go_wp2_with fail
          go_quiet (fail)
          go_wp2_with fail
          go_quiet ((go_at_call 199; exact (hIB _).mono (fun _ _ ⟨he, hm⟩ => ⟨he, _, hm⟩)))
          go_wp2_with fail
          rw [Exit.noGoto_ret]
          first | go_wp2_with fail | skip
          go_ret
          exact R1.mk rfl (below_drewN (Below.refl _ _) _)

      · go_enter Tryz.func188, Tryz.ntmps188
        go_wp2_with fail
        refine HV.out.mono ?_
        rintro e w1 ⟨rfl, rfl⟩
        go_wp2_with fail
        go_step3
        go_wp2_with fail
        go_loopw [9, 10] (fun iv fv wr => iv = .int .i64 ((E.size : Int) - 1) ∧ fv = .int .i64 0 ∧ wr = w1) (fun _ _ _ => 1)
        case atStart => exact ⟨rfl, rfl, rfl⟩
        case round =>
          obtain ⟨rfl, rfl, rfl⟩ := hrel
          have h3 : ¬ (E.size : Int) - 1 < 2 := by omega
          have h3' : ¬ (E.size : Int) < 3 := by omega
          go_wp2_with fail
          go_ret
          exact R1.mk rfl (Below.refl _ _)


/-- bytes of a rune that is no ASCII -/
theorem decode_tail (s : ByteArray) (i : Nat) (h : i < s.size) (ha : 128 ≤ (s[i]'h).toNat) : i + (Utf8.decode s i).2 ≤ s.size ∧ ∀ k (hk : k < s.size), i ≤ k → k < i + (Utf8.decode s i).2 → 128 ≤ (s[k]'hk).toNat := by
  have hg : ∀ k (hk : k < s.size), s.get! k = s[k]'hk := fun k hk => by
    have := get_at s k hk
    simpa using this
  have hi : (s.get! i).toNat = (s[i]'h).toNat := by rw [hg i h]
  have key : ∀ W, Utf8.decode s i = W → (W.2 = 1 ∨ (W.2 = 2 ∧ i + 1 < s.size ∧ (s.get! (i + 1)).toNat / 64 = 2) ∨ (W.2 = 3 ∧ i + 2 < s.size ∧ (s.get! (i + 1)).toNat / 64 = 2 ∧ (s.get! (i + 2)).toNat / 64 = 2) ∨ (W.2 = 4 ∧ i + 3 < s.size ∧ (s.get! (i + 1)).toNat / 64 = 2 ∧ (s.get! (i + 2)).toNat / 64 = 2 ∧ (s.get! (i + 3)).toNat / 64 = 2)) := by
    intro W hW
    rw [Lib.decode_at] at hW
    subst hW
    unfold Lib.decodeN
    split
    · exact .inl rfl
    · split
      · rename_i q
        split
        · exact .inr (.inl ⟨rfl, by omega, q.2.2⟩)
        · exact .inl rfl
      · split
        · rename_i q
          split
          · exact .inr (.inr (.inl ⟨rfl, by omega, q.2.1.2, q.2.2.2⟩))
          · exact .inl rfl
        · split
          · rename_i q
            split
            · exact .inr (.inr (.inr ⟨rfl, by omega, q.2.1.2, q.2.2.1.2, q.2.2.2.2⟩))
            · exact .inl rfl
          · exact .inl rfl
  have far : ∀ j (hj : j < s.size), (s.get! j).toNat / 64 = 2 → 128 ≤ (s[j]'hj).toNat := fun j hj hq => by rw [hg j hj] at hq; omega
  rcases key _ rfl with e | ⟨e, l, q1⟩ | ⟨e, l, q1, q2⟩ | ⟨e, l, q1, q2, q3⟩ <;> rw [e] <;> refine ⟨by omega, fun k hk h1 h2 => ?_⟩
  · obtain rfl : k = i := by omega
    exact ha
  · rcases (show k = i ∨ k = i + 1 by omega) with rfl | rfl
    · exact ha
    · exact far _ hk q1
  · rcases (show k = i ∨ k = i + 1 ∨ k = i + 2 by omega) with rfl | rfl | rfl
    · exact ha
    · exact far _ hk q1
    · exact far _ hk q2
  · rcases (show k = i ∨ k = i + 1 ∨ k = i + 2 ∨ k = i + 3 by omega) with rfl | rfl | rfl | rfl
    · exact ha
    · exact far _ hk q1
    · exact far _ hk q2
    · exact far _ hk q3
/-- the first sign's place -/
def ixE : List UInt8 → Int := fun l => Lib.indexAny l [33, 61]
theorem noAny_far {l : List UInt8} {i j : Nat} (h : Lib.NoAny l [33, 61] i) (_hij : i ≤ j) (hf : ∀ k (x : UInt8), i ≤ k → k < j → l[k]? = some x → 128 ≤ x.toNat) : Lib.NoAny l [33, 61] j := by
  intro k b hk hb
  rcases Nat.lt_or_ge k i with h1 | h1
  · exact h k b h1 hb
  · have := hf k b h1 hk hb
    have e1 : b ≠ 33 := fun e => by rw [e] at this; revert this; decide
    have e2 : b ≠ 61 := fun e => by rw [e] at this; revert this; decide
    simp [e1, e2]
end Go.Proofs.YtihjgbhnlejhfaaGreatDoor
namespace Go.Proofs.YtihjgbhnlejhfaaGreatDoor
open Go.RowKit

set_option maxRecDepth 1000000 in
theorem suas_any (n : Int) (w : World) : Calls Tryz.prog 189 #[.int .i64 n] w fun e w' => e = .returned (.bool (decide (8 < n))) ∧ w' = w := by
  go_enter Tryz.func189, Tryz.ntmps189
  go_wp2_with fail
  go_ret
  exact ⟨rfl, rfl⟩
set_option maxRecDepth 1000000 in
set_option maxHeartbeats 4000000 in
theorem idxAny_short (s : ByteArray) (h8 : s.size ≤ 8) (w : World) :
    Calls Tryz.prog 173 #[.string s, .string exEq] w (R1 (.int .i64 (ixE s.data.toList)) (Below w.heap.size w)) := by
  have hX : exEq.size = 2 := rfl
  have hXe : (exEq.toList == []) = false := by rw [Lib.toList_data]; rfl
  have hXf : exEq.toList.isEmpty = false := by rw [Lib.toList_data]; rfl
  have hd : decide ((8 : Int) < (s.size : Int)) = false := decide_eq_false (by omega)
  obtain ⟨r, hr⟩ : ∃ r, ixE s.data.toList = r := ⟨_, rfl⟩
  rw [hr]
  have HR := Lib.hid hr
  have HS := Lib.hid (suas_any (s.size : Nat) w)
  clear hr
  go_enter Tryz.func173, Tryz.ntmps173
  go_wp2_with fail
  refine HS.out.mono ?_
  rintro e w1 ⟨rfl, rfl⟩
  rw [hd]
  go_wp2_with fail
  obtain ⟨g, hg⟩ : ∃ g, w1.heap.size = g := ⟨_, rfl⟩
  have hst : (w1.iter s 0).heap[g]? = some (.stringIter s 0) := by rw [← hg]; exact World.iter_heap w1 s 0
  have hb0 : Below w1.heap.size w1 (w1.iter s 0) := one_allocP _ _
  rw [hg]
  rw [hg] at hb0
  have Hg := Lib.hid hg
  clear hd HS hg
  go_loopw [9, 10] (fun _ _ wr => ∃ i : Nat, i ≤ s.size ∧ wr.heap[g]? = some (.stringIter s i) ∧ Hid (Lib.NoAny s.data.toList [33, 61] i) ∧ Below g w1 wr) (fun _ _ wr => s.size + 5 - wr.iterPos g)
  case atStart => exact ⟨0, by omega, hst, Lib.hid (Lib.NoAny.zero _ _), hb0⟩
  case round =>
    obtain ⟨i, hi, hit, hno, hbr⟩ := hrel
    have hip : wr.iterPos g = i := by simp [World.iterPos, hit]
    by_cases hlt : i < s.size
    · have hnx := fun ty => Lib.run_next_any_at (P := Tryz.prog) wr g s i ty hit hlt
      obtain ⟨x, hx⟩ : ∃ x, s[i]'hlt = x := ⟨_, rfl⟩
      have hxl : s.data.toList[i]? = some x := by rw [← hx]; exact Lib.data_getElem? s i hlt
      have hgs : g < wr.heap.size := (Array.getElem?_eq_some_iff.1 hit).1
      by_cases hx128 : x.toNat < 128
      · rw [decode_ascii s i hlt (by rw [hx]; exact hx128), hx] at hnx
        obtain ⟨W2, hW2⟩ : ∃ W2, wr.iterAt g s (i + 1) = W2 := ⟨_, rfl⟩
        have hit2 : W2.heap[g]? = some (.stringIter s (i + 1)) := by rw [← hW2]; exact Lib.iterAt_heap wr g s i (i + 1) hit
        have hb2 : Below g w1 W2 := by rw [← hW2]; exact Lib.below_iterAt hbr (Nat.le_refl _) s (i + 1)
        have hnx2 : ∀ ty, (Instr.next (.pointer (some ⟨g, 0, none⟩)) true ty).run Tryz.prog wr = .ok (.tuple #[.bool true, .int .i64 (i : Nat), .int .i32 (x.toNat : Nat)]) W2 := fun ty => by rw [← hW2]; exact hnx ty
        have HIR := Lib.hid (fun w => Tryz.strings_IndexRune_ascii exEq (x.toNat : Nat) w (by omega) (by omega))
        have hcon := Lib.contains_iff_indexByte exEq.data.toList x
        have hback : ((x.toNat : Int)).toNat.toUInt8 = x := by simp
        rw [hback] at HIR
        have Hx := Lib.hid hxl
        obtain ⟨o, ho⟩ : ∃ o, Lib.indexByte exEq.data.toList x = o := ⟨_, rfl⟩
        rw [ho] at HIR hcon
        clear hnx hW2 hxl hit hx
        cases hin : exEq.data.toList.contains x
        · rw [hin] at hcon
          have hlt0 : ¬ ((0 : Int) ≤ o) := of_decide_eq_false hcon.symm
          have Hno := Lib.hid (hno.out.succ Hx.out hin)
          clear hcon hin ho
          go_wp2_with fail
          refine (HIR.out W2).mono ?_
          rintro e w3 ⟨rfl, rfl⟩
          go_wp2_with fail
          go_roundw
          case rel => exact ⟨i + 1, by omega, hit2, Hno, hb2⟩
          case measure =>
            have : w3.iterPos g = i + 1 := by simp [World.iterPos, hit2]
            rw [this, hip]; omega
        · rw [hin] at hcon
          have hge : (0 : Int) ≤ o := of_decide_eq_true hcon.symm
          have HE := Lib.hid (show r = (i : Nat) by rw [← HR.out]; exact Lib.indexAny_hit hno.out Hx.out hin)
          clear hcon hin ho
          go_wp2_with fail
          refine (HIR.out W2).mono ?_
          rintro e w3 ⟨rfl, rfl⟩
          go_wp2_with fail
          go_ret
          rw [HE.out]
          exact R1.mk rfl (by first | exact hb2 | (rw [Hg.out]; exact hb2))
      · have hfar : 128 ≤ (s[i]'hlt).toNat := by rw [hx]; omega
        obtain ⟨k1, k2⟩ := decode_high s i hlt hfar
        obtain ⟨t1, t2⟩ := decode_tail s i hlt hfar
        have k3 := decode_le s i
        obtain ⟨ru, hru⟩ : ∃ ru, (Utf8.decode s i).1 = ru := ⟨_, rfl⟩
        obtain ⟨wd, hwd⟩ : ∃ wd, (Utf8.decode s i).2 = wd := ⟨_, rfl⟩
        rw [hru] at k1 k3
        rw [hwd] at k2 t1 t2
        rw [hru, hwd] at hnx
        obtain ⟨W2, hW2⟩ : ∃ W2, wr.iterAt g s (i + wd) = W2 := ⟨_, rfl⟩
        have hit2 : W2.heap[g]? = some (.stringIter s (i + wd)) := by rw [← hW2]; exact Lib.iterAt_heap wr g s i (i + wd) hit
        have hb2 : Below g w1 W2 := by rw [← hW2]; exact Lib.below_iterAt hbr (Nat.le_refl _) s (i + wd)
        have hnx2 : ∀ ty, (Instr.next (.pointer (some ⟨g, 0, none⟩)) true ty).run Tryz.prog wr = .ok (.tuple #[.bool true, .int .i64 (i : Nat), .int .i32 (ru : Nat)]) W2 := fun ty => by rw [← hW2]; exact hnx ty
        have hgs2 : g < W2.heap.size := (Array.getElem?_eq_some_iff.1 hit2).1
        have HIR := Lib.hid (idxRune_far ru k1 k3 W2)
        have Hno := Lib.hid (noAny_far (j := i + wd) hno.out (by omega) (fun k y h1 h2 hy => by
          have hk : k < s.size := by omega
          have := t2 k hk h1 h2
          rw [Lib.data_getElem? s k hk] at hy
          injection hy with hy
          rw [← hy]; exact this))
        clear hnx hW2 hxl hit hx t2 hno hru hwd hfar
        go_wp2_with fail
        refine HIR.out.mono ?_
        rintro e w3 ⟨rfl, hb3⟩
        have hit3 : w3.heap[g]? = some (.stringIter s (i + wd)) := (hb3.block g hgs2).trans hit2
        have hb13 : Below g w1 w3 := hb2.trans (hb3.mono (by omega))
        go_wp2_with fail
        go_roundw
        case rel => exact ⟨i + wd, by omega, hit3, Hno, hb13⟩
        case measure =>
          have : w3.iterPos g = i + wd := by simp [World.iterPos, hit3]
          rw [this, hip]; omega
    · have hnx := fun ty => Lib.run_next_end_at (P := Tryz.prog) wr g s i ty hit hlt
      have HE := Lib.hid (show r = -1 by
        rw [← HR.out]
        refine Lib.indexAny_none ?_
        rw [← Lib.size_eq, show s.size = i by omega]
        exact hno.out)
      clear hno
      go_wp2_with fail
      go_ret
      rw [HE.out]
      exact R1.mk rfl (by first | exact hbr | (rw [Hg.out]; exact hbr))
theorem v83 : ∀ w, (zeroValue 288).run Tryz.prog w = .ok (.agg (Array.replicate 256 (.bool false))) w := fun w => by kernel_rfl
theorem idxAny_any (s : ByteArray) (hs : s.size < 4294967281) (w : World) :
    Calls Tryz.prog 173 #[.string s, .string exEq] w (R1 (.int .i64 (ixE s.data.toList)) (Below w.heap.size w)) := by
  by_cases h8 : s.size ≤ 8
  · exact idxAny_short s h8 w
  · refine (Tryz.strings_IndexAny_long v83 s exEq w (by decide) (by omega) hs (by decide) (fun j b hj => ?_)).mono ?_
    · have : b = 33 ∨ b = 61 := by
        have := List.mem_of_getElem? hj
        have h : b ∈ ([33, 61] : List UInt8) := this
        simpa using h
      rcases this with rfl | rfl <;> decide
    · rintro e w' ⟨rfl, rfl⟩
      exact R1.mk rfl ((one_allocP w _).alloc (by simp) _)
end Go.Proofs.YtihjgbhnlejhfaaGreatDoor
