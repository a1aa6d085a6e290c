/- strings.IndexAny(s, "!="), whatever s holds. Conditions: s is no giant. -/
import Derived.Test.YtmfndpkhcejffaaGreatDoorLbTold
import Derived.Test.YtmfndpkhcejffaaGreatDoorShX
import Derived.BigQuiet
import Derived.WalkMore
import Derived.Laws.RangeAny
import Derived.Laws.Runes
import Derived.Lib.DecodeN
import Derived.Lib.IndexAny
namespace Go.Proofs.YtmfndpkhcejffaaGreatDoor
open Go.RowKit

def exEq : ByteArray := ⟨#[33, 61]⟩
theorem idxByte_far (x : UInt8) (h : 128 ≤ x.toNat) : Lib.indexByte [61] x = -1 ∧ Lib.indexByte ([] : List UInt8) x = -1 := by
  refine ⟨?_, rfl⟩
  have : (61 : UInt8) ≠ x := fun e => by rw [← e] at h; revert h; decide
  simp [Lib.indexByte, this]
set_option maxRecDepth 1000000 in
set_option maxHeartbeats 4000000 in
theorem idxRune_far (r : Nat) (h1 : 128 ≤ r) (h2 : r ≤ 2147483647) (w : World) :
    Calls Tryz.prog 33 #[.string exEq, .int .i32 (r : Nat)] w (R1 (.int .i64 (-1)) (Below w.heap.size w)) := by
  have b1 : (0 : Int) ≤ (r : Int) := by omega
  have b2 : ¬ (r : Int) < 128 := by omega
  by_cases hE : (r : Int) = 65533
  · have hE' : ((r : Int) == 65533) = true := by simp [hE]
    have e0 : Utf8.decode exEq 0 = (33, 1) := by kernel_rfl
    have e1 : Utf8.decode exEq 1 = (61, 1) := by kernel_rfl
    have n0 := fun ty => run_next_any (P := Tryz.prog) w exEq 0 ty (by decide)
    have n1 := fun ty => run_next_any (P := Tryz.prog) w exEq 1 ty (by decide)
    have n2 := fun ty => run_next_end (P := Tryz.prog) w exEq 2 ty (by decide)
    rw [e0] at n0
    rw [e1] at n1
    have q1 : ((33 : Int) == 65533) = false := by decide
    have q2 : ((61 : Int) == 65533) = false := by decide
    clear e0 e1
    go_enter Tryz.func33, Tryz.ntmps33
    go_wp2_with fail
    go_loopw [5, 6] (fun _ _ wr => wr = w.iter exEq 0 ∨ wr = w.iter exEq 1 ∨ wr = w.iter exEq 2) (fun _ _ wr => 5 - wr.iterPos w.heap.size)
    case atStart => exact .inl rfl
    case round =>
      rcases hrel with rfl | rfl | rfl
      · go_wp2_with fail
        go_roundw
        case rel => first | exact .inr (.inl rfl) | simp
        case measure => simp
      · go_wp2_with fail
        go_roundw
        case rel => first | exact .inr (.inr rfl) | simp
        case measure => simp
      · go_wp2_with fail
        go_ret
        exact R1.mk rfl (one_allocP _ _)
  · have hE' : ((r : Int) == 65533) = false := by simp [hE]
    have hv := Tryz.utf8_ValidRune (r : Nat) w
    cases hV : Lib.validRune (r : Nat) with
    | false =>
      rw [hV] at hv
      have HV := Lib.hid hv
      clear hv hV
      go_enter Tryz.func33, Tryz.ntmps33
      go_wp2_with fail
      refine HV.out.mono ?_
      rintro e w1 ⟨rfl, rfl⟩
      go_wp2_with fail
      go_ret
      exact R1.mk rfl (Below.refl _ _)
    | true =>
      rw [hV] at hv
      have HV := Lib.hid hv
      obtain ⟨f1, f2, f3⟩ := encode_facts (r : Nat) (by rw [validRune_eq]; exact hV) (by omega)
      obtain ⟨E, hEe⟩ : ∃ E, Utf8.encode (r : Nat) = E := ⟨_, rfl⟩
      rw [hEe] at f1 f2 f3
      have hX : exEq.size = 2 := rfl
      have hcv : ∀ w, (convert 21 9 (.int .i32 (r : Nat))).run Tryz.prog w = .ok (.string E) w := fun w => by
        rw [run_convert_int_string w 21 9 .i32 (r : Nat) (by rw [Tryz.underlying21]; rfl) Tryz.underlying9, hEe]
      clear hEe
      clear hv hV
      by_cases h2 : E.size = 2
      · obtain ⟨x, hx⟩ : ∃ x, E[1]'(by omega) = x := ⟨_, rfl⟩
        have hx128 : 128 ≤ x.toNat := by
          have := f3 (by omega)
          simp only [h2] at this
          rw [← hx]; exact this
        have hxl := x.toNat_lt
        have e1 : (exEq[1]'(by decide)).toNat = 61 := rfl
        have hne : ((61 : Int) == (x.toNat : Int)) = false := by rw [beq_eq_false_iff_ne]; omega
        have hw2 : IntKind.i64.wrap 2 = 2 := by decide
        have hxe : exEq.extract 2 2 = ⟨#[]⟩ := rfl
        have hIB : ∀ w : World, Calls Tryz.prog 41 #[.string ByteArray.empty, .int .u8 (x.toNat : Nat)] w fun e w' => e = .returned (.int .i64 (-1)) ∧ w' = w := fun w => Tryz.strings_IndexByte ByteArray.empty (x.toNat : Nat) w
        have hib : Lib.indexByte (exEq.extract 2 2).data.toList ((x.toNat : Int)).toNat.toUInt8 = -1 := by
          rw [hxe]; rfl
        have hib2 : Lib.indexByte (⟨#[]⟩ : ByteArray).data.toList ((x.toNat : Int)).toNat.toUInt8 = -1 := rfl
        clear f3
        go_enter Tryz.func33, Tryz.ntmps33
        go_wp2_with fail
        refine HV.out.mono ?_
        rintro e w1 ⟨rfl, rfl⟩
        go_wp2_with fail
        go_step3
        go_wp2_with fail
        go_loopw [9, 10] (fun iv fv wr => iv = .int .i64 1 ∧ fv = .int .i64 0 ∧ wr = w1) (fun _ _ _ => 1)
        case atStart => exact ⟨rfl, rfl, rfl⟩
        case round =>
          obtain ⟨rfl, rfl, rfl⟩ := hrel
          go_wp2_with fail
          go_step3
          go_wp2_with fail
          go_quiet (fail)
          go_wp2_with fail
          go_quiet ((go_at_call 41; exact (hIB _).mono (fun _ _ ⟨he, hm⟩ => ⟨he, _, hm⟩)))
          go_wp2_with fail
          rw [Exit.noGoto_ret]
          first | go_wp2_with fail | skip
          go_ret
          exact R1.mk rfl (below_drewN (Below.refl _ _) _)

      · go_enter Tryz.func33, Tryz.ntmps33
        go_wp2_with fail
        refine HV.out.mono ?_
        rintro e w1 ⟨rfl, rfl⟩
        go_wp2_with fail
        go_step3
        go_wp2_with fail
        go_loopw [9, 10] (fun iv fv wr => iv = .int .i64 ((E.size : Int) - 1) ∧ fv = .int .i64 0 ∧ wr = w1) (fun _ _ _ => 1)
        case atStart => exact ⟨rfl, rfl, rfl⟩
        case round =>
          obtain ⟨rfl, rfl, rfl⟩ := hrel
          have h3 : ¬ (E.size : Int) - 1 < 2 := by omega
          have h3' : ¬ (E.size : Int) < 3 := by omega
          go_wp2_with fail
          go_ret
          exact R1.mk rfl (Below.refl _ _)


/-- bytes of a rune that is no ASCII -/
theorem decode_tail (s : ByteArray) (i : Nat) (h : i < s.size) (ha : 128 ≤ (s[i]'h).toNat) : i + (Utf8.decode s i).2 ≤ s.size ∧ ∀ k (hk : k < s.size), i ≤ k → k < i + (Utf8.decode s i).2 → 128 ≤ (s[k]'hk).toNat := by
  have hg : ∀ k (hk : k < s.size), s.get! k = s[k]'hk := fun k hk => by
    have := get_at s k hk
    simpa using this
  have hi : (s.get! i).toNat = (s[i]'h).toNat := by rw [hg i h]
  have key : ∀ W, Utf8.decode s i = W → (W.2 = 1 ∨ (W.2 = 2 ∧ i + 1 < s.size ∧ (s.get! (i + 1)).toNat / 64 = 2) ∨ (W.2 = 3 ∧ i + 2 < s.size ∧ (s.get! (i + 1)).toNat / 64 = 2 ∧ (s.get! (i + 2)).toNat / 64 = 2) ∨ (W.2 = 4 ∧ i + 3 < s.size ∧ (s.get! (i + 1)).toNat / 64 = 2 ∧ (s.get! (i + 2)).toNat / 64 = 2 ∧ (s.get! (i + 3)).toNat / 64 = 2)) := by
    intro W hW
    rw [Lib.decode_at] at hW
    subst hW
    unfold Lib.decodeN
    split
    · exact .inl rfl
    · split
      · rename_i q
        split
        · exact .inr (.inl ⟨rfl, by omega, q.2.2⟩)
        · exact .inl rfl
      · split
        · rename_i q
          split
          · exact .inr (.inr (.inl ⟨rfl, by omega, q.2.1.2, q.2.2.2⟩))
          · exact .inl rfl
        · split
          · rename_i q
            split
            · exact .inr (.inr (.inr ⟨rfl, by omega, q.2.1.2, q.2.2.1.2, q.2.2.2.2⟩))
            · exact .inl rfl
          · exact .inl rfl
  have far : ∀ j (hj : j < s.size), (s.get! j).toNat / 64 = 2 → 128 ≤ (s[j]'hj).toNat := fun j hj hq => by rw [hg j hj] at hq; omega
  rcases key _ rfl with e | ⟨e, l, q1⟩ | ⟨e, l, q1, q2⟩ | ⟨e, l, q1, q2, q3⟩ <;> rw [e] <;> refine ⟨by omega, fun k hk h1 h2 => ?_⟩
  · obtain rfl : k = i := by omega
    exact ha
  · rcases (show k = i ∨ k = i + 1 by omega) with rfl | rfl
    · exact ha
    · exact far _ hk q1
  · rcases (show k = i ∨ k = i + 1 ∨ k = i + 2 by omega) with rfl | rfl | rfl
    · exact ha
    · exact far _ hk q1
    · exact far _ hk q2
  · rcases (show k = i ∨ k = i + 1 ∨ k = i + 2 ∨ k = i + 3 by omega) with rfl | rfl | rfl | rfl
    · exact ha
    · exact far _ hk q1
    · exact far _ hk q2
    · exact far _ hk q3
/-- the first sign's place -/
def ixE : List UInt8 → Int := fun l => Lib.indexAny l [33, 61]
theorem noAny_far {l : List UInt8} {i j : Nat} (h : Lib.NoAny l [33, 61] i) (hij : i ≤ j) (hf : ∀ k (x : UInt8), i ≤ k → k < j → l[k]? = some x → 128 ≤ x.toNat) : Lib.NoAny l [33, 61] j := by
  intro k b hk hb
  rcases Nat.lt_or_ge k i with h1 | h1
  · exact h k b h1 hb
  · have := hf k b h1 hk hb
    have e1 : b ≠ 33 := fun e => by rw [e] at this; revert this; decide
    have e2 : b ≠ 61 := fun e => by rw [e] at this; revert this; decide
    simp [e1, e2]
end Go.Proofs.YtmfndpkhcejffaaGreatDoor
