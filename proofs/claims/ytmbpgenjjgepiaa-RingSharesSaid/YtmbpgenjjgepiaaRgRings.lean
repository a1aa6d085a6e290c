/- What the laws' helper rings tells: true. No conditions. -/
import Derived.Test.YtmbpgenjjgepiaaRgOwners
import Derived.Test.YtmbpgenjjgepiaaRgLaw
namespace Go.Proofs.Ytmbpgenjjgepiaa
open Go.RowKit Go.Sort

def ndA : Nod := ⟨⟨#[97]⟩, [5]⟩
theorem chk_ndA : chkR [ndA] = 0 := by
  have h1 : nlt noName (⟨#[97]⟩ : ByteArray) := nlt_noName (by intro h; have := congrArg ByteArray.size h; exact absurd this (by decide))
  have h2 : (⟨#[97]⟩ : ByteArray) ≠ noName := by intro h; have := congrArg ByteArray.size h; exact absurd this (by decide)
  have h3 : ¬ (20 < (⟨#[97]⟩ : ByteArray).size) := by decide
  simp [chkR, chkGo, ndErr, ndA, h1, h2, h3, orE, upT]
theorem own_ndA {i : Nat} (h : FallP (plcs (plAll [ndA])) 0 i) : ownGo (plcs (plAll [ndA])) i 1 (plAll [ndA]).length = [⟨#[97]⟩] := by
  have e1 : plAll [ndA] = [⟨5, ⟨#[97]⟩⟩] := rfl
  have e2 : plcs [(⟨5, ⟨#[97]⟩⟩ : Plc)] = [⟨5, ⟨#[97]⟩⟩] := List.mergeSort_singleton _
  rw [e1, e2] at h ⊢
  have h0 : i = 0 := by
    rcases Nat.eq_zero_or_pos i with g | g
    · exact g
    · exact absurd (h.2.1 0 g) (Nat.not_lt_zero _)
  subst h0
  simp [ownGo, hasS, at_]
set_option maxRecDepth 1000000 in
set_option maxHeartbeats 4000000 in
theorem rings_any (w : World) : Calls Try.prog 8 #[] w (R1 (.bool true) (Below w.heap.size w)) := by
  obtain ⟨W1, hW1⟩ : ∃ W1, w.alloc (.cells #[.int .u64 5] 23) = W1 := ⟨_, rfl⟩
  obtain ⟨W2, hW2⟩ : ∃ W2, W1.alloc (.cells #[.string ⟨#[97]⟩, .slice (some ⟨w.heap.size, 0, none⟩) 1 1] 34) = W2 := ⟨_, rfl⟩
  have hb1 : Below w.heap.size w W1 := by rw [← hW1]; exact one_alloc w _
  have hb2 : Below W1.heap.size W1 W2 := by rw [← hW2]; exact one_alloc W1 _
  have hs1 : w.heap.size + 1 = W1.heap.size := by rw [← hW1]; simp
  have ht : Has W1 W1.heap.size (some ⟨w.heap.size, 0, none⟩) (u64s [5]) := by rw [← hW1]; exact has_new w #[.int .u64 5] 23 rfl
  have hnd : Has W2 W2.heap.size (some ⟨w.heap.size + 1, 0, none⟩) (nodCs [⟨⟨#[97]⟩, ⟨some ⟨w.heap.size, 0, none⟩, 1, [5]⟩⟩]) := by rw [← hW2]; exact has_new W1 #[.string ⟨#[97]⟩, .slice (some ⟨w.heap.size, 0, none⟩) 1 1] 34 hs1
  have hok : ∀ e ∈ ([⟨⟨#[97]⟩, ⟨some ⟨w.heap.size, 0, none⟩, 1, [5]⟩⟩] : List NodE), NodOk W2 e := by
    intro e he
    obtain rfl := List.mem_singleton.1 he
    exact ⟨⟨(show 1 ≤ 1 by decide), (show 1 ≤ maxLen by decide), (fun h => by cases h), ht.next hb2⟩, (show 1 ≤ maxLen by decide), fun x hx => by obtain rfl := List.mem_singleton.1 hx; decide⟩
  have hO := Lib.hid (owners_any (some ⟨w.heap.size + 1, 0, none⟩) 1 1 [⟨⟨#[97]⟩, ⟨some ⟨w.heap.size, 0, none⟩, 1, [5]⟩⟩] rfl (by decide) 0 1 W2 hnd hok (fun _ => ⟨by decide, fun e he => by obtain rfl := List.mem_singleton.1 he; exact (show 1 ≤ 1000 by decide)⟩))
  have hb12 := Lib.hid (bnext hb1 hb2)
  clear hnd hok ht hb1 hb2 hs1
  have HW2 := Lib.hid hW2; clear hW2
  have HW1 := Lib.hid hW1; clear hW1
  go_enter Try.func8, Try.ntmps8
  go_wp2_with fail
  rw [HW1.out, HW2.out]
  refine hO.out.mono ?_
  rintro e w3 ⟨v, rfl, A', n', c', o, er, rfl, hn', hown, hb3, hcase⟩
  have hres : er = 0 ∧ n' = 1 := by
    rcases hcase with ⟨h1, _⟩ | ⟨_, h1, _⟩ | ⟨_, _, h1, i, h2, h3⟩
    · exact absurd chk_ndA h1
    · exact absurd h1 (by decide)
    · refine ⟨h1, ?_⟩
      have h4 : o = [⟨#[97]⟩] := h3.trans (own_ndA h2)
      rw [hn', h4]; rfl
  obtain ⟨rfl, rfl⟩ := hres
  have hb := Lib.hid (bnext hb12.out hb3)
  clear hcase hown hb3 hn'
  go_wp2_with fail
  go_ret
  exact R1.mk rfl hb.out
end Go.Proofs.Ytmbpgenjjgepiaa
