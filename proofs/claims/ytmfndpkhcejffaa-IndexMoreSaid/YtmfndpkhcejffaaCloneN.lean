/- What slices.Clone makes of a []int, up to 2^48 bytes. Conditions: none beyond the theorem's own hypotheses. -/
import Derived.Test.YtmfndpkhcejffaaI64s
import Derived.Lib.AppendZeros
namespace Go.Proofs.Ytmfndpkhcejffaa
open Go.RowKit

theorem elN : Elem Try.prog 31 3 1 8 := Elem.mk' (z := .int .i64 0) Try.underlying31 (by kernel_rfl) rfl (by decide)
theorem zeros_sizeC (v : Value) (n : Nat) : (Builtin.zeroCells #[v] n).size = n := by simp [Builtin.zeroCells]
/-- append of a row onto an empty slice without room -/
theorem run_append_bare {P : Program} (w : World) (t ty e : TypeId) (i : TypeInfo) (z : Value) (ht : P.underlying t = some (.slice e)) (hi : P.info? e = some i) (hz : i.zero = some z) (a0 a : Addr) (n c : Nat) (news : List Value) (hl : news.length = n * i.size) (hnews : ∀ j v, news[j]? = some v → w.cell? (a.add j) = some v)
    (h0 : 0 < n) (h63 : (n : Int) ≤ 9223372036854775807) (h48 : n * i.bytes ≤ 281474976710656) :
    (Builtin.append_ #[t, t] ty #[.slice (some a0) 0 0, .slice (some a) n c]).run P w =
      .ok (.slice (some ⟨w.heap.size, 0, none⟩) n (grownCap w n 0 e)) (w.drew.alloc (.cells (news.toArray ++ Builtin.zeroCells z.cells (grownCap w n 0 e - n)) e)) := by
  have hn : n ≠ 0 := by omega
  have h63' : ¬ (9223372036854775807 < (n : Int)) := by omega
  have h48' : ¬ (281474976710656 < Builtin.nextslicecap n 0 * i.bytes) := by rw [nextslicecap_zero h0]; omega
  have hf := run_firstCells_some (P := P) w.drew i.size n a n c news hl (by simpa using hnews)
  have hf0 := run_firstCells_some (P := P) w.drew i.size 0 a0 0 0 [] (by simp) (fun j v hv => by simp at hv)
  simp [Builtin.append_, run_underlying ht, sizeOf, typeInfo, zeroValue, hi, hz, Builtin.lenOf, hn, h63', h48', Question.forced, hf0, hf, newRow, grownCap]
set_option maxRecDepth 1000000 in
set_option maxHeartbeats 1000000 in
theorem cloneN_any (A : Option Addr) (n c : Nat) (xs : List Value) (hl : xs.length = n * 1) (h1 : ∀ u ∈ xs, u.oneCell' = true) (hA : A = none → n = 0 ∧ c = 0) (hmax : n * 8 ≤ 281474976710656) (w : World) (h : Has w w.heap.size A xs) :
    Calls Try.prog 41 #[.slice A n c] w (RV fun v w' => ∃ A' c', v = .slice A' n c' ∧ w'.ownsRow w.heap.size 3 1 (.slice A' n c') n xs ∧ Below w.heap.size w w') := by
  have hq := fun (w : World) (a : Option Addr) (n c n' c' : Nat) => Lib.run_eql_slice_nil (P := Try.prog) w 31 3 a n c n' c' Try.underlying31
  cases A with
  | none =>
    obtain ⟨rfl, rfl⟩ := hA rfl
    go_enter Try.func41, Try.ntmps41
    go_wp2
    go_ret
    exact RV.mk ⟨none, 0, rfl, ⟨hl, .inl ⟨rfl, rfl⟩⟩, Below.refl _ _⟩
  | some ad =>
    rcases Nat.eq_zero_or_pos n with h0 | h0
    · subst h0
      go_enter Try.func41, Try.ntmps41
      go_wp2_with (at_builtin; refine wpList_spread rfl _ _ _ rfl elN rfl (World.ownsRow_made (base := w.heap.size) w #[] 0 (Nat.le_refl _) (Nat.zero_le _) rfl) rfl ((h.keep fun p hp => World.cell?_alloc_lt w _ p hp)) ?_ ?c1 ?c2 ?c3 ?c4 ?c5; intro A' c' w1 hown hgrow hbel)
      case c2 => exact h1
      go_ret
      rw [Nat.zero_add, List.nil_append] at hown
      exact RV.mk ⟨A', c', rfl, hown, ((Below.refl _ _).alloc (Nat.le_refl _) _).trans hbel⟩
    · obtain ⟨i0, i1, i2, i3, i4⟩ := info_parts (show (Try.prog.info? 3).map (fun i => (i.zero, i.size, i.bytes)) = some (some (.int .i64 0), 1, 8) by kernel_rfl)
      obtain ⟨wa, hwa⟩ : ∃ wa, wa = w.alloc (.cells #[] 3) := ⟨_, rfl⟩
      have hba : Below w.heap.size w wa := by rw [hwa]; exact (Below.refl _ _).alloc (Nat.le_refl _) _
      have hcells : ∀ j v, xs[j]? = some v → wa.cell? (ad.add j) = some v := by
        intro j v hv
        obtain ⟨ad', e, hb, hc⟩ := h.at hv
        injection e with e
        subst e
        exact (hba.cell (by rw [add_block]; exact hb)).trans hc
      have hge := grownCap_ge wa n 0 3
      have hle := grownCap_le_maxLen wa n 0 3 (by unfold maxLen; omega)
      have hrun := fun ty a0 => run_append_bare (P := Try.prog) wa 31 ty 3 i0 (.int .i64 0) Try.underlying31 i1 i2 a0 ad n c xs (by rw [i3]; exact hl) hcells h0 (by omega) (by rw [i4]; omega)
      obtain ⟨cp, hcp⟩ : ∃ cp, grownCap wa n 0 3 = cp := ⟨_, rfl⟩
      rw [hcp] at hge hle
      obtain ⟨cs, hcs⟩ : ∃ cs, xs.toArray ++ Builtin.zeroCells (Value.int .i64 0).cells (cp - n) = cs := ⟨_, rfl⟩
      have hsz : cs.size = cp * 1 := by
        rw [← hcs]
        show (xs.toArray ++ Builtin.zeroCells #[Value.int .i64 0] (cp - n)).size = _
        rw [Array.size_append, zeros_sizeC, List.size_toArray, hl]; omega
      have htk : cs.toList.take (n * 1) = xs := by
        rw [← hcs, Array.toList_append, ← hl, List.take_append_of_le_length (by simp)]
        simp
      simp only [hcp, hcs] at hrun
      have hfin : RV (fun v w' => ∃ A' c', v = .slice A' n c' ∧ w'.ownsRow w.heap.size 3 1 (.slice A' n c') n xs ∧ Below w.heap.size w w') (.returned (.slice (some ⟨wa.heap.size, 0, none⟩) n cp)) (wa.drew.alloc (.cells cs 3)) :=
        RV.mk ⟨some ⟨wa.heap.size, 0, none⟩, cp, rfl, ⟨hl, .inr ⟨wa.heap.size, cp, cs, rfl, hba.size, heap_alloc_new wa.drew _, hge, hle, hsz, htk⟩⟩, (below_drewN hba 1).alloc hba.size _⟩
      have HR := Lib.hid hrun
      have HF := Lib.hid hfin
      clear hcp hcs hrun htk hsz hcells hfin hba hge hle
      subst hwa
      go_enter Try.func41, Try.ntmps41
      go_wp2_with (at_builtin; refine Lib.wpList_append_run _ rfl _ _ _ _ rfl _ _ rfl rfl _ _ (HR.out _ _) ?_)
      have hF := HF.out
      rw [World.size_alloc] at hF
      go_ret
      exact hF
end Go.Proofs.Ytmfndpkhcejffaa
