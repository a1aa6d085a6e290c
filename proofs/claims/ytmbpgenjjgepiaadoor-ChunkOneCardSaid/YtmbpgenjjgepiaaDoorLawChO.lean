/- The walk of the law ChunkOne: it returns true. Conditions: the argument fits its kind; the tables lie in their cells. -/
import Derived.Test.YtmbpgenjjgepiaaDoorOpn
import Derived.Test.YtmbpgenjjgepiaaDoorChunks
namespace Go.Proofs.YtmbpgenjjgepiaaDoor
open Go.RowKit

theorem deb_ltO {w : World} (h : DebAt w) : 1 < w.heap.size := World.block_lt_of_cell? w ⟨1, 0, none⟩ (h 0 (by decide))
theorem openN_smps {b : List Nat} {l : List Smp} (h : openN b = (l, 0)) : Smps l ∧ sealN l = (b, 0) := by
  rcases openN_cases b with h1 | ⟨k, h1, h2⟩
  · rw [h1] at h; injection h with _ h; cases h
  · have e : k = l := by rw [h1] at h; injection h
    subst e
    refine ⟨?_, h2⟩
    unfold openN at h
    split at h
    · injection h with _ h; cases h
    · split at h
      · injection h with _ h; cases h
      · split at h
        · injection h with _ h; cases h
        · unfold openP at h
          split at h
          · injection h with _ h; cases h
          · rename_i hx
            unfold openV at h
            split at h
            · injection h with h _
              rw [← h]
              refine zipS_in ?_
              rcases upD_cases _ _ with h3 | ⟨ls, h3, _, h4⟩
              · rw [h3] at hx; exact absurd (.inl (by decide)) hx
              · rw [h3]; exact h4
            · injection h with _ h; cases h

set_option maxRecDepth 1000000 in
set_option maxHeartbeats 2000000 in
theorem chunkOne_true (w : World) (A : Option Addr) (c : Nat) (b : List Nat) (hb : Bytes b) (hlc : b.length ≤ c) (hc : c ≤ maxLen) (_ : A = none → c = 0) (h : Has w w.heap.size A (u8s b)) (hr : b.length ≤ 140737488351232) (hT : TabAt w) (hD : DebAt w) (_ : 0 < w.heap.size) :
    Calls Tryd.prog 4 #[.slice A b.length c] w (R1 (.bool true) (Below w.heap.size w)) := by
  have hw0 := deb_ltO hD
  have HO := Lib.hid (fun (w' : World) (hb' : Below w.heap.size w w') => open_any A b.length c b rfl hlc hc hr hb w' (h.next hb') (hT.below (by omega) hb') (hD.below hw0 hb') (by have := hb'.size; omega))
  have HT := Lib.hid hT
  have HD := Lib.hid hD
  have Hh := Lib.hid h
  have Hb := Lib.hid hb
  obtain ⟨n, hn⟩ : ∃ n, b.length = n := ⟨_, rfl⟩
  have Hn := Lib.hid hn
  rw [hn] at HO ⊢
  clear hT hD h hb hn
  rcases openN_cases b with e1 | ⟨l, e1, e2⟩
  · rw [e1] at HO
    clear e1
    go_enter Tryd.func4, Tryd.ntmps4
    go_wp2_with fail
    refine (chunks_true _).mono ?_
    rintro e9 w1 ⟨rfl, hb1⟩
    go_wp2_with fail
    refine (HO.out _ hb1).mono ?_
    rintro e9 w2 ⟨v, rfl, A2, c2, rfl, hown2, hb2⟩
    clear hown2
    simp only [List.length_nil]
    go_wp2_with fail
    go_ret
    exact R1.mk (by simp) (bnext hb1 hb2)
  · have hsm := (openN_smps e1).1
    rw [e1] at HO
    have He2 := Lib.hid e2
    have Hsm := Lib.hid hsm
    have hl1000 : l.length ≤ 1000 := by
      have h3 := e2
      unfold sealN at h3
      split at h3
      · rename_i h4; injection h3 with _ h5; exact absurd h5 h4
      · rename_i h4; exact (chkS_ok (Decidable.not_not.1 h4)).1
    obtain ⟨m, hm⟩ : ∃ m, l.length = m := ⟨_, rfl⟩
    have Hm := Lib.hid hm
    rw [hm] at hl1000
    clear e1 e2 hsm hm
    go_enter Tryd.func4, Tryd.ntmps4
    go_wp2_with fail
    refine (chunks_true _).mono ?_
    rintro e9 w1 ⟨rfl, hb1⟩
    go_wp2_with fail
    refine (HO.out _ hb1).mono ?_
    rintro e9 w2 ⟨v, rfl, A2, c2, rfl, hown2, hb2⟩
    simp only [] at hown2 ⊢
    rw [Hm.out] at hown2 ⊢
    have hb02 := bnext hb1 hb2
    have HS := Lib.hid (seal_any A2 m c2 l _ He2.out Hm.out (by rw [Hm.out]; unfold maxLen; omega) Hsm.out w2 (Has.of_own hown2) (HT.out.below (by omega) hb02) (HD.out.below hw0 hb02) (by have := hb02.size; omega))
    clear hown2 HO
    go_wp2_with fail
    refine HS.out.mono ?_
    rintro e9 w3 ⟨v, rfl, A3, c3, rfl, hown3, hb3⟩
    simp only [] at hown3 ⊢
    rw [Hn.out] at hown3 ⊢
    have hb03 := bnext hb02 hb3
    have HE := Lib.hid (bytesEqual_any A A3 n n c c3 b b Hb.out Hb.out Hn.out Hn.out w3 (Hh.out.next hb03) (Has.of_own hown3))
    rw [decide_eq_true rfl] at HE
    clear hown3 HS
    go_wp2_with fail
    refine HE.out.mono ?_
    rintro e9 w4 ⟨rfl, hd⟩
    go_wp2_with fail
    go_ret
    exact R1.mk (by simp) (bnext hb03 (drawn_below hd))
end Go.Proofs.YtmbpgenjjgepiaaDoor
