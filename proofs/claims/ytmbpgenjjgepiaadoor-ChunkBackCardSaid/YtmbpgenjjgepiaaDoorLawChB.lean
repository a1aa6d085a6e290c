/- The walk of the law ChunkBack: it returns true. Conditions: the argument fits its kind; the tables lie in their cells. -/
import Derived.Test.YtmbpgenjjgepiaaDoorOpn
import Derived.Test.YtmbpgenjjgepiaaDoorSame
import Derived.Test.YtmbpgenjjgepiaaDoorChunks
namespace Go.Proofs.YtmbpgenjjgepiaaDoor
open Go.RowKit

theorem sealB_le {l : List Smp} (h : l.length ≤ 1000) : (sealB l).length ≤ 20000 := by
  have h1 := packT_le (l := timesL l) (by rw [timesL, List.length_map]; exact h)
  have h2 := packX_le2 (l := valsL l) (by rw [valsL, List.length_map]; exact h)
  have h3 := putL_len10 (u := (packT (timesL l)).length) (by omega)
  have h4 := putL_len10 (u := (packX (valsL l)).length) (by omega)
  have h5 := packB_len (packT (timesL l))
  have h6 := packB_len (packX (valsL l))
  unfold sealB partB
  simp only [List.length_append]
  omega
theorem deb_ltC {w : World} (h : DebAt w) : 1 < w.heap.size := World.block_lt_of_cell? w ⟨1, 0, none⟩ (h 0 (by decide))

set_option maxRecDepth 1000000 in
set_option maxHeartbeats 2000000 in
theorem chunkBack_true (w : World) (A : Option Addr) (c : Nat) (l : List Smp) (hi : Smps l) (_ : l.length ≤ c) (_ : c ≤ maxLen) (_ : A = none → c = 0) (h : Has w w.heap.size A (smpCs l)) (hr : l.length ≤ 8796093022207) (hT : TabAt w) (hD : DebAt w) (_ : 0 < w.heap.size) :
    Calls Tryd.prog 3 #[.slice A l.length c] w (R1 (.bool true) (Below w.heap.size w)) := by
  have hw0 := deb_ltC hD
  have HS := Lib.hid (fun (w' : World) (hb : Below w.heap.size w w') => seal_any A l.length c l _ rfl rfl (by unfold maxLen; omega) hi w' (h.next hb) (hT.below (by omega) hb) (hD.below hw0 hb) (by have := hb.size; omega))
  have HT := Lib.hid hT
  have HD := Lib.hid hD
  have Hh := Lib.hid h
  have Hi := Lib.hid hi
  obtain ⟨n, hn⟩ : ∃ n, l.length = n := ⟨_, rfl⟩
  have Hn := Lib.hid hn
  rw [hn] at HS hr ⊢
  clear hT hD h hi hn
  obtain ⟨z, hz⟩ : ∃ z, chkS l = z := ⟨_, rfl⟩
  by_cases hz0 : z = 0
  · have e1 : sealN l = (sealB l, 0) := by unfold sealN; rw [if_neg (by rw [hz, hz0]; simp)]
    have hle := sealB_le (chkS_ok (hz.trans hz0)).1
    have hos := open_seal Hi.out (hz.trans hz0)
    have hsb := sealN_bytes e1
    rw [e1] at HS
    obtain ⟨R, hR⟩ : ∃ R, sealB l = R := ⟨_, rfl⟩
    rw [hR] at HS hle hos hsb
    have Hos := Lib.hid hos
    have Hsb := Lib.hid hsb
    obtain ⟨m, hm⟩ : ∃ m, R.length = m := ⟨_, rfl⟩
    have Hm := Lib.hid hm
    rw [hm] at hle
    clear e1 hos hsb hR hm hz hz0
    go_enter Tryd.func3, Tryd.ntmps3
    go_wp2_with fail
    refine (chunks_true _).mono ?_
    rintro e9 w1 ⟨rfl, hb1⟩
    go_wp2_with fail
    refine (HS.out _ hb1).mono ?_
    rintro e9 w2 ⟨v, rfl, A2, c2, rfl, hown2, hb2⟩
    simp only [] at hown2 ⊢
    rw [Hm.out] at hown2 ⊢
    have hb02 := bnext hb1 hb2
    have hoc := own_len hown2
    have HO := Lib.hid (open_any A2 m c2 R Hm.out hoc.1 hoc.2 (by omega) Hsb.out w2 (Has.of_own hown2) (HT.out.below (by omega) hb02) (HD.out.below hw0 hb02) (by have := hb02.size; omega))
    rw [Hos.out] at HO
    clear hown2 hoc HS
    go_wp2_with fail
    refine HO.out.mono ?_
    rintro e9 w3 ⟨v, rfl, A3, c3, rfl, hown3, hb3⟩
    simp only [] at hown3 ⊢
    rw [Hn.out] at hown3 ⊢
    have hb03 := bnext hb02 hb3
    have HSm := Lib.hid (same_any A A3 n n c c3 l l Hn.out Hn.out (by unfold maxLen; omega) (by unfold maxLen; omega) w3 (Hh.out.next hb03) (Has.of_own hown3))
    rw [decide_eq_true rfl] at HSm
    clear hown3 HO
    go_wp2_with fail
    refine HSm.out.mono ?_
    rintro e9 w4 ⟨rfl, hd⟩
    go_wp2_with fail
    go_ret
    exact R1.mk (by simp) (bnext hb03 (drawn_below hd))
  · have e1 : sealN l = ([], z) := by unfold sealN; rw [if_pos (by rw [hz]; exact hz0), hz]
    have f1 : (z != 0) = true := by rw [bne_iff_ne]; exact hz0
    rw [e1] at HS
    clear e1 hz hz0
    go_enter Tryd.func3, Tryd.ntmps3
    go_wp2_with fail
    refine (chunks_true _).mono ?_
    rintro e9 w1 ⟨rfl, hb1⟩
    go_wp2_with fail
    refine (HS.out _ hb1).mono ?_
    rintro e9 w2 ⟨v, rfl, A2, c2, rfl, hown2, hb2⟩
    clear hown2
    simp only [List.length_nil]
    go_wp2_with fail
    go_ret
    exact R1.mk (by simp) (bnext hb1 hb2)
end Go.Proofs.YtmbpgenjjgepiaaDoor
