/- What Text and MatchText of package label tell. Conditions: what comes in lies in its cells; the table of signs. -/
import Derived.Test.YtmfndpkhcejffaaGreatDoorLbText
namespace Go.Proofs.YtmfndpkhcejffaaGreatDoor
open Go.RowKit

theorem elMtT : Elem Tryz.prog 23 36 3 40 := Elem.mk' (z := .agg #[.int .i64 0, .string ⟨#[]⟩, .string ⟨#[]⟩]) Tryz.underlying23 (by kernel_rfl) rfl (by decide)
theorem mtCs_app1T (l : List Mt) (x : Mt) : mtCs (l ++ [x]) = mtCs l ++ (#[.int .i64 x.k, .string x.nm, .string x.v] : Array Value).toList := by simp [mtCs, mtC]
/-- a label as a match -/
def asM (x : Lab) : Mt := ⟨1, x.nm, x.v⟩
def MtsP (w : World) (M : List Mt) (v : Value) (w' : World) : Prop :=
  ∃ A c, v = .slice A M.length c ∧ w'.ownsRow w.heap.size 36 3 (.slice A M.length c) M.length (mtCs M) ∧ Below w.heap.size w w'

set_option maxRecDepth 1000000 in
set_option maxHeartbeats 4000000 in
theorem lmatches_any (A : Option Addr) (n c : Nat) (L : List Lab) (hn : L.length = n) (hl : n ≤ 1000000) (w : World) (h : Has w w.heap.size A (labCs L)) :
    Calls Tryz.prog 13 #[.slice A n c] w (RV (MtsP w (L.map asM))) := by
  have Hn := Lib.hid hn
  have Hh := Lib.hid h
  clear h hn
  go_enter Tryz.func13, Tryz.ntmps13
  go_wp2_with fail
  go_loopw [3, 8] (fun ov iv wr => ∃ (k : Nat) (B : Option Addr) (d : Nat), k ≤ n ∧ iv = .int .i64 (k : Nat) ∧ ov = .slice B k d ∧ wr.ownsRow w.heap.size 36 3 (.slice B k d) k (mtCs ((L.take k).map asM)) ∧ Below w.heap.size w wr) (fun _ iv _ => n + 5 - (intOf iv).toNat)
  case atStart => exact ⟨0, none, 0, by omega, rfl, rfl, World.ownsRow_nil _ _ _ _, Below.refl _ _⟩
  case round =>
    obtain ⟨k, B, d, hk, rfl, rfl, hown, hbr⟩ := hrel
    have hbs := hbr.size
    by_cases hlt : (k : Int) < (n : Int)
    · have hkL : k < L.length := by rw [Hn.out]; omega
      obtain ⟨ad, rfl, _, c0⟩ := (Hh.out.next hbr).at (labCs_0 hkL)
      obtain ⟨ad', e', _, c1⟩ := (Hh.out.next hbr).at (labCs_1 hkL)
      injection e' with e'
      subst e'
      have c1 := cell_off c1 (by decide)
      have htk := take_at (l := L) (k := k) hkL
      obtain ⟨x, hx⟩ : ∃ x, at_ L k = x := ⟨_, rfl⟩
      rw [hx] at c0 c1 htk
      obtain ⟨nm, v⟩ := x
      simp only [] at c0 c1
      have Htk := Lib.hid htk
      have hrow : mtCs ((L.take (k + 1)).map asM) = mtCs ((L.take k).map asM) ++ (#[.int .i64 1, .string nm, .string v] : Array Value).toList := by
        rw [Htk.out, List.map_append, List.map_cons, List.map_nil, mtCs_app1T]; rfl
      have Hrow := Lib.hid hrow
      have hb2 := (hbr.alloc hbs (.cells #[.string nm, .string v] 42))
      clear htk hrow
      go_wp2_with (at_builtin; refine wpList_append1 rfl _ _ _ rfl elMtT (v := .slice B k d) rfl (hown.alloc _) (g := wr.heap.size + 1) rfl (by simp) rfl ?_ ?c1 ?c2 ?c3 ?c4; intro B9 d9 w9 hown9 hgrow9 hbel9)
      case c1 => first | (intro u hu; simp at hu; rcases hu with rfl | rfl | rfl <;> rfl) | exact ⟨rfl, rfl, rfl⟩ | rfl
      case c2 => omega
      case c3 => unfold maxLen; omega
      case c4 => omega
      have hbel09 : Below w.heap.size w w9 := hb2.trans hbel9
      have Hown9 := Lib.hid hown9
      clear hown9 hgrow9 hbel9
      go_roundw
      case rel => exact ⟨k + 1, B9, d9, by omega, by go_num, rfl, by rw [Hrow.out]; exact Hown9.out, hbel09⟩
      case measure => simp [intOf]; omega
    · have hkn : k = n := by omega
      subst hkn
      rw [List.take_of_length_le (by rw [Hn.out]; omega)] at hown
      have Hown := Lib.hid hown
      clear hown Hh
      go_wp2_with fail
      go_ret
      refine RV.mk ⟨B, d, ?_, ?_, hbr⟩
      · rw [List.length_map, Hn.out]; rfl
      · rw [List.length_map, Hn.out]; exact Hown.out

/-- what Text tells -/
def textN (L : List Lab) : ByteArray × Int := if chkL L ≠ 0 then (⟨#[]⟩, chkL L) else (txtB (L.map asM), 0)
def mtextN (L : List Mt) : ByteArray × Int := if chkM L ≠ 0 then (⟨#[]⟩, chkM L) else (txtB L, 0)
theorem mtS_of {L : List Mt} (h : chkM L = 0) : L.length ≤ 10 ∧ ∀ x ∈ L, MtS x := by
  obtain ⟨h1, h2⟩ := chkM_iff.1 h
  refine ⟨h1, fun x hx => ?_⟩
  have := h2 x hx
  unfold mtErr at this
  split at this
  · cases this
  · split at this
    · cases this
    · split at this
      · cases this
      · rename_i a b c
        have hn : nameOk x.nm = true := by simpa using b
        exact ⟨by omega, by omega, nameOk_le hn, by omega⟩
theorem labS_of {L : List Lab} (h : chkL L = 0) : L.length ≤ 10 ∧ ∀ x ∈ L.map asM, MtS x := by
  obtain ⟨h1, h2, _⟩ := chkL_iff.1 h
  refine ⟨h1, fun x hx => ?_⟩
  obtain ⟨y, hy, rfl⟩ := List.mem_map.1 hx
  obtain ⟨h3, h4⟩ := h2 y hy
  exact ⟨Int.le_refl 1, show (1 : Int) ≤ 4 by decide, nameOk_le h3, h4⟩
set_option maxRecDepth 1000000 in
set_option maxHeartbeats 4000000 in
theorem lmtext_any (A : Option Addr) (n c : Nat) (L : List Mt) (hn : L.length = n) (hl : n ≤ maxLen) (w : World) (h : Has w w.heap.size A (mtCs L)) (hL : ∀ e ∈ L, MtOk e) (tS : SgAt w) :
    Calls Tryz.prog 8 #[.slice A n c] w (R1 (.tuple #[.string (mtextN L).1, .int .i64 (mtextN L).2]) (Below w.heap.size w)) := by
  have HC := Lib.hid (mcheck_any A n c L hn hl w h hL)
  obtain ⟨r, hr⟩ : ∃ r, chkM L = r := ⟨_, rfl⟩
  rw [hr] at HC
  have HT := fun (hz : r = 0) (w1 : World) (hb : Below w.heap.size w w1) => Lib.hid (ltext_any A n c L hn (by have := (mtS_of (hr.trans hz)).1; omega) w1 (h.next hb) (mtS_of (hr.trans hz)).2 (tS.next hb))
  have HE := Lib.hid (show mtextN L = if r ≠ 0 then (⟨#[]⟩, r) else (txtB L, 0) by unfold mtextN; rw [hr])
  clear h hL hr tS hn
  go_enter Tryz.func8, Tryz.ntmps8
  go_wp2_with fail
  refine HC.out.mono ?_
  rintro e w1 ⟨rfl, hb1⟩
  by_cases h0 : r = 0
  · have HT2 := HT h0 w1 hb1
    clear HT
    have E := Lib.hid (show mtextN L = (txtB L, 0) by rw [HE.out, if_neg (by simpa using h0)])
    subst h0
    clear HE
    go_wp2_with fail
    refine HT2.out.mono ?_
    rintro e w2 ⟨rfl, hb2⟩
    go_wp2_with fail
    go_ret2
    rw [E.out]
    exact R1.mk rfl (bnext hb1 hb2)
  · have E := Lib.hid (show mtextN L = (⟨#[]⟩, r) by rw [HE.out, if_pos h0])
    clear HE HT
    have h0' : (r == 0) = false := by simpa using h0
    go_wp2_with fail
    go_ret2
    rw [E.out]
    exact R1.mk rfl hb1
set_option maxRecDepth 1000000 in
set_option maxHeartbeats 4000000 in
theorem lbtext_any (A : Option Addr) (n c : Nat) (L : List Lab) (hn : L.length = n) (hl : n ≤ maxLen) (w : World) (h : Has w w.heap.size A (labCs L)) (hL : ∀ e ∈ L, LabOk e) (tS : SgAt w) :
    Calls Tryz.prog 5 #[.slice A n c] w (R1 (.tuple #[.string (textN L).1, .int .i64 (textN L).2]) (Below w.heap.size w)) := by
  have HC := Lib.hid (lcheck_any A n c L hn hl w h hL)
  obtain ⟨r, hr⟩ : ∃ r, chkL L = r := ⟨_, rfl⟩
  rw [hr] at HC
  obtain ⟨M, hM⟩ : ∃ M, L.map asM = M := ⟨_, rfl⟩
  have hMl : M.length = L.length := by rw [← hM, List.length_map]
  have HM := fun (hz : r = 0) (w1 : World) (hb : Below w.heap.size w w1) => Lib.hid (lmatches_any A n c L hn (by have := (labS_of (hr.trans hz)).1; omega) w1 (h.next hb))
  rw [hM] at HM
  have HL2 : ∀ hz : r = 0, L.length ≤ 10 ∧ ∀ x ∈ M, MtS x := fun hz => by rw [← hM]; exact labS_of (hr.trans hz)
  have HE := Lib.hid (show textN L = if r ≠ 0 then (⟨#[]⟩, r) else (txtB M, 0) by unfold textN; rw [hr, hM])
  have HS := Lib.hid tS
  clear h hL hr tS hn hM
  go_enter Tryz.func5, Tryz.ntmps5
  go_wp2_with fail
  refine HC.out.mono ?_
  rintro e w1 ⟨rfl, hb1⟩
  by_cases h0 : r = 0
  · have HM2 := HM h0 w1 hb1
    clear HM
    obtain ⟨l1, l2⟩ := HL2 h0
    have L2 := Lib.hid l2
    have E := Lib.hid (show textN L = (txtB M, 0) by rw [HE.out, if_neg (by simpa using h0)])
    subst h0
    clear HE HL2 l2
    go_wp2_with fail
    refine HM2.out.mono ?_
    rintro e w2 ⟨v, rfl, A2, c2, rfl, hown2, hb2⟩
    have HT := Lib.hid (ltext_any A2 M.length c2 M rfl (by rw [hMl]; exact l1) w2 (Has.of_own hown2) L2.out (HS.out.next (bnext hb1 hb2)))
    clear hown2 hMl
    go_wp2_with fail
    refine HT.out.mono ?_
    rintro e w3 ⟨rfl, hb3⟩
    go_wp2_with fail
    go_ret2
    rw [E.out]
    exact R1.mk rfl (bnext (bnext hb1 hb2) hb3)
  · have E := Lib.hid (show textN L = (⟨#[]⟩, r) by rw [HE.out, if_pos h0])
    clear HE HM HL2
    have h0' : (r == 0) = false := by simpa using h0
    go_wp2_with fail
    go_ret2
    rw [E.out]
    exact R1.mk rfl hb1
end Go.Proofs.YtmfndpkhcejffaaGreatDoor
