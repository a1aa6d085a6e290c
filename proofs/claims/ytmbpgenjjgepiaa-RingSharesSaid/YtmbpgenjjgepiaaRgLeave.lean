/- What Leave of package ring makes. Conditions: nodes lie in their cells. -/
import Derived.Test.YtmbpgenjjgepiaaRgLaw
import Derived.Test.YtmbpgenjjgepiaaRgDel
namespace Go.Proofs.Ytmbpgenjjgepiaa
open Go.RowKit

/-- what Leave answers -/
def LeaveP (L : List NodE) (name : ByteArray) (w : World) (v : Value) (w' : World) : Prop :=
  ((∃ e : Int, e ≠ 0 ∧ in64 e ∧ v = .tuple #[.slice none 0 0, .int .i64 e] ∧ (RgOk (L.map NodE.x) → ∀ q, q < L.length → (at_ L q).nm ≠ name)) ∨
    ∃ i A c L', RgOk (L.map NodE.x) ∧ i < L.length ∧ (at_ L i).nm = name ∧ (∀ q, q < i → (at_ L q).nm ≠ name) ∧ v = .tuple #[.slice A (L.length - 1) c, .int .i64 0] ∧ L'.map NodE.x = (L.map NodE.x).eraseIdx i ∧
      w'.ownsRow w.heap.size 34 2 (.slice A (L.length - 1) c) (L.length - 1) (nodCs L') ∧ ∀ e ∈ L', TkOwn w' w.heap.size e) ∧ Below w.heap.size w w'
theorem chkR_in (l : List Nod) : in64 (chkR l) := by
  have h : ∀ (l : List Nod) (last : ByteArray), in64 (chkGo last l) := by
    intro l
    induction l with
    | nil => intro _; rw [chkGo]; exact ⟨by decide, by decide⟩
    | cons x l ih =>
      intro last
      unfold chkGo orE ndErr
      repeat' split
      all_goals first | exact ih _ | exact ⟨by decide, by decide⟩
  unfold chkR
  split
  · exact ⟨by decide, by decide⟩
  · exact h _ _
theorem noA {A : Option Addr} {c n : Nat} (h : A = none → c = 0) (hn : n ≤ c) : A = none → n = 0 ∧ c = 0 := fun e => by have := h e; omega

set_option maxRecDepth 1000000 in
set_option maxHeartbeats 4000000 in
theorem leave_any (A : Option Addr) (n c : Nat) (L : List NodE) (hn : L.length = n) (hA : A = none → c = 0) (hnc : n ≤ c) (hl : n ≤ maxLen) (name : ByteArray) (w : World) (h : Has w w.heap.size A (nodCs L)) (hL : ∀ e ∈ L, NodOk w e) :
    Calls Try.prog 16 #[.slice A n c, .string name] w (RV (LeaveP L name w)) := by
  have HC := Lib.hid (rcheckN_any A n c L hn hl w h hL)
  obtain ⟨z, hz⟩ : ∃ z, chkR (L.map NodE.x) = z := ⟨_, rfl⟩
  rw [hz] at HC
  by_cases hz0 : z = 0
  · have hok : RgOk (L.map NodE.x) := chkR_iff.1 (hz.trans hz0)
    have h20 : n ≤ 20 := by have := hok.1; rw [List.length_map] at this; omega
    have HF := Lib.hid (fun (w' : World) (hb : Below w.heap.size w w') => find_any A n c L hn hl name w' (h.next hb))
    have HCl := Lib.hid (fun (w' : World) (hb : Below w.heap.size w w') => cloneNd_any A n c (nodCs L) (by rw [nodCs_len, hn]) (nodCs_one L) (noA hA hnc) (by omega) w' (h.next hb))
    have Hok := Lib.hid hok
    have Hn := Lib.hid hn
    have HL := Lib.hid hL
    subst hz0
    clear hok hn h hL hz
    go_enter Try.func16, Try.ntmps16
    go_wp2_with fail
    refine HC.out.mono ?_
    rintro e9 w1 ⟨rfl, hb1⟩
    go_wp2_with fail
    refine (HF.out _ hb1).mono ?_
    rintro e9 w2 ⟨v, rfl, hf, hb2⟩
    have hb02 := bnext hb1 hb2
    rcases hf with ⟨i, rfl, hi, hnm, hq⟩ | ⟨rfl, hq⟩
    · have hi' : i < n := by rw [← Hn.out]; exact hi
      have hi0 : ¬ (i : Int) < 0 := by omega
      obtain ⟨j, hj⟩ : ∃ j, i + 1 = j := ⟨_, rfl⟩
      have ej : IntKind.i64.wrap ((i : Int) + 1) = (j : Int) := (IntWalk.i64_in _ (by omega)).trans (by omega)
      have Hj := Lib.hid hj
      have HI := Lib.hid (show i < L.length ∧ (at_ L i).nm = name ∧ ∀ q, q < i → (at_ L q).nm ≠ name from ⟨hi, hnm, hq⟩)
      have HCl2 := Lib.hid (HCl.out _ hb02)
      clear hi hnm hq hj HF HCl HC
      go_wp2_with fail
      refine HCl2.out.mono ?_
      rintro e9 w3 ⟨v, rfl, A3, c3, rfl, hown3, hb3⟩
      have hb03 := bnext hb02 hb3
      obtain ⟨g, cap, ev, hg, hg2⟩ := hown3.form (by omega)
      injection ev with e1 _ e3
      subst e1 e3
      have HD := Lib.hid (delN_any L Hn.out w3 hown3 hi' Hj.out.symm (by omega))
      have HO3 := Lib.hid hown3
      have hs02 := hb02.size
      clear hown3 HCl2
      go_wp2_with fail
      refine HD.out.mono ?_
      rintro e9 w4 ⟨v, rfl, c4, rfl, hown4, hgr4⟩
      have hb4 : Below w2.heap.size w3 w4 := grown_below HO3.out hgr4 hb3.size
      have hb04 : Below w.heap.size w w4 := hb03.trans (hb4.mono hs02)
      have hlen : (L.eraseIdx i).length = n - 1 := by rw [List.length_eraseIdx, if_pos HI.out.1, Hn.out]
      have hmem : ∀ e ∈ L.eraseIdx i, e ∈ L := fun e he => List.mem_of_mem_eraseIdx he
      have HOw := Lib.hid (ownN_any (some ⟨g, 0, none⟩) (n - 1) c4 (L.eraseIdx i) hlen (by omega) w4 (Has.of_own hown4) (fun e he => (HL.out e (hmem e he)).next hb04) (fun e he => by
        have h1 := Hok.out.2.1 e.x (List.mem_map.2 ⟨e, hmem e he, rfl⟩)
        have h2 : e.t.l.length ≤ 20 := h1.2.2.1
        omega))
      clear hown4 hgr4 hmem HD
      go_wp2_with fail
      refine HOw.out.mono ?_
      rintro e9 w5 ⟨v, rfl, A5, c5, L5, rfl, hx5, hown5, htk5, hb5⟩
      have hb05 := bnext hb04 hb5
      rw [hlen] at hown5 ⊢
      have hs04 := hb04.size
      have HF5 := Lib.hid (show LeaveP L name w (.tuple #[.slice A5 (n - 1) c5, .int .i64 0]) w5 from by
        refine ⟨.inr ⟨i, A5, c5, L5, Hok.out, HI.out.1, HI.out.2.1, HI.out.2.2, by rw [Hn.out], ?_, by rw [Hn.out]; exact own_less hown5 hs04, fun e he => (htk5 e he).less hs04⟩, hb05⟩
        rw [hx5, List.eraseIdx_eq_take_drop_succ, List.eraseIdx_eq_take_drop_succ, List.map_append, List.map_take, List.map_drop])
      clear hown5 htk5 hx5 HOw
      go_wp2_with fail
      go_ret2
      exact RV.mk HF5.out
    · have hlt : (-1 : Int) < 0 := by decide
      have HF5 := Lib.hid (show LeaveP L name w (.tuple #[.slice none 0 0, .int .i64 7]) w2 from ⟨.inl ⟨7, by decide, ⟨by decide, by decide⟩, rfl, fun _ => hq⟩, hb02⟩)
      clear hq
      go_wp2_with fail
      go_ret2
      exact RV.mk HF5.out
  · have f1 : (z != 0) = true := by rw [bne_iff_ne]; exact hz0
    have HF5 := Lib.hid (fun (w' : World) (hb : Below w.heap.size w w') => show LeaveP L name w (.tuple #[.slice none 0 0, .int .i64 z]) w' from ⟨.inl ⟨z, hz0, by rw [← hz]; exact chkR_in _, rfl, fun h => absurd ((chkR_iff.2 h).symm.trans hz).symm hz0⟩, hb⟩)
    clear hz hz0 h hL
    go_enter Try.func16, Try.ntmps16
    go_wp2_with fail
    refine HC.out.mono ?_
    rintro e9 w1 ⟨rfl, hb1⟩
    go_wp2_with fail
    go_ret2
    exact RV.mk (HF5.out _ hb1)
end Go.Proofs.Ytmbpgenjjgepiaa
