/- What Own of package ring makes of nodes. Conditions: nodes lie in their cells, and are not many. -/
import Derived.Test.YtmbpgenjjgepiaaRgChk
import Derived.Test.YtmbpgenjjgepiaaCloneU64
import Derived.Test.YtmbpgenjjgepiaaStep
import Derived.Test.YtmbpgenjjgepiaaOwn
import Derived.Deep.RegionHeldLaw
namespace Go.Proofs.Ytmbpgenjjgepiaa
open Go.RowKit

theorem elNod : Elem Try.prog 22 34 2 40 := Elem.mk' (z := .agg #[.string ⟨#[]⟩, .slice none 0 0]) Try.underlying22 (by kernel_rfl) rfl (by decide)
theorem own_neN {w : World} {base base' size size' n n' : Nat} {v v' : Value} {e e' : TypeId} {xs xs' : List Value} (h : w.ownsRow base e size v n xs) (h' : w.ownsRow base' e' size' v' n' xs') (ht : e ≠ e') : v.ownBlock = none ∨ v.ownBlock ≠ v'.ownBlock := by
  rcases h.2 with ⟨rfl, _⟩ | ⟨q, cap, cur, rfl, hb, hg, _⟩
  · exact .inl rfl
  · right
    intro he
    have he : some q = v'.ownBlock := he
    rcases h'.2 with ⟨rfl, _⟩ | ⟨q', cap', cur', rfl, hb', hg', _⟩
    · cases he
    · have he : some q = some q' := he
      injection he with he
      subst he
      rw [hg] at hg'
      injection hg' with hg'
      injection hg' with _ hg'
      exact ht hg'
theorem blk_neN {w : World} {g : Nat} {t : TypeId} {cs : Array Value} {base size n : Nat} {v : Value} {e : TypeId} {xs : List Value} (h : Blk w g t cs) (ho : w.ownsRow base e size v n xs) (ht : t ≠ e) : some g ≠ v.ownBlock := by
  rcases ho.2 with ⟨rfl, _⟩ | ⟨q, cap, cur, rfl, hb, hg, h1, h2, h3, h4⟩
  · intro h'; cases h'
  · intro h'
    injection h' with h'
    have h' : g = q := h'
    subst h'
    unfold Blk at h
    rw [h] at hg
    injection hg with hg
    injection hg with _ hg
    exact ht hg
/-- a node whose tokens are a row of the call's own -/
def TkOwn (w : World) (b : Nat) (e : NodE) : Prop := w.ownsRow b 23 1 (.slice e.t.A e.t.l.length e.t.c) e.t.l.length (u64s e.t.l) ∧ e.nm.size ≤ maxLen ∧ ∀ x ∈ e.t.l, x < 18446744073709551616
theorem TkOwn.next {w w' : World} {b : Nat} {e : NodE} (h : TkOwn w b e) (hb : Below w.heap.size w w') : TkOwn w' b e := ⟨own_next h.1 hb, h.2⟩
theorem TkOwn.less {w : World} {b b' : Nat} {e : NodE} (h : TkOwn w b e) (hb : b' ≤ b) : TkOwn w b' e := ⟨own_less h.1 hb, h.2⟩
theorem TkOwn.ok {w : World} {b : Nat} {e : NodE} (h : TkOwn w b e) : NodOk w e := by
  obtain ⟨h1, h2⟩ := own_len h.1
  exact ⟨⟨h1, h2, fun he => (own_cap h.1 he).2, Has.of_own h.1⟩, h.2⟩
theorem TkOwn.grown {w w' : World} {b b' n size : Nat} {e : NodE} {v : Value} {xs : List Value} (h : TkOwn w b e) (ho : w.ownsRow b' 34 size v n xs) (hg : w.grownBy w' v.ownBlock) : TkOwn w' b e := ⟨h.1.kept hg (own_neN h.1 ho (by decide)), h.2⟩
theorem nodCs_app1 (L : List NodE) (e : NodE) : nodCs (L ++ [e]) = nodCs L ++ (#[Value.string e.nm, .slice e.t.A e.t.l.length e.t.c] : Array Value).toList := by simp [nodCs, nodC]
theorem nodCs_len (L : List NodE) : (nodCs L).length = L.length * 2 := flat_len (f := nodC) (C := 2) (fun _ => rfl) L
theorem nodCs_one (L : List NodE) : ∀ u ∈ nodCs L, u.oneCell' = true := by
  intro u hu
  simp only [nodCs, List.mem_flatMap] at hu
  obtain ⟨b, _, hb⟩ := hu
  simp [nodC] at hb
  rcases hb with rfl | rfl <;> rfl
theorem Blk.drewO {w : World} {g : Nat} {t : TypeId} {cs : Array Value} (h : Blk w g t cs) : Blk w.drew g t cs := h
theorem own_drewO {w : World} {base size n : Nat} {e : TypeId} {v : Value} {xs : List Value} (h : w.ownsRow base e size v n xs) : w.drew.ownsRow base e size v n xs := own_drewN h 1
theorem below_drewO {B : Nat} {a w : World} (h : Below B a w) : Below B a w.drew := below_drewN h 1
theorem keepO2 {W : World} {g : Nat} {t : TypeId} {x0 x1 : Value} (h : Blk W g t #[x0, x1]) : W.cell? ⟨g, 0, none⟩ = some x0 ∧ W.cell? ⟨g, 1, none⟩ = some x1 := ⟨h.cell 0, h.cell 1⟩
/-- what Own answers -/
def OwnNP (L : List NodE) (w : World) (v : Value) (w' : World) : Prop :=
  ∃ A' c' L', v = .slice A' L.length c' ∧ L'.map NodE.x = L.map NodE.x ∧ w'.ownsRow w.heap.size 34 2 (.slice A' L.length c') L.length (nodCs L') ∧ (∀ e ∈ L', TkOwn w' w.heap.size e) ∧ Below w.heap.size w w'

set_option maxRecDepth 1000000 in
set_option maxHeartbeats 8000000 in
theorem ownN_any (A : Option Addr) (n c : Nat) (L : List NodE) (hn : L.length = n) (hl : n ≤ 1000) (w : World) (h : Has w w.heap.size A (nodCs L)) (hL : ∀ e ∈ L, NodOk w e) (hs : ∀ e ∈ L, e.t.l.length ≤ 1000) :
    Calls Try.prog 30 #[.slice A n c] w (RV (OwnNP L w)) := by
  have Hn := Lib.hid hn
  have Hh := Lib.hid h
  have HL := Lib.hid hL
  have Hs := Lib.hid hs
  clear hn h hL hs
  go_enter Try.func30, Try.ntmps30
  go_wp2_with fail
  go_loopw [3, 8] (fun ov iv wr => ∃ (k : Nat) (O : Option Addr) (e : Nat) (M : List NodE), k ≤ n ∧ iv = .int .i64 (k : Nat) ∧ ov = .slice O k e ∧ Hid (M.map NodE.x = (L.take k).map NodE.x) ∧ Hid (wr.ownsRow w.heap.size 34 2 (.slice O k e) k (nodCs M)) ∧ Hid (∀ e ∈ M, TkOwn wr w.heap.size e) ∧ Below w.heap.size w wr) (fun _ iv _ => n + 5 - (intOf iv).toNat)
  case atStart => exact ⟨0, none, 0, [], by omega, rfl, rfl, Lib.hid rfl, Lib.hid ⟨rfl, .inl ⟨rfl, rfl⟩⟩, Lib.hid (fun e he => by cases he), Below.refl _ _⟩
  case round =>
    obtain ⟨k, O, e, M, hk, rfl, rfl, hM, hown, htk, hbr⟩ := hrel
    have hbs := hbr.size
    by_cases hlt : (k : Int) < (n : Int)
    · have hkL : k < L.length := by rw [Hn.out]; omega
      obtain ⟨ad, rfl, _, c0⟩ := (Hh.out.next hbr).at (nodCs_0 hkL)
      obtain ⟨ad', e', _, c1⟩ := (Hh.out.next hbr).at (nodCs_1 hkL)
      injection e' with e'
      subst e'
      have c1 := cell_off c1 (by decide)
      obtain ⟨⟨o1, o2, o3, o4⟩, o5, o6⟩ := (HL.out _ (at_mem hkL)).next hbr
      have hs := Hs.out _ (at_mem hkL)
      have htake := Lib.hid (take_at (l := L) (k := k) hkL)
      obtain ⟨x, hx⟩ : ∃ x, at_ L k = x := ⟨_, rfl⟩
      rw [hx] at c0 c1 o1 o2 o3 o4 o5 o6 hs htake
      obtain ⟨nm, ⟨T, tc, tl⟩⟩ := x
      simp only [] at c0 c1 o1 o2 o3 o4 o5 o6 hs
      obtain ⟨p, hp⟩ : ∃ p, tl.length = p := ⟨_, rfl⟩
      rw [hp] at c1 o1 hs
      have Hp := Lib.hid hp
      have kg : Blk (wr.alloc (.cells #[.string nm, .slice T p tc] 34)) wr.heap.size 34 #[.string nm, .slice T p tc] := Blk.new _ _ _
      have hb1 : Below wr.heap.size wr (wr.alloc (.cells #[.string nm, .slice T p tc] 34)) := (Below.refl _ _).alloc (Nat.le_refl _) _
      have hbe := bnext hbr hb1
      have hownE := own_next hown.out hb1
      have HtkE := Lib.hid (fun e he => (htk.out e he).next hb1)
      have HT := Lib.hid (o4.next hb1)
      have Ho5 := Lib.hid o5
      have Ho6 := Lib.hid o6
      have hT0 : T = none → p = 0 ∧ tc = 0 := fun e => by have := o3 e; omega
      have HCl := Lib.hid (fun (w' : World) (hh : Has w' w'.heap.size T (u64s tl)) => cloneU64_any T p tc (u64s tl) (by rw [u64s_len, hp, Nat.mul_one]) (u64s_one tl) hT0 (by omega) w' hh)
      have h63 : k + 1 ≤ maxLen := by unfold maxLen; omega
      have h16 : (k + 1) * 40 ≤ 140737488355328 := by omega
      have hownR := hown.out
      clear hp hx o1 o2 o3 o4 o5 o6 hown htk hT0
      go_wp2_with fail
      obtain ⟨g, hg⟩ : ∃ g, wr.heap.size = g := ⟨_, rfl⟩
      obtain ⟨we, hwe⟩ : ∃ we, wr.alloc (.cells #[.string nm, .slice T p tc] 34) = we := ⟨_, rfl⟩
      rw [hwe] at kg hownE hbe HtkE HT ⊢
      rw [hg] at kg ⊢
      have hge : w.heap.size ≤ we.heap.size := hbe.size
      have hgne : (Value.slice O k e).ownBlock ≠ some g := fun h => by
        have h2 := (hownR.lt g h).2
        omega
      clear hwe hg hb1 c0 c1 hbs hownR
      have y0 : we.cell? ⟨g, 0, none⟩ = some (.string nm) := kg.cell 0
      have y1 : we.cell? ⟨g, 1, none⟩ = some (.slice T p tc) := kg.cell 1
      go_region_held_law (fun w' => w'.cell? ⟨g, 0, none⟩ = some (.string nm) ∧ w'.cell? ⟨g, 1, none⟩ = some (.slice T p tc))
        (first | (refine keepO2 (t := 34) ?_; (repeat' (first | with_reducible exact kg5 | with_reducible exact kgO | with_reducible exact kg | with_reducible refine Blk.drewO ?_ | with_reducible refine Blk.alloc ?_ _)); done) | (trace_state; fail))
        (first
          | (have hz := hownO
             apply step_append1 rfl (.tmp 12) (.tmp 19) 22 rfl elNod (v := .slice O k e) (n := k) (base := w.heap.size) (xs := nodCs M); (case hown => (repeat' (first | with_reducible exact hownO | with_reducible refine World.ownsRow.alloc ?_ _ | with_reducible refine own_drewO ?_)); done); (case hs => rfl); (case hx => rfl); (case hb => exact heap_alloc_new _ _); (case hl => rfl); (case h1 => (intro u hu; simp at hu; rcases hu with rfl | rfl <;> rfl)); (case hmax => exact h16); (case h63 => exact h63); (case hbase => (simp [World.size_alloc]; omega))
             intro A5 c5 w5 hown5 hgrow5 hbel5
             have kg5 : Blk w5 g 34 #[.string nm, .slice T p tc] := Blk.grown (by (repeat' (first | with_reducible exact kgO | with_reducible refine Blk.drewO ?_ | with_reducible refine Blk.alloc ?_ _)); done) hgrow5 hneO)
          | (go_at_call 45
             refine (HCl.out _ (by first | exact HT.out | exact HT.out.next (below_drewO (Below.refl _ _)))).mono ?_
             rintro e9 w4 ⟨v, rfl, A4, c4, rfl, hown4, hb4⟩
             have hownO : w4.ownsRow w.heap.size 34 2 (.slice O k e) k (nodCs M) := own_next (by (repeat' (first | with_reducible exact hownE | with_reducible refine own_drewO ?_)); done) hb4
             have kgO : Blk w4 g 34 #[.string nm, .slice T p tc] := Blk.next (by (repeat' (first | with_reducible exact kg | with_reducible refine Blk.drewO ?_)); done) hb4
             have hbeO : Below w.heap.size w w4 := bnext (by (repeat' (first | with_reducible exact hbe | with_reducible refine below_drewO ?_)); done) hb4
             have hbe4 : Below we.heap.size we w4 := bnext (by (repeat' (first | with_reducible exact Below.refl _ _ | with_reducible refine below_drewO ?_)); done) hb4
             have hgeO := hbeO.size
             have hneO : some g ≠ (Value.slice O k e).ownBlock := fun h => hgne h.symm))
      all_goals
        have hown4' : w4.ownsRow w.heap.size 23 1 (.slice A4 p c4) p (u64s tl) := own_less hown4 hge
        have hb5 : Below w.heap.size w w5 := (hbeO.alloc hgeO _).trans hbel5
        have Htk5 : Hid (∀ e ∈ M ++ [(⟨nm, ⟨A4, c4, tl⟩⟩ : NodE)], TkOwn w5 w.heap.size e) := Lib.hid (fun e9 he => by
          have hal := (Below.refl w4.heap.size w4).alloc (Nat.le_refl _) (.cells #[Value.string nm, .slice A4 p c4] 34)
          rcases List.mem_append.1 he with he | he
          · exact (((HtkE.out e9 he).next hbe4).next hal).grown (own_next hownO hal) hgrow5
          · obtain rfl := List.mem_singleton.1 he
            refine TkOwn.grown (w := w4.alloc (.cells #[Value.string nm, .slice A4 p c4] 34)) ⟨?_, Ho5.out, Ho6.out⟩ (own_next hownO hal) hgrow5
            rw [Hp.out]
            exact own_next hown4' hal)
        have HO5 := Lib.hid hown5
        have HM5 := Lib.hid (show (M ++ [(⟨nm, ⟨A4, c4, tl⟩⟩ : NodE)]).map NodE.x = (L.take (k + 1)).map NodE.x by rw [htake.out, List.map_append, List.map_append, hM.out]; rfl)
        have HB5 := Lib.hid hb5
        clear hown4 hown4' hown5 hgrow5 hbel5 hb5 hbe4 hb4
        go_wp2_with fail
        go_roundw
        case rel => exact ⟨k + 1, A5, c5, _, by omega, by go_num, rfl, HM5, Lib.hid (by rw [nodCs_app1, Hp.out]; exact HO5.out), Htk5, HB5.out⟩
        case measure => simp [intOf]; omega
    · obtain rfl : k = n := by omega
      have e1 : L.take k = L := by rw [← Hn.out, List.take_length]
      have hM2 := hM.out
      rw [e1] at hM2
      have HM := Lib.hid hM2
      clear hM2 e1
      go_wp2_with fail
      go_ret
      exact RV.mk ⟨O, e, M, by show Value.slice O k e = Value.slice O L.length e; rw [Hn.out], HM.out, by rw [Hn.out]; exact hown.out, htk.out, hbr⟩
end Go.Proofs.Ytmbpgenjjgepiaa
