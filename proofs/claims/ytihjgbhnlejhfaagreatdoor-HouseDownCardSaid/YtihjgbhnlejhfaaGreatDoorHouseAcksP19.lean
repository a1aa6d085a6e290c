/- Texts of the proof of HouseAcks, joined (by merge.py). Conditions: each theorem's own hypotheses. -/
import Derived.Test.YtihjgbhnlejhfaaGreatDoorHouseAcksP3
import Derived.Test.YtihjgbhnlejhfaaGreatDoorHouseAcksP7
import Derived.Test.YtihjgbhnlejhfaaGreatDoorHouseAcksP17
import Derived.Deep.RegionHeldLaw
import Derived.OwnWalk
import Derived.Lib.SliceRun
namespace Go.Proofs.YtihjgbhnlejhfaaGreatDoor
open Go.RowKit

theorem elNod : Elem Tryz.prog 22 36 2 40 := Elem.mk' (z := .agg #[.string ⟨#[]⟩, .slice none 0 0]) Tryz.underlying22 (by kernel_rfl) rfl (by decide)
theorem own_neN {w : World} {base base' size size' n n' : Nat} {v v' : Value} {e e' : TypeId} {xs xs' : List Value} (h : w.ownsRow base e size v n xs) (h' : w.ownsRow base' e' size' v' n' xs') (ht : e ≠ e') : v.ownBlock = none ∨ v.ownBlock ≠ v'.ownBlock := by
  rcases h.2 with ⟨rfl, _⟩ | ⟨q, cap, cur, rfl, hb, hg, _⟩
  · exact .inl rfl
  · right
    intro he
    have he : some q = v'.ownBlock := he
    rcases h'.2 with ⟨rfl, _⟩ | ⟨q', cap', cur', rfl, hb', hg', _⟩
    · cases he
    · have he : some q = some q' := he
      injection he with he
      subst he
      rw [hg] at hg'
      injection hg' with hg'
      injection hg' with _ hg'
      exact ht hg'
theorem blk_neN {w : World} {g : Nat} {t : TypeId} {cs : Array Value} {base size n : Nat} {v : Value} {e : TypeId} {xs : List Value} (h : Blk w g t cs) (ho : w.ownsRow base e size v n xs) (ht : t ≠ e) : some g ≠ v.ownBlock := by
  rcases ho.2 with ⟨rfl, _⟩ | ⟨q, cap, cur, rfl, hb, hg, h1, h2, h3, h4⟩
  · intro h'; cases h'
  · intro h'
    injection h' with h'
    have h' : g = q := h'
    subst h'
    unfold Blk at h
    rw [h] at hg
    injection hg with hg
    injection hg with _ hg
    exact ht hg
/-- a node whose tokens are a row of the call's own -/
def TkOwn (w : World) (b : Nat) (e : NodE) : Prop := w.ownsRow b 66 1 (.slice e.t.A e.t.l.length e.t.c) e.t.l.length (u64s e.t.l) ∧ e.nm.size ≤ maxLen ∧ ∀ x ∈ e.t.l, x < 18446744073709551616
theorem TkOwn.next {w w' : World} {b : Nat} {e : NodE} (h : TkOwn w b e) (hb : Below w.heap.size w w') : TkOwn w' b e := ⟨own_next h.1 hb, h.2⟩
theorem TkOwn.less {w : World} {b b' : Nat} {e : NodE} (h : TkOwn w b e) (hb : b' ≤ b) : TkOwn w b' e := ⟨own_less h.1 hb, h.2⟩
theorem TkOwn.ok {w : World} {b : Nat} {e : NodE} (h : TkOwn w b e) : NodOk w e := by
  obtain ⟨h1, h2⟩ := own_len h.1
  exact ⟨⟨h1, h2, fun he => (own_cap h.1 he).2, Has.of_own h.1⟩, h.2⟩
theorem TkOwn.grown {w w' : World} {b b' n size : Nat} {e : NodE} {v : Value} {xs : List Value} (h : TkOwn w b e) (ho : w.ownsRow b' 36 size v n xs) (hg : w.grownBy w' v.ownBlock) : TkOwn w' b e := ⟨h.1.kept hg (own_neN h.1 ho (by decide)), h.2⟩
theorem nodCs_app1 (L : List NodE) (e : NodE) : nodCs (L ++ [e]) = nodCs L ++ (#[Value.string e.nm, .slice e.t.A e.t.l.length e.t.c] : Array Value).toList := by simp [nodCs, nodC]
theorem nodCs_len (L : List NodE) : (nodCs L).length = L.length * 2 := flat_len (f := nodC) (C := 2) (fun _ => rfl) L
theorem nodCs_one (L : List NodE) : ∀ u ∈ nodCs L, u.oneCell' = true := by
  intro u hu
  simp only [nodCs, List.mem_flatMap] at hu
  obtain ⟨b, _, hb⟩ := hu
  simp [nodC] at hb
  rcases hb with rfl | rfl <;> rfl
theorem Blk.drewO {w : World} {g : Nat} {t : TypeId} {cs : Array Value} (h : Blk w g t cs) : Blk w.drew g t cs := h
theorem own_drewO {w : World} {base size n : Nat} {e : TypeId} {v : Value} {xs : List Value} (h : w.ownsRow base e size v n xs) : w.drew.ownsRow base e size v n xs := own_drewN h 1
theorem below_drewO {B : Nat} {a w : World} (h : Below B a w) : Below B a w.drew := below_drewN h 1
theorem keepO2 {W : World} {g : Nat} {t : TypeId} {x0 x1 : Value} (h : Blk W g t #[x0, x1]) : W.cell? ⟨g, 0, none⟩ = some x0 ∧ W.cell? ⟨g, 1, none⟩ = some x1 := ⟨h.cell 0, h.cell 1⟩
/-- what Own answers -/
def OwnNP (L : List NodE) (w : World) (v : Value) (w' : World) : Prop :=
  ∃ A' c' L', v = .slice A' L.length c' ∧ L'.map NodE.x = L.map NodE.x ∧ w'.ownsRow w.heap.size 36 2 (.slice A' L.length c') L.length (nodCs L') ∧ (∀ e ∈ L', TkOwn w' w.heap.size e) ∧ Below w.heap.size w w'

set_option maxRecDepth 1000000 in
set_option maxHeartbeats 8000000 in
theorem ownN_any (A : Option Addr) (n c : Nat) (L : List NodE) (hn : L.length = n) (hl : n ≤ 1000) (w : World) (h : Has w w.heap.size A (nodCs L)) (hL : ∀ e ∈ L, NodOk w e) (hs : ∀ e ∈ L, e.t.l.length ≤ 1000) :
    Calls Tryz.prog 32 #[.slice A n c] w (RV (OwnNP L w)) := by
  have Hn := Lib.hid hn
  have Hh := Lib.hid h
  have HL := Lib.hid hL
  have Hs := Lib.hid hs
  clear hn h hL hs
  go_enter Tryz.func32, Tryz.ntmps32
  go_wp2_with fail
  go_loopw [3, 8] (fun ov iv wr => ∃ (k : Nat) (O : Option Addr) (e : Nat) (M : List NodE), k ≤ n ∧ iv = .int .i64 (k : Nat) ∧ ov = .slice O k e ∧ Hid (M.map NodE.x = (L.take k).map NodE.x) ∧ Hid (wr.ownsRow w.heap.size 36 2 (.slice O k e) k (nodCs M)) ∧ Hid (∀ e ∈ M, TkOwn wr w.heap.size e) ∧ Below w.heap.size w wr) (fun _ iv _ => n + 5 - (intOf iv).toNat)
  case atStart => exact ⟨0, none, 0, [], by omega, rfl, rfl, Lib.hid rfl, Lib.hid ⟨rfl, .inl ⟨rfl, rfl⟩⟩, Lib.hid (fun e he => by cases he), Below.refl _ _⟩
  case round =>
    obtain ⟨k, O, e, M, hk, rfl, rfl, hM, hown, htk, hbr⟩ := hrel
    have hbs := hbr.size
    by_cases hlt : (k : Int) < (n : Int)
    · have hkL : k < L.length := by rw [Hn.out]; omega
      obtain ⟨ad, rfl, _, c0⟩ := (Hh.out.next hbr).at (nodCs_0 hkL)
      obtain ⟨ad', e', _, c1⟩ := (Hh.out.next hbr).at (nodCs_1 hkL)
      injection e' with e'
      subst e'
      have c1 := cell_off c1 (by decide)
      obtain ⟨⟨o1, o2, o3, o4⟩, o5, o6⟩ := (HL.out _ (at_mem hkL)).next hbr
      have hs := Hs.out _ (at_mem hkL)
      have htake := Lib.hid (take_at (l := L) (k := k) hkL)
      obtain ⟨x, hx⟩ : ∃ x, at_ L k = x := ⟨_, rfl⟩
      rw [hx] at c0 c1 o1 o2 o3 o4 o5 o6 hs htake
      obtain ⟨nm, ⟨T, tc, tl⟩⟩ := x
      simp only [] at c0 c1 o1 o2 o3 o4 o5 o6 hs
      obtain ⟨p, hp⟩ : ∃ p, tl.length = p := ⟨_, rfl⟩
      rw [hp] at c1 o1 hs
      have Hp := Lib.hid hp
      have kg : Blk (wr.alloc (.cells #[.string nm, .slice T p tc] 36)) wr.heap.size 36 #[.string nm, .slice T p tc] := Blk.new _ _ _
      have hb1 : Below wr.heap.size wr (wr.alloc (.cells #[.string nm, .slice T p tc] 36)) := (Below.refl _ _).alloc (Nat.le_refl _) _
      have hbe := bnext hbr hb1
      have hownE := own_next hown.out hb1
      have HtkE := Lib.hid (fun e he => (htk.out e he).next hb1)
      have HT := Lib.hid (o4.next hb1)
      have Ho5 := Lib.hid o5
      have Ho6 := Lib.hid o6
      have hT0 : T = none → p = 0 ∧ tc = 0 := fun e => by have := o3 e; omega
      have HCl := Lib.hid (fun (w' : World) (hh : Has w' w'.heap.size T (u64s tl)) => cloneU64_any T p tc (u64s tl) (by rw [u64s_len, hp, Nat.mul_one]) (u64s_one tl) hT0 (by omega) w' hh)
      have h63 : k + 1 ≤ maxLen := by unfold maxLen; omega
      have h16 : (k + 1) * 40 ≤ 140737488355328 := by omega
      have hownR := hown.out
      clear hp hx o1 o2 o3 o4 o5 o6 hown htk hT0
      go_wp2_with fail
      obtain ⟨g, hg⟩ : ∃ g, wr.heap.size = g := ⟨_, rfl⟩
      obtain ⟨we, hwe⟩ : ∃ we, wr.alloc (.cells #[.string nm, .slice T p tc] 36) = we := ⟨_, rfl⟩
      rw [hwe] at kg hownE hbe HtkE HT ⊢
      rw [hg] at kg ⊢
      have hge : w.heap.size ≤ we.heap.size := hbe.size
      have hgne : (Value.slice O k e).ownBlock ≠ some g := fun h => by
        have h2 := (hownR.lt g h).2
        omega
      clear hwe hg hb1 c0 c1 hbs hownR
      have y0 : we.cell? ⟨g, 0, none⟩ = some (.string nm) := kg.cell 0
      have y1 : we.cell? ⟨g, 1, none⟩ = some (.slice T p tc) := kg.cell 1
      go_region_held_law (fun w' => w'.cell? ⟨g, 0, none⟩ = some (.string nm) ∧ w'.cell? ⟨g, 1, none⟩ = some (.slice T p tc))
        (first | (refine keepO2 (t := 36) ?_; (repeat' (first | with_reducible exact kg5 | with_reducible exact kgO | with_reducible exact kg | with_reducible refine Blk.drewO ?_ | with_reducible refine Blk.alloc ?_ _)); done) | (trace_state; fail))
        (first
          | (have hz := hownO
             apply step_append1 rfl (.tmp 12) (.tmp 19) 22 rfl elNod (v := .slice O k e) (n := k) (base := w.heap.size) (xs := nodCs M); (case hown => (repeat' (first | with_reducible exact hownO | with_reducible refine World.ownsRow.alloc ?_ _ | with_reducible refine own_drewO ?_)); done); (case hs => rfl); (case hx => rfl); (case hb => exact heap_alloc_new _ _); (case hl => rfl); (case h1 => (intro u hu; simp at hu; rcases hu with rfl | rfl <;> rfl)); (case hmax => exact h16); (case h63 => exact h63); (case hbase => (simp [World.size_alloc]; omega))
             intro A5 c5 w5 hown5 hgrow5 hbel5
             have kg5 : Blk w5 g 36 #[.string nm, .slice T p tc] := Blk.grown (by (repeat' (first | with_reducible exact kgO | with_reducible refine Blk.drewO ?_ | with_reducible refine Blk.alloc ?_ _)); done) hgrow5 hneO)
          | (go_at_call 61
             refine (HCl.out _ (by first | exact HT.out | exact HT.out.next (below_drewO (Below.refl _ _)))).mono ?_
             rintro e9 w4 ⟨v, rfl, A4, c4, rfl, hown4, hb4⟩
             have hownO : w4.ownsRow w.heap.size 36 2 (.slice O k e) k (nodCs M) := own_next (by (repeat' (first | with_reducible exact hownE | with_reducible refine own_drewO ?_)); done) hb4
             have kgO : Blk w4 g 36 #[.string nm, .slice T p tc] := Blk.next (by (repeat' (first | with_reducible exact kg | with_reducible refine Blk.drewO ?_)); done) hb4
             have hbeO : Below w.heap.size w w4 := bnext (by (repeat' (first | with_reducible exact hbe | with_reducible refine below_drewO ?_)); done) hb4
             have hbe4 : Below we.heap.size we w4 := bnext (by (repeat' (first | with_reducible exact Below.refl _ _ | with_reducible refine below_drewO ?_)); done) hb4
             have hgeO := hbeO.size
             have hneO : some g ≠ (Value.slice O k e).ownBlock := fun h => hgne h.symm))
      all_goals
        have hown4' : w4.ownsRow w.heap.size 66 1 (.slice A4 p c4) p (u64s tl) := own_less hown4 hge
        have hb5 : Below w.heap.size w w5 := (hbeO.alloc hgeO _).trans hbel5
        have Htk5 : Hid (∀ e ∈ M ++ [(⟨nm, ⟨A4, c4, tl⟩⟩ : NodE)], TkOwn w5 w.heap.size e) := Lib.hid (fun e9 he => by
          have hal := (Below.refl w4.heap.size w4).alloc (Nat.le_refl _) (.cells #[Value.string nm, .slice A4 p c4] 36)
          rcases List.mem_append.1 he with he | he
          · exact (((HtkE.out e9 he).next hbe4).next hal).grown (own_next hownO hal) hgrow5
          · obtain rfl := List.mem_singleton.1 he
            refine TkOwn.grown (w := w4.alloc (.cells #[Value.string nm, .slice A4 p c4] 36)) ⟨?_, Ho5.out, Ho6.out⟩ (own_next hownO hal) hgrow5
            rw [Hp.out]
            exact own_next hown4' hal)
        have HO5 := Lib.hid hown5
        have HM5 := Lib.hid (show (M ++ [(⟨nm, ⟨A4, c4, tl⟩⟩ : NodE)]).map NodE.x = (L.take (k + 1)).map NodE.x by rw [htake.out, List.map_append, List.map_append, hM.out]; rfl)
        have HB5 := Lib.hid hb5
        clear hown4 hown4' hown5 hgrow5 hbel5 hb5 hbe4 hb4
        go_wp2_with fail
        go_roundw
        case rel => exact ⟨k + 1, A5, c5, _, by omega, by go_num, rfl, HM5, Lib.hid (by rw [nodCs_app1, Hp.out]; exact HO5.out), Htk5, HB5.out⟩
        case measure => simp [intOf]; omega
    · obtain rfl : k = n := by omega
      have e1 : L.take k = L := by rw [← Hn.out, List.take_length]
      have hM2 := hM.out
      rw [e1] at hM2
      have HM := Lib.hid hM2
      clear hM2 e1
      go_wp2_with fail
      go_ret
      exact RV.mk ⟨O, e, M, by show Value.slice O k e = Value.slice O L.length e; rw [Hn.out], HM.out, by rw [Hn.out]; exact hown.out, htk.out, hbr⟩
end Go.Proofs.YtihjgbhnlejhfaaGreatDoor
namespace Go.Proofs.YtihjgbhnlejhfaaGreatDoor
open Go.RowKit

set_option maxRecDepth 1000000 in
set_option maxHeartbeats 400000 in
theorem cloneNd_any (A : Option Addr) (n c : Nat) (xs : List Value) (hl : xs.length = n * 2) (h1 : ∀ u ∈ xs, u.oneCell' = true) (hA : A = none → n = 0 ∧ c = 0) (hmax : n * 40 ≤ 140737488355328) (w : World) (h : Has w w.heap.size A xs) :
    Calls Tryz.prog 47 #[.slice A n c] w (RV fun v w' => ∃ A' c', v = .slice A' n c' ∧ w'.ownsRow w.heap.size 36 2 (.slice A' n c') n xs ∧ Below w.heap.size w w') := by
  have hq := fun (w : World) (a : Option Addr) (n c n' c' : Nat) => Lib.run_eql_slice_nil (P := Tryz.prog) w 22 36 a n c n' c' Tryz.underlying22
  cases A with
  | none =>
    obtain ⟨rfl, rfl⟩ := hA rfl
    go_enter Tryz.func47, Tryz.ntmps47
    go_wp2
    go_ret
    exact RV.mk ⟨none, 0, rfl, ⟨hl, .inl ⟨rfl, rfl⟩⟩, Below.refl _ _⟩
  | some ad =>
    go_enter Tryz.func47, Tryz.ntmps47
    go_wp2_with (at_builtin; refine wpList_spread rfl _ _ _ rfl elNod rfl (World.ownsRow_made (base := w.heap.size) w #[] 0 (Nat.le_refl _) (Nat.zero_le _) rfl) rfl ((h.keep fun p hp => World.cell?_alloc_lt w _ p hp)) ?_ ?c1 ?c2 ?c3 ?c4 ?c5; intro A' c' w1 hown hgrow hbel)
    case c1 => exact hl
    case c2 => exact h1
    case c3 => omega
    case c4 => unfold maxLen; omega
    case c5 => simp
    go_ret
    rw [Nat.zero_add, List.nil_append] at hown
    exact RV.mk ⟨A', c', rfl, hown, ((Below.refl _ _).alloc (Nat.le_refl _) _).trans hbel⟩

/-- a node as the ring wants it -/
def NdFit (x : Nod) : Prop := x.nm ≠ noName ∧ x.nm.size ≤ 20 ∧ x.tk.length ≤ 20 ∧ upT x.tk (x.tk.length - 1) = true
theorem ndErr_iff {last : ByteArray} {x : Nod} : ndErr last x = 0 ↔ NdFit x ∧ nlt last x.nm := by
  unfold ndErr NdFit
  by_cases h1 : x.nm = noName ∨ 20 < x.nm.size
  · rw [if_pos h1]
    constructor
    · intro h; cases h
    · rintro ⟨⟨h2, h3, _⟩, _⟩; rcases h1 with h1 | h1; exact absurd h1 h2; omega
  · rw [if_neg h1]
    simp only [not_or] at h1
    by_cases h2 : nlt last x.nm
    · rw [if_neg (fun h => h h2)]
      by_cases h3 : 20 < x.tk.length
      · rw [if_pos h3]
        constructor
        · intro h; cases h
        · rintro ⟨⟨_, _, h4, _⟩, _⟩; omega
      · rw [if_neg h3]
        by_cases h4 : upT x.tk (x.tk.length - 1) = false
        · rw [if_pos h4]
          constructor
          · intro h; cases h
          · rintro ⟨⟨_, _, _, h5⟩, _⟩; rw [h4] at h5; cases h5
        · rw [if_neg h4]
          exact ⟨fun _ => ⟨⟨h1.1, by omega, by omega, by simpa using h4⟩, h2⟩, fun _ => rfl⟩
    · rw [if_pos h2]
      constructor
      · intro h; cases h
      · rintro ⟨_, h3⟩; exact absurd h3 h2
theorem orE_iff {e r : Int} : orE e r = 0 ↔ e = 0 ∧ r = 0 := by
  unfold orE
  by_cases h : e = 0
  · rw [if_neg (fun g => g h)]; exact ⟨fun h2 => ⟨h, h2⟩, fun h2 => h2.2⟩
  · rw [if_pos h]; exact ⟨fun h2 => absurd h2 h, fun h2 => h2.1⟩
theorem chkGo_iff {l : List Nod} : ∀ {last : ByteArray}, chkGo last l = 0 ↔ (∀ x ∈ l, NdFit x) ∧ (last :: l.map (·.nm)).Pairwise nlt := by
  induction l with
  | nil => intro last; simp [chkGo]
  | cons x l ih =>
    intro last
    rw [chkGo, orE_iff, ndErr_iff, ih]
    simp only [List.map_cons, List.pairwise_cons, List.mem_cons, forall_eq_or_imp]
    constructor
    · rintro ⟨⟨h1, h2⟩, h3, h4, h5⟩
      exact ⟨⟨h1, h3⟩, ⟨h2, fun a ha => nlt_trans h2 (h4 a ha)⟩, h4, h5⟩
    · rintro ⟨⟨h1, h3⟩, ⟨h2, _⟩, h4, h5⟩
      exact ⟨⟨h1, h2⟩, h3, h4, h5⟩
theorem nlt_noName {a : ByteArray} (h : a ≠ noName) : nlt noName a := by
  unfold nlt
  rw [Lib.toList_data, show noName.data.toList = [] from rfl]
  cases hl : a.toList with
  | nil => exact absurd (bytes_ext (by rw [hl, Lib.toList_data]; rfl)) h
  | cons x l => exact List.nil_lt_cons _ _
/-- nodes that Check lets by -/
def RgOk (l : List Nod) : Prop := l.length ≤ 20 ∧ (∀ x ∈ l, NdFit x) ∧ (l.map (·.nm)).Pairwise nlt
theorem chkR_iff {l : List Nod} : chkR l = 0 ↔ RgOk l := by
  unfold chkR RgOk
  by_cases h : 20 < l.length
  · rw [if_pos h]
    constructor
    · intro h2; cases h2
    · rintro ⟨h2, _⟩; omega
  · rw [if_neg h, chkGo_iff, List.pairwise_cons]
    constructor
    · rintro ⟨h1, _, h2⟩; exact ⟨by omega, h1, h2⟩
    · rintro ⟨_, h1, h2⟩
      refine ⟨h1, fun a ha => ?_, h2⟩
      obtain ⟨x, hx, rfl⟩ := List.mem_map.1 ha
      exact nlt_noName (h1 x hx).1
/-- the place of a name -/
def PlaceR (l : List Nod) (a : ByteArray) (i : Nat) : Prop := i ≤ l.length ∧ (∀ q, q < i → nlt (at_ l q).nm a) ∧ (i < l.length → ¬ nlt (at_ l i).nm a)
def insR (l : List Nod) (x : Nod) (i : Nat) : List Nod := l.take i ++ x :: l.drop i
theorem insR_ok {l : List Nod} {x : Nod} {i : Nat} (h : RgOk l) (hx : NdFit x) (hp : PlaceR l x.nm i) (hn : ∀ y ∈ l, y.nm ≠ x.nm) (h20 : l.length < 20) : RgOk (insR l x i) := by
  obtain ⟨h1, h2, h3⟩ := h
  obtain ⟨p1, p2, p3⟩ := hp
  have hlow : ∀ y ∈ l.take i, nlt y.nm x.nm := fun y hy => by
    obtain ⟨q, hq, rfl⟩ := List.getElem_of_mem hy
    rw [List.length_take] at hq
    have := p2 q (by omega)
    rw [at_eq (show q < l.length by omega)] at this
    rw [List.getElem_take]
    exact this
  have hsplit : l = l.take i ++ l.drop i := (List.take_append_drop i l).symm
  have h3' := h3
  rw [hsplit, List.map_append, List.pairwise_append] at h3'
  obtain ⟨t1, t2, t3⟩ := h3'
  have hhigh : ∀ y ∈ l.drop i, nlt x.nm y.nm := fun y hy => by
    rcases Nat.lt_or_ge i l.length with g | g
    · have hi : nlt x.nm (at_ l i).nm := by
        rcases Decidable.em (nlt x.nm (at_ l i).nm) with g2 | g2
        · exact g2
        · exact absurd (nlt_tri (p3 g) g2) (hn _ (at_mem g))
      rw [List.drop_eq_getElem_cons g] at hy t2
      rcases List.mem_cons.1 hy with rfl | hy
      · rw [at_eq g] at hi; exact hi
      · rw [List.map_cons, List.pairwise_cons] at t2
        have := t2.1 y.nm (List.mem_map.2 ⟨y, hy, rfl⟩)
        rw [at_eq g] at hi
        exact nlt_trans hi this
    · rw [List.drop_of_length_le g] at hy; cases hy
  refine ⟨by unfold insR; rw [List.length_append, List.length_cons, List.length_take, List.length_drop]; omega, fun y hy => ?_, ?_⟩
  · unfold insR at hy
    rcases List.mem_append.1 hy with hy | hy
    · exact h2 y (List.mem_of_mem_take hy)
    · rcases List.mem_cons.1 hy with rfl | hy
      · exact hx
      · exact h2 y (List.mem_of_mem_drop hy)
  · unfold insR
    rw [List.map_append, List.map_cons, List.pairwise_append]
    refine ⟨t1, List.pairwise_cons.2 ⟨fun a ha => ?_, t2⟩, fun a ha b hb => ?_⟩
    · obtain ⟨y, hy, rfl⟩ := List.mem_map.1 ha
      exact hhigh y hy
    · obtain ⟨y, hy, rfl⟩ := List.mem_map.1 ha
      rcases List.mem_cons.1 hb with rfl | hb
      · exact hlow y hy
      · exact t3 _ ha _ hb
theorem insR_at {l : List Nod} {x : Nod} {i : Nat} (hi : i ≤ l.length) : at_ (insR l x i) i = x ∧ ∀ q, q < i → at_ (insR l x i) q = at_ l q := by
  unfold insR
  constructor
  · simp [at_, List.getD, Nat.min_eq_left hi]
  · intro q hq
    simp [at_, List.getD, List.getElem?_append_left, show q < min i l.length by omega, show q < l.length by omega]
theorem insR_len {l : List Nod} {x : Nod} {i : Nat} : (insR l x i).length = l.length + 1 := by unfold insR; rw [List.length_append, List.length_cons, List.length_take, List.length_drop]; omega
theorem insR_erase {l : List Nod} {x : Nod} {i : Nat} (hi : i ≤ l.length) : (insR l x i).eraseIdx i = l := by
  unfold insR
  rw [List.eraseIdx_append_of_length_le (by rw [List.length_take]; omega), List.length_take, Nat.min_eq_left hi, Nat.sub_self, List.eraseIdx_cons_zero, List.take_append_drop]
end Go.Proofs.YtihjgbhnlejhfaaGreatDoor
namespace Go.Proofs.YtihjgbhnlejhfaaGreatDoor
open Go.RowKit

theorem step_fits {P : Program} {w : World} {ops : Array Oper} {o : Oper} {a : Act} {K : Act → World → Prop} {Q : Exit → Act → World → Prop} {F : Prop} (hgd : o.guard = none) (s x : Operand) (t : TypeId)
    (ho : o.op = .call { callee := .builtin .append, args := #[s, x], argTypes := #[t, t] })
    {base size bytes : Nat} {e : TypeId} (E : Elem P t e size bytes) {g k cap : Nat} {xs : List Value} (hs : a.eval s = .slice (some ⟨g, 0, none⟩) k cap) (hown : w.ownsRow base e size (.slice (some ⟨g, 0, none⟩) k cap) k xs)
    {ad : Addr} {m c : Nat} (hx : a.eval x = .slice (some ad) m c) {news : List Value} (hl : news.length = m * size) (hc : ∀ j u, news[j]? = some u → w.cell? (ad.add j) = some u) (h1 : ∀ u ∈ news, u.oneCell' = true) (hfit : k + m ≤ cap)
    (h : ∀ w', w'.ownsRow base e size (.slice (some ⟨g, 0, none⟩) (k + m) cap) (k + m) (xs ++ news) → w.grownBy w' (some g) → K (a.put o.dst (.slice (some ⟨g, 0, none⟩) (k + m) cap)) w') :
    if Region.wanted o (yielded ops a.tmps) = true then Oper.wp P o a w K Q else F := by
  have hw : Region.wanted o (yielded ops a.tmps) = true := by simp [Region.wanted, hgd]
  rw [if_pos hw]
  obtain ⟨ht, ⟨i, z, hi, _, hsize, _, _⟩, _⟩ := E
  obtain ⟨w', hrun, h2, h3⟩ := run_append_fits (P := P) w base t o.type e i size ht hi hsize g k cap xs hown ad m c news hl hc h1 hfit
  unfold Oper.wp
  simp [execOp, ho, resolve, invoke, builtin, hs, hx, hrun, Result.andThen]
  exact h w' h2 h3
theorem nodCs_take (L : List NodE) (k : Nat) : (nodCs L).take (k * 2) = nodCs (L.take k) := by
  induction L generalizing k with
  | nil => simp [nodCs]
  | cons x L ih =>
    cases k with
    | zero => simp [nodCs]
    | succ k =>
      rw [List.take_succ_cons, show nodCs (x :: L) = nodC x ++ nodCs L from rfl, show nodCs (x :: L.take k) = nodC x ++ nodCs (L.take k) from rfl, ← ih, List.take_append]
      have : (nodC x).length = 2 := rfl
      rw [this, show (k + 1) * 2 - 2 = k * 2 by omega, List.take_of_length_le (by rw [this]; omega)]
theorem nodCs_drop (L : List NodE) (k : Nat) : (nodCs L).drop (k * 2) = nodCs (L.drop k) := by
  induction L generalizing k with
  | nil => simp [nodCs]
  | cons x L ih =>
    cases k with
    | zero => simp [nodCs]
    | succ k =>
      rw [List.drop_succ_cons, show nodCs (x :: L) = nodC x ++ nodCs L from rfl, ← ih, List.drop_append]
      have : (nodC x).length = 2 := rfl
      rw [this, show (k + 1) * 2 - 2 = k * 2 by omega, List.drop_of_length_le (by rw [this]; omega), List.nil_append]
theorem nodCs_app (L M : List NodE) : nodCs (L ++ M) = nodCs L ++ nodCs M := by simp [nodCs]
theorem run_clear_nod (w : World) (b o c : Nat) (ty : TypeId) (h0 : (w.cell? ⟨b, o, none⟩).isSome = true) (h1 : (w.cell? ⟨b, o + 1, none⟩).isSome = true) (f0 : w.frozen? ⟨b, o, none⟩ = false) (f1 : w.frozen? ⟨b, o + 1, none⟩ = false) :
    (Builtin.clear_ #[22] ty #[.slice (some ⟨b, o, none⟩) 1 c]).run Tryz.prog w = .ok (.tuple #[]) ((w.setCell ⟨b, o, none⟩ (.string ⟨#[]⟩)).setCell ⟨b, o + 1, none⟩ (.slice none 0 0)) := by
  have hst := run_storeCells_cells (P := Tryz.prog) b o [Value.string ⟨#[]⟩, Value.slice none 0 0] 0 w (by intro j hj; simp at hj; rcases (show j = 0 ∨ j = 1 by omega) with rfl | rfl; simpa using h0; simpa using h1) (by intro j hj; simp at hj; rcases (show j = 0 ∨ j = 1 by omega) with rfl | rfl; simpa using f0; simpa using f1) (by intro v hv; simp at hv; rcases hv with rfl | rfl <;> rfl)
  simp only [Nat.add_zero] at hst
  have hzc : (Builtin.zeroCells (Value.agg #[.string ⟨#[]⟩, .slice none 0 0]).cells 1).toList = [Value.string ⟨#[]⟩, Value.slice none 0 0] := by kernel_rfl
  simp [Builtin.clear_, run_underlying Tryz.underlying22, hzc, hst, World.setCells]
def DelP (base g n : Nat) (L : List NodE) (i : Nat) (w : World) (v : Value) (w' : World) : Prop :=
  ∃ c', v = .slice (some ⟨g, 0, none⟩) (n - 1) c' ∧ w'.ownsRow base 36 2 (.slice (some ⟨g, 0, none⟩) (n - 1) c') (n - 1) (nodCs (L.eraseIdx i)) ∧ w.grownBy w' (some g)

set_option maxRecDepth 1000000 in
set_option maxHeartbeats 4000000 in
theorem delN_any {base n c g i j : Nat} (L : List NodE) (hn : L.length = n) (w : World) (hown : w.ownsRow base 36 2 (.slice (some ⟨g, 0, none⟩) n c) n (nodCs L)) (hi : i < n) (hj : j = i + 1) (hn1 : n ≤ 1000) :
    Calls Tryz.prog 48 #[.slice (some ⟨g, 0, none⟩) n c, .int .i64 i, .int .i64 j] w (RV (DelP base g n L i w)) := by
  obtain ⟨hnc, hcm⟩ := own_len hown
  have hHas : Has w w.heap.size (some ⟨g, 0, none⟩) (nodCs L) := Has.of_own hown
  have HO := Lib.hid hown
  have Hj := Lib.hid hj
  have Hn := Lib.hid hn
  have hij : i < j := by omega
  have hjn : j ≤ n := by omega
  have hji : ((j : Int) - (i : Int)) = 1 := by omega
  have q0 : (0 : Int) ≤ (i : Int) := by omega
  have q1 : (i : Int) ≤ (j : Int) := by omega
  have q2 : (j : Int) ≤ (n : Int) := by omega
  have q3 : (n : Int) ≤ (c : Int) := by omega
  have q4 : ¬ (i : Int) = (j : Int) := by omega
  have q4b : ((i : Int) == (j : Int)) = false := by rw [beq_eq_false_iff_ne]; exact q4
  have q5 : (0 : Int) ≤ (j : Int) := by omega
  have q6 : (j : Int) ≤ (c : Int) := by omega
  have q7 : (i : Int) ≤ (c : Int) := by omega
  have hfront := Lib.hid (own_front hown (k := i) (by omega))
  have hsrc : Hid (∀ (q : Nat) (u : Value), ((nodCs L).drop (j * 2))[q]? = some u → w.cell? ((⟨g, j * 2, none⟩ : Addr).add q) = some u) := Lib.hid (fun q u hu => by
    rw [List.getElem?_drop] at hu
    obtain ⟨ad, e1, _, e2⟩ := hHas.at hu
    injection e1 with e1
    subst e1
    rw [← e2]
    congr 1
    unfold Addr.add
    split <;> split <;> simp_all <;> omega)
  obtain ⟨p, hp⟩ : ∃ p, n - 1 = p := ⟨_, rfl⟩
  have hpe : i + (n - j) = p := by omega
  have hnp : n - p = 1 := by omega
  have hpn : p ≤ n := by omega
  clear hown hj hn hHas
  by_cases hjc : j < c
  · have hcj : ¬ c = j := by omega
    go_enter Tryz.func48, Tryz.ntmps48
    go_wp2_with fail
    go_region_held_law (fun _ => True) (trivial)
      (first | (apply step_fits rfl (.tmp 22) (.tmp 25) 22 rfl elNod (g := g) (k := i) (cap := c) (xs := (nodCs L).take (i * 2)) (ad := ⟨g, j * 2, none⟩) (m := n - j) (c := c - j) (news := (nodCs L).drop (j * 2)) (base := base); (case hs => rfl); (case hown => exact hfront.out); (case hx => rfl); (case hl => (rw [List.length_drop, nodCs_len, Hn.out]; omega)); (case hc => exact hsrc.out); (case h1 => exact fun u hu => nodCs_one L u (List.mem_of_mem_drop hu)); (case hfit => omega)
                intro w5 hown5 hgrow5
                rw [hpe] at hown5 ⊢))
    obtain ⟨⟨u0, r0⟩, r1⟩ := own_room hown5 (k := p * 2) (by omega)
    obtain ⟨⟨u2, r2⟩, r3⟩ := own_room hown5 (k := p * 2 + 1) (by omega)
    have hcl := run_clear_nod w5 g (p * 2) (c - p) 0 (by rw [r0]; rfl) (by rw [r2]; rfl) r1 r3
    have hF := Lib.hid (show DelP base g n L i w (.slice (some ⟨g, 0, none⟩) p c) ((w5.setCell ⟨g, p * 2, none⟩ (.string ⟨#[]⟩)).setCell ⟨g, p * 2 + 1, none⟩ (.slice none 0 0)) from by
      refine ⟨c, by rw [hp], ?_, ?_⟩
      · rw [hp]
        have h9 := own_behind (own_behind hown5 (k := p * 2) (Nat.le_refl _) (.string ⟨#[]⟩)) (k := p * 2 + 1) (by omega) (.slice none 0 0)
        have e9 : (nodCs L).take (i * 2) ++ (nodCs L).drop (j * 2) = nodCs (L.eraseIdx i) := by
          rw [nodCs_take, nodCs_drop, ← nodCs_app, List.eraseIdx_eq_take_drop_succ, Hj.out]
        rw [e9] at h9
        exact h9
      · exact ⟨hgrow5.os, hgrow5.tape, hgrow5.output, by simp [World.setCell]; exact hgrow5.size, fun k hk hne => (Below.heap_setCell _ ⟨g, p * 2 + 1, none⟩ _ k (fun e => hne (by rw [e]))).trans ((Below.heap_setCell _ ⟨g, p * 2, none⟩ _ k (fun e => hne (by rw [e]))).trans (hgrow5.block k hk hne))⟩)
    clear hgrow5 hown5 r0 r1 r2 r3
    go_wp2_with fail
    go_ret
    exact RV.mk hF.out
  · obtain rfl : c = j := by omega
    obtain rfl : n = c := by omega
    have hip : i = p := by omega
    have Hip := Lib.hid hip
    clear hpe hip
    go_enter Tryz.func48, Tryz.ntmps48
    go_wp2_with fail
    go_region_held_law (fun _ => True) (trivial)
      (first | (apply step_fits rfl (.tmp 22) (.tmp 25) 22 rfl elNod (g := g) (k := i) (cap := n) (xs := (nodCs L).take (i * 2)) (ad := ⟨g, 0, none⟩) (m := 0) (c := 0) (news := []) (base := base); (case hs => rfl); (case hown => exact hfront.out); (case hx => rfl); (case hl => rfl); (case hc => (intro q u hu; cases hu)); (case h1 => (intro u hu; cases hu)); (case hfit => omega)
                intro w5 hown5 hgrow5
                rw [show i + 0 = p from Hip.out] at hown5 ⊢))
    obtain ⟨⟨u0, r0⟩, r1⟩ := own_room hown5 (k := p * 2) (by omega)
    obtain ⟨⟨u2, r2⟩, r3⟩ := own_room hown5 (k := p * 2 + 1) (by omega)
    have hcl := run_clear_nod w5 g (p * 2) 1 0 (by rw [r0]; rfl) (by rw [r2]; rfl) r1 r3
    have hF := Lib.hid (show DelP base g n L i w (.slice (some ⟨g, 0, none⟩) p n) ((w5.setCell ⟨g, p * 2, none⟩ (.string ⟨#[]⟩)).setCell ⟨g, p * 2 + 1, none⟩ (.slice none 0 0)) from by
      refine ⟨n, by rw [hp], ?_, ?_⟩
      · rw [hp]
        have h9 := own_behind (own_behind hown5 (k := p * 2) (Nat.le_refl _) (.string ⟨#[]⟩)) (k := p * 2 + 1) (by omega) (.slice none 0 0)
        have e9 : (nodCs L).take (i * 2) ++ [] = nodCs (L.eraseIdx i) := by
          rw [List.append_nil, nodCs_take, List.eraseIdx_eq_take_drop_succ, List.drop_of_length_le (by rw [Hn.out]; omega), List.append_nil]
        rw [e9] at h9
        exact h9
      · exact ⟨hgrow5.os, hgrow5.tape, hgrow5.output, by simp [World.setCell]; exact hgrow5.size, fun k hk hne => (Below.heap_setCell _ ⟨g, p * 2 + 1, none⟩ _ k (fun e => hne (by rw [e]))).trans ((Below.heap_setCell _ ⟨g, p * 2, none⟩ _ k (fun e => hne (by rw [e]))).trans (hgrow5.block k hk hne))⟩)
    clear hgrow5 hown5 r0 r1 r2 r3
    go_wp2_with fail
    go_ret
    exact RV.mk hF.out
end Go.Proofs.YtihjgbhnlejhfaaGreatDoor
namespace Go.Proofs.YtihjgbhnlejhfaaGreatDoor
open Go.RowKit

/-- Leave's error -/
def leaveE (l : List Nod) (name : ByteArray) : Int := if chkR l ≠ 0 then chkR l else if l.any (fun y => decide (y.nm = name)) = true then 0 else 7
/-- what Leave answers -/
def LeaveP (L : List NodE) (name : ByteArray) (w : World) (v : Value) (w' : World) : Prop :=
  ((∃ e : Int, e ≠ 0 ∧ in64 e ∧ v = .tuple #[.slice none 0 0, .int .i64 e] ∧ (RgOk (L.map NodE.x) → ∀ q, q < L.length → (at_ L q).nm ≠ name) ∧ e = leaveE (L.map NodE.x) name) ∨
    ∃ i A c L', RgOk (L.map NodE.x) ∧ i < L.length ∧ (at_ L i).nm = name ∧ (∀ q, q < i → (at_ L q).nm ≠ name) ∧ v = .tuple #[.slice A (L.length - 1) c, .int .i64 0] ∧ L'.map NodE.x = (L.map NodE.x).eraseIdx i ∧
      w'.ownsRow w.heap.size 36 2 (.slice A (L.length - 1) c) (L.length - 1) (nodCs L') ∧ ∀ e ∈ L', TkOwn w' w.heap.size e) ∧ Below w.heap.size w w'
theorem chkR_in (l : List Nod) : in64 (chkR l) := by
  have h : ∀ (l : List Nod) (last : ByteArray), in64 (chkGo last l) := by
    intro l
    induction l with
    | nil => intro _; rw [chkGo]; exact ⟨by decide, by decide⟩
    | cons x l ih =>
      intro last
      unfold chkGo orE ndErr
      repeat' split
      all_goals first | exact ih _ | exact ⟨by decide, by decide⟩
  unfold chkR
  split
  · exact ⟨by decide, by decide⟩
  · exact h _ _
theorem noA {A : Option Addr} {c n : Nat} (h : A = none → c = 0) (hn : n ≤ c) : A = none → n = 0 ∧ c = 0 := fun e => by have := h e; omega

set_option maxRecDepth 1000000 in
set_option maxHeartbeats 4000000 in
theorem leave_any (A : Option Addr) (n c : Nat) (L : List NodE) (hn : L.length = n) (hA : A = none → c = 0) (hnc : n ≤ c) (hl : n ≤ maxLen) (name : ByteArray) (w : World) (h : Has w w.heap.size A (nodCs L)) (hL : ∀ e ∈ L, NodOk w e) :
    Calls Tryz.prog 22 #[.slice A n c, .string name] w (RV (LeaveP L name w)) := by
  have HC := Lib.hid (rcheckN_any A n c L hn hl w h hL)
  obtain ⟨z, hz⟩ : ∃ z, chkR (L.map NodE.x) = z := ⟨_, rfl⟩
  rw [hz] at HC
  by_cases hz0 : z = 0
  · have hok : RgOk (L.map NodE.x) := chkR_iff.1 (hz.trans hz0)
    have h20 : n ≤ 20 := by have := hok.1; rw [List.length_map] at this; omega
    have HF := Lib.hid (fun (w' : World) (hb : Below w.heap.size w w') => find_any A n c L hn hl name w' (h.next hb))
    have HCl := Lib.hid (fun (w' : World) (hb : Below w.heap.size w w') => cloneNd_any A n c (nodCs L) (by rw [nodCs_len, hn]) (nodCs_one L) (noA hA hnc) (by omega) w' (h.next hb))
    have Hok := Lib.hid hok
    have Hn := Lib.hid hn
    have HL := Lib.hid hL
    subst hz0
    clear hok hn h hL hz
    go_enter Tryz.func22, Tryz.ntmps22
    go_wp2_with fail
    refine HC.out.mono ?_
    rintro e9 w1 ⟨rfl, hb1⟩
    go_wp2_with fail
    refine (HF.out _ hb1).mono ?_
    rintro e9 w2 ⟨v, rfl, hf, hb2⟩
    have hb02 := bnext hb1 hb2
    rcases hf with ⟨i, rfl, hi, hnm, hq⟩ | ⟨rfl, hq⟩
    · have hi' : i < n := by rw [← Hn.out]; exact hi
      have hi0 : ¬ (i : Int) < 0 := by omega
      obtain ⟨j, hj⟩ : ∃ j, i + 1 = j := ⟨_, rfl⟩
      have ej : IntKind.i64.wrap ((i : Int) + 1) = (j : Int) := (IntWalk.i64_in _ (by omega)).trans (by omega)
      have Hj := Lib.hid hj
      have HI := Lib.hid (show i < L.length ∧ (at_ L i).nm = name ∧ ∀ q, q < i → (at_ L q).nm ≠ name from ⟨hi, hnm, hq⟩)
      have HCl2 := Lib.hid (HCl.out _ hb02)
      clear hi hnm hq hj HF HCl HC
      go_wp2_with fail
      refine HCl2.out.mono ?_
      rintro e9 w3 ⟨v, rfl, A3, c3, rfl, hown3, hb3⟩
      have hb03 := bnext hb02 hb3
      obtain ⟨g, cap, ev, hg, hg2⟩ := hown3.form (by omega)
      injection ev with e1 _ e3
      subst e1 e3
      have HD := Lib.hid (delN_any L Hn.out w3 hown3 hi' Hj.out.symm (by omega))
      have HO3 := Lib.hid hown3
      have hs02 := hb02.size
      clear hown3 HCl2
      go_wp2_with fail
      refine HD.out.mono ?_
      rintro e9 w4 ⟨v, rfl, c4, rfl, hown4, hgr4⟩
      have hb4 : Below w2.heap.size w3 w4 := grown_below HO3.out hgr4 hb3.size
      have hb04 : Below w.heap.size w w4 := hb03.trans (hb4.mono hs02)
      have hlen : (L.eraseIdx i).length = n - 1 := by rw [List.length_eraseIdx, if_pos HI.out.1, Hn.out]
      have hmem : ∀ e ∈ L.eraseIdx i, e ∈ L := fun e he => List.mem_of_mem_eraseIdx he
      have HOw := Lib.hid (ownN_any (some ⟨g, 0, none⟩) (n - 1) c4 (L.eraseIdx i) hlen (by omega) w4 (Has.of_own hown4) (fun e he => (HL.out e (hmem e he)).next hb04) (fun e he => by
        have h1 := Hok.out.2.1 e.x (List.mem_map.2 ⟨e, hmem e he, rfl⟩)
        have h2 : e.t.l.length ≤ 20 := h1.2.2.1
        omega))
      clear hown4 hgr4 hmem HD
      go_wp2_with fail
      refine HOw.out.mono ?_
      rintro e9 w5 ⟨v, rfl, A5, c5, L5, rfl, hx5, hown5, htk5, hb5⟩
      have hb05 := bnext hb04 hb5
      rw [hlen] at hown5 ⊢
      have hs04 := hb04.size
      have HF5 := Lib.hid (show LeaveP L name w (.tuple #[.slice A5 (n - 1) c5, .int .i64 0]) w5 from by
        refine ⟨.inr ⟨i, A5, c5, L5, Hok.out, HI.out.1, HI.out.2.1, HI.out.2.2, by rw [Hn.out], ?_, by rw [Hn.out]; exact own_less hown5 hs04, fun e he => (htk5 e he).less hs04⟩, hb05⟩
        rw [hx5, List.eraseIdx_eq_take_drop_succ, List.eraseIdx_eq_take_drop_succ, List.map_append, List.map_take, List.map_drop])
      clear hown5 htk5 hx5 HOw
      go_wp2_with fail
      go_ret2
      exact RV.mk HF5.out
    · have hlt : (-1 : Int) < 0 := by decide
      have HF5 := Lib.hid (show LeaveP L name w (.tuple #[.slice none 0 0, .int .i64 7]) w2 from ⟨.inl ⟨7, by decide, ⟨by decide, by decide⟩, rfl, fun _ => hq, by
        unfold leaveE
        rw [chkR_iff.2 Hok.out, if_neg (by simp), if_neg]
        rw [List.any_eq_true]
        rintro ⟨y, hy, e⟩
        obtain ⟨r, hr, rfl⟩ := List.mem_map.1 hy
        obtain ⟨i, hi, rfl⟩ := List.getElem_of_mem hr
        have h9 := hq i hi
        rw [at_eq hi] at h9
        exact h9 (of_decide_eq_true e)⟩, hb02⟩)
      clear hq
      go_wp2_with fail
      go_ret2
      exact RV.mk HF5.out
  · have f1 : (z != 0) = true := by rw [bne_iff_ne]; exact hz0
    have HF5 := Lib.hid (fun (w' : World) (hb : Below w.heap.size w w') => show LeaveP L name w (.tuple #[.slice none 0 0, .int .i64 z]) w' from ⟨.inl ⟨z, hz0, by rw [← hz]; exact chkR_in _, rfl, fun h => absurd ((chkR_iff.2 h).symm.trans hz).symm hz0, by unfold leaveE; rw [hz, if_pos hz0]⟩, hb⟩)
    clear hz hz0 h hL
    go_enter Tryz.func22, Tryz.ntmps22
    go_wp2_with fail
    refine HC.out.mono ?_
    rintro e9 w1 ⟨rfl, hb1⟩
    go_wp2_with fail
    go_ret2
    exact RV.mk (HF5.out _ hb1)
end Go.Proofs.YtihjgbhnlejhfaaGreatDoor
namespace Go.Proofs.YtihjgbhnlejhfaaGreatDoor
open Go.RowKit

theorem erase_key {l : List Nod} {name : ByteArray} : ∀ {i : Nat}, (l.map (·.nm)).Pairwise nlt → (h : i < l.length) → (l[i]).nm = name → l.eraseIdx i = l.filter fun y => decide (y.nm ≠ name) := by
  induction l with
  | nil => intro i _ h; exact absurd h (Nat.not_lt_zero _)
  | cons y l ih =>
    intro i hp h hx
    rw [List.map_cons, List.pairwise_cons] at hp
    cases i with
    | zero =>
      have hx : y.nm = name := hx
      rw [List.eraseIdx_cons_zero, List.filter_cons_of_neg (by simp [hx])]
      refine (List.filter_eq_self.2 (fun z hz => ?_)).symm
      have h1 := hp.1 z.nm (List.mem_map.2 ⟨z, hz, rfl⟩)
      rw [hx] at h1
      simp only [decide_eq_true_eq]
      intro e
      rw [e] at h1
      exact nlt_irrefl _ h1
    | succ i =>
      have hx : (l[i]'(Nat.lt_of_succ_lt_succ h)).nm = name := hx
      have h1 := hp.1 (l[i]'(Nat.lt_of_succ_lt_succ h)).nm (List.mem_map.2 ⟨_, List.getElem_mem _, rfl⟩)
      have hy : y.nm ≠ name := by
        intro e
        rw [e, hx] at h1
        exact nlt_irrefl _ h1
      rw [List.eraseIdx_cons_succ, List.filter_cons_of_pos (by simp [hy]), ih hp.2 _ hx]
theorem rgOk_erase {l : List Nod} {i : Nat} (h : RgOk l) : RgOk (l.eraseIdx i) := by
  obtain ⟨h1, h2, h3⟩ := h
  have hs := List.eraseIdx_sublist l i
  exact ⟨Nat.le_trans hs.length_le h1, fun x hx => h2 x (hs.subset hx), h3.sublist (hs.map _)⟩
end Go.Proofs.YtihjgbhnlejhfaaGreatDoor
