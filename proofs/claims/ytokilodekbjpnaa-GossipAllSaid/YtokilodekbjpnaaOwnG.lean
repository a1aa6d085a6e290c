/- What own of package gossip makes of claims. Conditions: claims lie in their cells, and their rows are not larger than memory. -/
import Derived.Test.YtokilodekbjpnaaOpenG
import Derived.OwnWalk
namespace Go.Proofs.Ytokilodekbjpnaa
open Go.RowKit

theorem clCs_one' (l : List ClE) : ∀ u ∈ clCs l, u.oneCell' = true := by
  intro u hu
  simp only [clCs, List.mem_flatMap] at hu
  obtain ⟨b, _, hb⟩ := hu
  simp [clC] at hb
  rcases hb with rfl | rfl | rfl | rfl <;> rfl
/-- the same claim, its row elsewhere -/
def ClE.put (e : ClE) (A : Option Addr) (c : Nat) : ClE := ⟨e.v, e.s, e.nm, ⟨A, c, e.t.l⟩⟩
theorem ClE.put_x (e : ClE) (A : Option Addr) (c : Nat) : (e.put A c).x = e.x := rfl
theorem clCs_set {O : List ClE} {k : Nat} (h : k < O.length) (A : Option Addr) (c : Nat) : (clCs O).set (k * 4 + 3) (.slice A (at_ O k).t.l.length c) = clCs (O.set k ((at_ O k).put A c)) := by
  induction O generalizing k with
  | nil => cases h
  | cons e O ih =>
    cases k with
    | zero => rfl
    | succ k =>
      have ih := ih (k := k) (by simpa using h)
      rw [show at_ (e :: O) (k + 1) = at_ O k from rfl, List.set_cons_succ]
      rw [show clCs (e :: O.set k ((at_ O k).put A c)) = clC e ++ clCs (O.set k ((at_ O k).put A c)) from rfl, ← ih]
      rw [show clCs (e :: O) = clC e ++ clCs O from rfl, List.set_append]
      have : (clC e).length = 4 := rfl
      rw [if_neg (by rw [this]; omega), this, show (k + 1) * 4 + 3 - 4 = k * 4 + 3 from by omega]
theorem map_put {O : List ClE} {k : Nat} (h : k < O.length) (A : Option Addr) (c : Nat) : (O.set k ((at_ O k).put A c)).map ClE.x = O.map ClE.x := by
  rw [List.map_set, ClE.put_x]
  have e : (O.map ClE.x)[k]? = some (at_ O k).x := by rw [List.getElem?_map, get?_at h]; rfl
  apply List.ext_getElem?
  intro i
  rw [List.getElem?_set]
  split
  · rename_i hi; subst hi; split
    · exact e.symm
    · rename_i h2; rw [List.length_map] at h2; omega
  · rfl
set_option maxRecDepth 1000000 in
set_option maxHeartbeats 400000 in
theorem cloneClm_any (A : Option Addr) (n c : Nat) (xs : List Value) (hl : xs.length = n * 4) (h1 : ∀ u ∈ xs, u.oneCell' = true) (hA : A = none → n = 0 ∧ c = 0) (hmax : n * 56 ≤ 140737488355328) (w : World) (h : Has w w.heap.size A xs) :
    Calls Try.prog 67 #[.slice A n c] w (RV fun v w' => ∃ A' c', v = .slice A' n c' ∧ w'.ownsRow w.heap.size 34 4 (.slice A' n c') n xs ∧ Below w.heap.size w w') := by
  have hq := fun (w : World) (a : Option Addr) (n c n' c' : Nat) => Lib.run_eql_slice_nil (P := Try.prog) w 28 34 a n c n' c' Try.underlying28
  cases A with
  | none =>
    obtain ⟨rfl, rfl⟩ := hA rfl
    go_enter Try.func67, Try.ntmps67
    go_wp2
    go_ret
    exact RV.mk ⟨none, 0, rfl, ⟨hl, .inl ⟨rfl, rfl⟩⟩, Below.refl _ _⟩
  | some ad =>
    go_enter Try.func67, Try.ntmps67
    go_wp2_with (at_builtin; refine wpList_spread rfl _ _ _ rfl elClm rfl (World.ownsRow_made (base := w.heap.size) w #[] 0 (Nat.le_refl _) (Nat.zero_le _) rfl) rfl ((h.keep fun p hp => World.cell?_alloc_lt w _ p hp)) ?_ ?c1 ?c2 ?c3 ?c4 ?c5; intro A' c' w1 hown hgrow hbel)
    case c1 => exact hl
    case c2 => exact h1
    case c3 => omega
    case c4 => unfold maxLen; omega
    case c5 => simp
    go_ret
    rw [Nat.zero_add, List.nil_append] at hown
    exact RV.mk ⟨A', c', rfl, hown, ((Below.refl _ _).alloc (Nat.le_refl _) _).trans hbel⟩

set_option maxRecDepth 1000000 in
set_option maxHeartbeats 4000000 in
theorem gown_any (A : Option Addr) (n c : Nat) (L : List ClE) (hn : L.length = n) (hA : A = none → c = 0) (hnc : n ≤ c) (h56 : n * 56 ≤ 140737488351232) (hs : ∀ e ∈ L, e.small) (w : World) (h : Has w w.heap.size A (clCs L)) (hr : ∀ e ∈ L, e.t.ok w) :
    Calls Try.prog 42 #[.slice A n c] w (RV (ToldP (L.map ClE.x) w)) := by
  have Hn := Lib.hid hn; clear hn
  have HS := Lib.hid hs; clear hs
  have HR := Lib.hid hr; clear hr
  go_enter Try.func42, Try.ntmps42
  go_wp2_with fail
  refine (cloneClm_any A n c (clCs L) (by rw [clCs_len, Hn.out]) (clCs_one' L) (fun e => by have := hA e; omega) (by omega) _ h).mono ?_
  rintro e w1 ⟨v, rfl, A1, c1, rfl, hown1, hb1⟩
  rcases Nat.eq_zero_or_pos n with rfl | hpos
  · obtain rfl : L = [] := List.eq_nil_of_length_eq_zero Hn.out
    go_wp2_with fail
    go_loopw [8] (fun i wr => i = .int .i64 0 ∧ wr = w1) (fun i _ => 1)
    case atStart => exact ⟨rfl, rfl⟩
    case round =>
      obtain ⟨rfl, rfl⟩ := hrel
      go_wp2_with fail
      go_ret
      exact RV.mk ⟨[], A1, c1, rfl, rfl, ⟨hown1, RowsOwn.nil _ _⟩, hb1⟩
  · obtain ⟨g, cap, ev, hg, hgs⟩ := hown1.form hpos
    injection ev with e1 e2 e3
    subst e1 e3
    go_wp2_with fail
    go_loopw [8] (fun i wr => ∃ (k : Nat) (O : List ClE), k ≤ n ∧ i = .int .i64 (k : Nat) ∧ O.length = n ∧ O.map ClE.x = L.map ClE.x ∧ wr.ownsRow w.heap.size 34 4 (.slice (some ⟨g, 0, none⟩) n c1) n (clCs O) ∧ RowsOwn wr w.heap.size (O.take k) ∧ Hid (∀ j, k ≤ j → j < n → at_ O j = at_ L j) ∧ Below w.heap.size w wr) (fun i _ => n - (intOf i).toNat)
    case atStart => exact ⟨0, L, by omega, rfl, Hn.out, rfl, hown1, RowsOwn.nil _ _, Lib.hid (fun _ _ _ => rfl), hb1⟩
    case round =>
      obtain ⟨k, O, hk, rfl, hOn, hOx, hown, hrows, hsame, hbr⟩ := hrel
      have HOn := Lib.hid hOn
      have HOx := Lib.hid hOx
      clear hOn hOx
      by_cases hlt : (k : Int) < (n : Int)
      · have hkn : k < n := by omega
        have l1 := Lib.hid (show k < O.length by rw [HOn.out]; exact hkn)
        have eL := hsame.out k (Nat.le_refl _) hkn
        have hx : (at_ L k) ∈ L := at_mem (by rw [Hn.out]; exact hkn)
        obtain ⟨x, hxe⟩ : ∃ x, at_ O k = x := ⟨_, rfl⟩
        have hxok : Row.ok wr x.t := by rw [← hxe, eL]; exact (HR.out _ hx).next hbr
        have hxs : x.t.l.length ≤ 17592186043904 := by rw [← hxe, eL]; exact HS.out _ hx
        have HX := Lib.hid hxe
        clear eL hx
        have c3 := (World.ownsRow.cellAt hown (k * 4 + 3) (by omega)).trans (clCs_3 l1.out)
        rw [hxe] at c3
        clear hxe
        have f3 := hown.frozenAt (k * 4 + 3)
        go_wp2_with fail
        refine (cloneU64_any x.t.A x.t.l.length x.t.c (u64s x.t.l) (by rw [u64s_len, Nat.mul_one]) (u64s_one x.t.l) (fun e => by have h0 := hxok.2.2.1 e; have h9 := hxok.1; omega) (by omega) _ hxok.2.2.2).mono ?_
        rintro e w3 ⟨u, rfl, A5, c5, rfl, hown5, hb5⟩
        have hown' := own_next hown hb5
        have hst := Lib.hid (hown'.stored (k * 4 + 3) (.slice A5 x.t.l.length c5))
        have hne5 := rk_two hown' hown5 (by decide) g rfl
        have hrows' := hrows.next hb5
        have hneR := fun e he => rk_two hown' (hrows' e he) (by decide) g rfl
        have f3' := hown'.frozenAt (k * 4 + 3)
        have c3' := (World.ownsRow.cellAt hown' (k * 4 + 3) (by omega)).trans (clCs_3 l1.out)
        rw [HX.out] at c3'
        have HO5 := Lib.hid (own_less hown5 hbr.size)
        have HRW := Lib.hid hrows'
        have HNR := Lib.hid hneR
        clear c3 f3 hown5 hrows' hneR hxok hrows hown hown'
        go_wp2_with fail
        go_roundw
        case rel =>
          refine ⟨k + 1, O.set k (x.put A5 c5), by omega, by go_num, by rw [List.length_set]; exact HOn.out, ?_, ?_, ?_, Lib.hid (fun j h1 h2 => ?_), (bnext hbr hb5).setCell (by show w.heap.size ≤ g; exact hg) _⟩
          · rw [← HX.out, map_put l1.out]; exact HOx.out
          · have := hst.out.1
            rw [← HX.out, clCs_set l1.out, HX.out] at this
            exact this
          · rw [List.take_add_one, List.take_set, List.set_eq_of_length_le (by rw [List.length_take]; omega), List.getElem?_set, if_pos rfl, if_pos l1.out]
            refine RowsOwn.snoc (fun e he => rk_set (HRW.out e he) (HNR.out e he) _ _) ?_
            exact rk_set HO5.out hne5 _ _
          · rw [at_set, if_neg (by omega)]
            exact hsame.out j (by omega) h2
        case measure => simp [intOf]; omega
      · have hkn : k = n := by omega
        subst hkn
        go_wp2_with fail
        go_ret
        exact RV.mk ⟨O, some ⟨g, 0, none⟩, c1, congrArg (fun q => Value.slice (some ⟨g, 0, none⟩) q c1) HOn.out.symm, HOx.out, ⟨by rw [HOn.out]; exact hown, by rwa [List.take_of_length_le (by rw [HOn.out]; exact Nat.le_refl _)] at hrows⟩, hbr⟩
end Go.Proofs.Ytokilodekbjpnaa
