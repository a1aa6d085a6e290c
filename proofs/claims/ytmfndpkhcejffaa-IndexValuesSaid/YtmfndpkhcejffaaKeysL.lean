/- maps.Keys at a map of the call's own: what it hands back, and what comes. Conditions: a map whose keys are these; nothing is laid into it meanwhile. -/
import Derived.Test.YtmfndpkhcejffaaMpIt
import Derived.Test.YtmfndpkhcejffaaIxNewW
import Derived.RangeFuncNested
import Derived.RangeFuncBound
import Derived.RangeFuncCalls
import Derived.RangeFuncLeaves
import Derived.Shelf.Abstract
import Derived.Shelf.RegionOpen
import Derived.OwnWalkIn
import Derived.TacticsInMore
import Derived.LoopNIn
import Derived.LoopIn
namespace Go.Proofs.Ytmfndpkhcejffaa
open Go.RowKit Go.Shelf

attribute [local go_sem] Oper.semAt_some

set_option maxRecDepth 1000000 in
set_option maxHeartbeats 1000000 in
theorem keysL_any (b : Nat) (w : World) :
    Calls Try.prog 30 #[.map (some b)] w (RV fun v w' => v = .func (.func 45) #[] #[.pointer (some ⟨w.heap.size, 0, none⟩)] ∧ w' = w.alloc (.cells #[.map (some b)] 49)) := by
  go_enter Try.func30, Try.ntmps30
  go_wp2_with fail
  go_ret
  exact RV.mk ⟨rfl, rfl⟩
def keysLE (x : Lab) : Value := .agg #[.string x.nm, .string x.v]
theorem keysLE_inj : ∀ x y, keysLE x = keysLE y → x = y := fun _ _ h => labV_inj h
theorem List.perm_map_inj_keysL {Ls ss : List (Lab)} (h : (ss.map keysLE).Perm (Ls.map keysLE)) : ss.Perm Ls := by
  induction ss generalizing Ls with
  | nil =>
    have := h.length_eq
    simp only [List.map_nil, List.length_nil, List.length_map] at this
    rw [List.length_eq_zero_iff.1 this.symm]
  | cons x ss ih =>
    have hm : x ∈ Ls := by
      have : keysLE x ∈ Ls.map keysLE := h.mem_iff.1 (by simp)
      obtain ⟨y, hy, e⟩ := List.mem_map.1 this
      rw [← keysLE_inj _ _ e]; exact hy
    obtain ⟨l1, l2, rfl⟩ := List.append_of_mem hm
    have h2 : (ss.map keysLE).Perm ((l1 ++ l2).map keysLE) := by
      rw [List.map_append, List.map_cons] at h
      rw [List.map_append]
      exact (h.trans List.perm_middle).cons_inv
    exact ((ih h2).cons x).trans List.perm_middle.symm
set_option maxRecDepth 1000000 in
set_option maxHeartbeats 2000000 in
theorem keysL1_in (n : Nat) (hn : 1 ≤ n) (l Bm b : Nat) (es : Array MapEntry) (clock : Nat) (kvs : List (Value × Value)) (Ls : List (Lab)) (hk : kvs.map (·.1) = Ls.map keysLE) (S : MpS Try.prog 55 es clock kvs) (J Jx : List (Lab) → World → Prop)
    (hY : ∀ pre x W, J pre W → pre.length < Ls.length → YieldAt Fence.wide (n - 1) Try.prog l #[keysLE x] W fun e W' =>
      (e = .returned (.bool true) ∧ J (pre ++ [x]) W' ∧ KeepsWalks W W') ∨ (e = .returned (.bool false) ∧ Jx (pre ++ [x]) W'))
    (W : World) (hJ : AbidesFrom W.heap.size J) (hm : W.cell? ⟨Bm, 0, none⟩ = some (.map (some b))) (hb : W.heap[b]? = some (.map es clock)) (h0 : J [] W) :
    CallsIn Fence.wide n Try.prog 45 #[.func (.yield l) #[] #[], .pointer (some ⟨Bm, 0, none⟩)] W fun e W' => (∃ v, e = .returned v) ∧
      ((∃ ys, ys.Perm Ls ∧ J ys W') ∨ (∃ pre, True ∧ Jx pre W')) := by
  obtain ⟨w0, hrange, hIt0, hg0, hs0⟩ := MpIt.range (P := Try.prog) Try.underlying49 hb S
  have HIt0 := Lib.hid hIt0
  have HJ0 := Lib.hid (hJ [] W w0 none h0 hg0 (fun r e => by cases e))
  have Hk := Lib.hid hk
  have Hs0 := Lib.hid hs0
  have hz : ∃ z, W.heap.size = z := ⟨_, rfl⟩
  obtain ⟨z, hz⟩ := hz
  rw [hz] at hrange HIt0 Hs0 hJ
  have Hz := Lib.hid hz
  clear hIt0 hk h0 hg0 hs0 hz hb
  refine callsIn_of_wp Try.func45 rfl trivial ?_ rfl
  simp only [Try.ntmps45, List.size_toArray, List.length_cons, List.length_nil, Nat.reduceAdd, Nat.reduceSub, Array.replicate_succ, Array.replicate_zero, List.push_toArray, List.append_toArray, List.nil_append, List.cons_append]
  gi_wp2
  gi_loopw [3] (fun _ wr => ∃ (done todo : List (Value × Value)) (ss : List (Lab)), MpIt Try.prog wr 55 b z es clock kvs done todo ∧ Hid (done.map (·.1) = ss.map keysLE) ∧ J ss wr)
    (fun _ wr => wr.rangeLeft b z)
  case atStart => exact ⟨[], kvs, [], HIt0.out, Lib.hid rfl, HJ0.out⟩
  case round =>
    obtain ⟨done, todo, ss, hIt, hss, hJs⟩ := hrel
    have hmeas := Lib.hid hIt.left_eq
    have hperm := hIt.perm
    have Hperm := Lib.hid hperm
    have HIt := Lib.hid hIt
    rcases hIt.next with ⟨hnil, hrun⟩ | ⟨key, v, todo', w2, hp, hrun, hIt2, hg2, hsz2, hent⟩
    · subst hnil
      have hfin : ss.Perm Ls := by
        rw [List.append_nil] at hperm
        have h1 := hperm.map (·.1)
        rw [hss.out, Hk.out] at h1
        exact List.perm_map_inj_keysL h1
      have HF := Lib.hid hfin
      clear hIt hperm hfin
      gi_wp2
      go_end0
      exact ⟨⟨_, rfl⟩, .inl ⟨ss, HF.out, hJs⟩⟩
    · have hlen := hp.length_eq
      have hlt : ss.length < Ls.length := by
        have h1 := hperm.length_eq
        have h2 := congrArg List.length hss.out
        have h3 := congrArg List.length Hk.out
        rw [List.length_append] at h1
        simp only [List.length_map, List.length_cons] at h2 h3 hlen
        omega
      have hkx : ∃ x, key = keysLE x := by
        have h1 : key ∈ kvs.map (·.1) := (hperm.map (·.1)).mem_iff.1 (by
          rw [List.map_append]
          exact List.mem_append_right _ ((hp.map (·.1)).mem_iff.2 (by simp)))
        rw [Hk.out] at h1
        obtain ⟨x, _, hx⟩ := List.mem_map.1 h1
        exact ⟨x, hx.symm⟩
      obtain ⟨x, rfl⟩ := hkx
      have hJ2 : J ss w2 := hJ ss wr w2 (some z) hJs hg2 (fun r e => by cases e; exact ⟨Nat.le_refl _, hIt.walk⟩)
      have HIt2 := Lib.hid hIt2
      have hss2 := Lib.hid (show (done ++ [(keysLE x, v)]).map (·.1) = (ss ++ [x]).map keysLE by rw [List.map_append, hss.out, List.map_append]; rfl)
      have hmono : todo'.length < todo.length := by simp only [List.length_cons] at hlen; omega
      have hne : w2.heap.size = wr.heap.size := hsz2
      obtain ⟨W3, hW3⟩ : ∃ W3, w2.alloc (.cells #[.string x.nm, .string x.v] 55) = W3 := ⟨_, rfl⟩
      have hJ3 : J ss W3 := by rw [← hW3]; exact hJ ss w2 _ none hJ2 (World.grownBy_alloc w2 _ none) (fun r e => by cases e)
      have hIt3 := Lib.hid (show MpIt Try.prog W3 55 b z es clock kvs (done ++ [(keysLE x, v)]) todo' from by
        rw [← hW3]
        have h1 := (Array.getElem?_eq_some_iff.1 hIt2.mp).1
        exact hIt2.keep (heap_alloc_old _ _ h1) (heap_alloc_old _ _ hIt2.lt))
      obtain ⟨fn, tmps, assign, body, hy, hR⟩ := hY ss x W3 hJ3 hlt
      have HW3 := Lib.hid hW3
      dsimp only [keysLE] at hy hrun hent
      clear hIt hperm hIt2 hp hJ2 hJs hg2 hsz2 hW3
      rw [← HW3.out] at hy hR
      gi_wp2
      refine hR.mono ?_
      rw [HW3.out]
      rintro e W4 (⟨rfl, hJ4, hk4⟩ | ⟨rfl, hJx4⟩)
      · have hIt4 := Lib.hid (hIt3.out.of_walks hk4)
        gi_wp2
        go_roundw
        case rel => exact ⟨done ++ [(keysLE x, v)], todo', ss ++ [x], hIt4.out, hss2, hJ4⟩
        case measure => rw [hIt4.out.left_eq, hmeas.out]; exact hmono
      · gi_wp2
        refine bodyPost_ret (results_none rfl _ _ _) rfl ?_
        exact ⟨⟨_, rfl⟩, .inr ⟨ss ++ [x], trivial, hJx4⟩⟩
/-- maps.Keys hands back a value that stops -/
theorem keysL_stops (n : Nat) (hn : 1 ≤ n) (Bm b : Nat) (es : Array MapEntry) (clock : Nat) (kvs : List (Value × Value)) (Ls : List (Lab)) (hk : kvs.map (·.1) = Ls.map keysLE) (S : MpS Try.prog 55 es clock kvs)
    (w : World) (hBm : Bm < w.heap.size) (hm : w.cell? ⟨Bm, 0, none⟩ = some (.map (some b))) (hb : w.heap[b]? = some (.map es clock)) :
    SeqStopsK Fence.wide n Try.prog 45 #[.pointer (some ⟨Bm, 0, none⟩)] (fun x => #[keysLE x]) KeepsWalks (fun ys => ys.Perm Ls) (fun _ => True) Ls.length w := fun l J Jx W hW hJ _ hY h0 =>
  keysL1_in n hn l Bm b es clock kvs Ls hk S J Jx hY W hJ ((hW.cell (p := ⟨Bm, 0, none⟩) hBm).trans hm) ((hW.block b (Array.getElem?_eq_some_iff.1 hb).1).trans hb) h0
end Go.Proofs.Ytmfndpkhcejffaa
