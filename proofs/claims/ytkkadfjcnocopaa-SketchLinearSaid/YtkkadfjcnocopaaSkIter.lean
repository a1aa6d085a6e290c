/- What slices.Chunk hands back, and what its iterator yields. Conditions: none beyond the theorem's own hypotheses. -/
import Derived.Test.YtkkadfjcnocopaaGood
import Derived.RangeFuncNested
import Derived.RangeFuncBound
import Derived.RangeFuncCalls
import Derived.RangeFuncLeaves
import Derived.Shelf.Abstract
import Derived.Shelf.RegionOpen
import Derived.OwnWalkIn
import Derived.TacticsInMore
import Derived.LoopNIn
import Derived.LoopIn
import Derived.Lib.MinMax
import Derived.Sort.QuietTacIn
import Derived.Sort.BigQuietIn
namespace Go.Proofs.Ytkkadfjcnocopaa
open Go.RowKit Go.Shelf

attribute [local go_sem] Oper.semAt_some

set_option maxRecDepth 1000000 in
set_option maxHeartbeats 1000000 in
theorem chunk_any (A : Option Addr) (n c : Nat) (wd : Nat) (hw : 1 ≤ wd) (w : World) :
    Calls Try.prog 78 #[.slice A n c, .int .i64 wd] w (RV fun v w' => v = .func (.func 110) #[] #[.pointer (some ⟨w.heap.size, 0, none⟩), .pointer (some ⟨w.heap.size + 1, 0, none⟩)] ∧ w' = (w.alloc (.cells #[.slice A n c] 22)).alloc (.cells #[.int .i64 wd] 3)) := by
  have h1 : ¬ (wd : Int) < 1 := by omega
  go_enter Try.func78, Try.ntmps78
  go_wp2_with fail
  go_ret
  exact RV.mk ⟨rfl, rfl⟩

/-- one part of a row: where it lies, and its number -/
abbrev Part (ad : Addr) (wd d : Nat) := { x : Addr × Nat // x.1 = ad.add (x.2 * wd) ∧ x.2 < d }
def partV (ad : Addr) (wd d : Nat) (x : Part ad wd d) : Array Value := #[.slice (some x.1.1) wd wd]
def partsTo (ad : Addr) (wd d k : Nat) (hk : k ≤ d) : List (Part ad wd d) := (List.range k).attach.map fun i => ⟨(ad.add (i.1 * wd), i.1), rfl, by have := List.mem_range.1 i.2; omega⟩
def nums {ad : Addr} {wd d : Nat} (l : List (Part ad wd d)) : List Nat := l.map fun x => x.1.2

set_option maxRecDepth 1000000 in
set_option maxHeartbeats 2000000 in
/-- the iterator: d parts of wd each -/
theorem chunk1_in (n : Nat) (hn : 1 ≤ n) (l Bs Bn n₀ : Nat) (ad : Addr) (cap wd d len : Nat) (hw : 1 ≤ wd) (hw2 : wd ≤ 200) (hd : d ≤ 8) (hlen : len = d * wd) (hcap : len ≤ cap) (hbs : Bs < n₀) (hbn : Bn < n₀) (J Jx : List (Part ad wd d) → World → Prop)
    (hY : ∀ pre x W, J pre W → pre.length < d → YieldAt Fence.wide (n - 1) Try.prog l (partV ad wd d x) W fun e W' =>
      (e = .returned (.bool true) ∧ J (pre ++ [x]) W' ∧ Below n₀ W W') ∨ (e = .returned (.bool false) ∧ Jx (pre ++ [x]) W'))
    (W : World) (hBs : W.cell? ⟨Bs, 0, none⟩ = some (.slice (some ad) len cap)) (hBn : W.cell? ⟨Bn, 0, none⟩ = some (.int .i64 wd)) (hJn : ∀ pre n W, J pre W → J pre (W.drewN n)) (h0 : J [] W) :
    CallsIn Fence.wide n Try.prog 110 #[.func (.yield l) #[] #[], .pointer (some ⟨Bs, 0, none⟩), .pointer (some ⟨Bn, 0, none⟩)] W fun e W' => (∃ v, e = .returned v) ∧
      ((∃ ys, nums ys = List.range d ∧ J ys W') ∨ (∃ pre, (∃ k, k ≤ d ∧ nums pre = List.range k) ∧ Jx pre W')) := by
  refine callsIn_of_wp Try.func110 rfl trivial ?_ rfl
  simp only [Try.ntmps110, List.size_toArray, List.length_cons, List.length_nil, Nat.reduceAdd, Nat.reduceSub, Array.replicate_succ, Array.replicate_zero, List.push_toArray, List.append_toArray, List.nil_append, List.cons_append]
  have Hlen := Lib.hid hlen; clear hlen
  gi_wp2
  gi_loopw [4] (fun i wr => ∃ (k m : Nat) (pre : List (Part ad wd d)), k ≤ d ∧ Hid (m = k * wd) ∧ m ≤ len ∧ i = .int .i64 (m : Nat) ∧ Hid (nums pre = List.range k) ∧ J pre wr ∧ Below n₀ W wr)
    (fun i _ => len + 200 - (intOf i).toNat)
  case atStart => exact ⟨0, 0, [], by omega, Lib.hid (by simp), by omega, rfl, Lib.hid rfl, h0, Below.refl _ _⟩
  case round =>
    obtain ⟨k, m, pre, hk, hm, hml, rfl, hpre, hJ, hb⟩ := hrel
    have c1 : wr.cell? ⟨Bs, 0, none⟩ = some (.slice (some ad) len cap) := (hb.cell (p := ⟨Bs, 0, none⟩) hbs).trans hBs
    have c2 : wr.cell? ⟨Bn, 0, none⟩ = some (.int .i64 wd) := (hb.cell (p := ⟨Bn, 0, none⟩) hbn).trans hBn
    by_cases hlt : (m : Int) < (len : Int)
    · have hkd : k < d := by
        rcases Nat.lt_or_ge k d with h | h
        · exact h
        · have := Nat.mul_le_mul_right wd h
          have := hm.out
          have := Hlen.out
          omega
      have hle : m + wd ≤ len := by
        have h1 := hm.out
        have h2 := Nat.mul_le_mul_right wd hkd
        rw [Nat.succ_mul] at h2
        have := Hlen.out
        omega
      have q0 : (0 : Int) ≤ (m : Int) := by omega
      have q1 : (m : Int) ≤ (len : Int) := by omega
      have q2 : (m : Int) ≤ (cap : Int) := by omega
      obtain ⟨e, he⟩ : ∃ e : Nat, e = m + wd := ⟨_, rfl⟩
      have hlb : (len : Int) ≤ 1600 := by
        have h1 := Hlen.out
        have h2 := Nat.mul_le_mul hd hw2
        omega
      have ew1 : Value.int .i64 (IntKind.i64.wrap ((m : Int) + (wd : Int))) = Value.int .i64 (e : Int) := int_eq ((IntWalk.i64_in _ (by omega)).trans (by omega))
      have ew2 : Value.int .i64 (wrap64 ((m : Int) + (wd : Int))) = Value.int .i64 (e : Int) := int_eq (by unfold wrap64; omega)
      have esub : e - m = wd := by omega
      have q3 : (m : Int) ≤ (e : Int) := by omega
      have q4 : (e : Int) ≤ (cap : Int) := by omega
      have q5 : ¬ wd = 0 := by omega
      have HE := Lib.hid he; clear he
      have e1 : Value.int .i64 (min (wd : Int) (((len - m : Nat) : Int))) = Value.int .i64 (wd : Int) := int_eq (Int.min_eq_left (by have := HE.out; omega))
      gi_wp2
      gi_big_quiet_th (fail)
      have hJ2 := hJn _ nq _ hJ
      obtain ⟨fn, tmps, assign, body, hy, hR⟩ := hY pre ⟨(ad.add m, k), by rw [hm.out], hkd⟩ (wr.drewN nq) hJ2 (by have := congrArg List.length hpre.out; simp [nums] at this; omega)
      dsimp only [partV] at hy
      gi_wp2
      refine hR.mono ?_
      rintro e W3 (⟨rfl, hJ3, hk3⟩ | ⟨rfl, hJx3⟩)
      · have c3 : W3.cell? ⟨Bn, 0, none⟩ = some (.int .i64 wd) := (hk3.cell (p := ⟨Bn, 0, none⟩) hbn).trans c2
        gi_wp2
        go_roundw
        case rel => exact ⟨k + 1, e, _, by omega, Lib.hid (by have h1 := hm.out; have h2 := HE.out; rw [Nat.succ_mul]; omega), by omega, by rfl, Lib.hid (by rw [nums, List.map_append, List.range_succ, ← hpre.out]; rfl), hJ3, (below_drewN hb _).trans hk3⟩
        case measure => have h2 := HE.out; simp [intOf]; omega
      · gi_wp2
        refine bodyPost_ret (results_none rfl _ _ _) rfl ?_
        exact ⟨⟨_, rfl⟩, .inr ⟨_, ⟨k + 1, by omega, by rw [nums, List.map_append, List.range_succ, ← hpre.out]; rfl⟩, hJx3⟩⟩
    · have hkd : k = d := by
        rcases Nat.lt_or_ge k d with h | h
        · have h1 := hm.out
          have h2 := Nat.mul_le_mul_right wd h
          rw [Nat.succ_mul] at h2
          have := Hlen.out
          omega
        · omega
      subst hkd
      gi_wp2
      go_end0
      exact ⟨⟨_, rfl⟩, .inl ⟨pre, hpre.out, hJ⟩⟩
theorem chunk_stops (n : Nat) (hn : 1 ≤ n) (Bs Bn n₀ : Nat) (ad : Addr) (cap wd d len : Nat) (hw : 1 ≤ wd) (hw2 : wd ≤ 200) (hd : d ≤ 8) (hlen : len = d * wd) (hcap : len ≤ cap) (hbs : Bs < n₀) (hbn : Bn < n₀) (w : World) (hn₀ : n₀ ≤ w.heap.size)
    (hBs : w.cell? ⟨Bs, 0, none⟩ = some (.slice (some ad) len cap)) (hBn : w.cell? ⟨Bn, 0, none⟩ = some (.int .i64 wd)) :
    SeqStopsK Fence.wide n Try.prog 110 #[.pointer (some ⟨Bs, 0, none⟩), .pointer (some ⟨Bn, 0, none⟩)] (partV ad wd d) (Below n₀) (fun ys => nums ys = List.range d) (fun pre => ∃ k, k ≤ d ∧ nums pre = List.range k) d w := fun l J Jx W hW hJ _ hY h0 =>
  chunk1_in n hn l Bs Bn n₀ ad cap wd d len hw hw2 hd hlen hcap hbs hbn J Jx hY W ((hW.cell (p := ⟨Bs, 0, none⟩) (by show Bs < _; omega)).trans hBs) ((hW.cell (p := ⟨Bn, 0, none⟩) (by show Bn < _; omega)).trans hBn)
    (fun pre n W hp => hJ pre W (W.drewN n) none hp ⟨rfl, rfl, rfl, Nat.le_refl _, fun _ _ _ => rfl⟩ (fun _ e => by cases e)) h0
end Go.Proofs.Ytkkadfjcnocopaa
