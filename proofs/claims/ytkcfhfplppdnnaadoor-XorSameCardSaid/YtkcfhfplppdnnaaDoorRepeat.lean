/- What slices.Repeat makes of one number. Conditions: 1 to 100 times. -/
import Derived.Test.YtkcfhfplppdnnaaDoorU64s
import Derived.Test.YtkcfhfplppdnnaaDoorMul
import Derived.Test.YtkcfhfplppdnnaaDoorOwn
import Derived.Laws.CopyOwn
import Derived.Deep.RegionHeld3
import Derived.OwnWalk
namespace Go.Proofs.YtkcfhfplppdnnaaDoor
open Go.RowKit

theorem mul_any (x y : Nat) (hx : x < 1000) (hy : y < 1000) (w : World) :
    Calls Tryd.prog 41 #[.int .u64 x, .int .u64 y] w (R1 (.tuple #[.int .u64 0, .int .u64 ((x * y : Nat) : Int)]) (fun w' => w' = w)) := by
  have hxy : x * y < 1000000 := by
    have := Nat.mul_lt_mul'' hx hy
    omega
  have e1 : x * y / 18446744073709551616 = 0 := Nat.div_eq_of_lt (by omega)
  have e2 : x * y % 18446744073709551616 = x * y := Nat.mod_eq_of_lt (by omega)
  obtain ⟨p, hp⟩ : ∃ p, x * y = p := ⟨_, rfl⟩
  have H := Tryd.bits_Mul64 x y (by omega) (by omega)
  rw [e1, e2] at H
  rw [hp] at H ⊢
  clear e1 e2 hp hxy
  have ex : IntKind.u64.wrap (x : Int) = (x : Int) := IntWalk.u64_in _ (by omega)
  go_enter Tryd.func41, Tryd.ntmps41
  go_wp2_with fail
  refine (H _).mono ?_
  rintro e w1 ⟨rfl, hw⟩
  rw [hw]
  go_wp2_with fail
  go_ret2
  exact R1.mk rfl rfl
theorem infoU64 : (Tryd.prog.info? 41).map (fun i => (i.zero, i.size, i.bytes)) = some (some (.int .u64 0), 1, 8) := by kernel_rfl
/-- the row, m of n filled -/
def repV (v m n : Nat) : List Value := List.replicate m (.int .u64 (v : Int)) ++ List.replicate (n - m) (.int .u64 0)
theorem repV_len {v m n : Nat} (h : m ≤ n) : (repV v m n).length = n := by simp [repV]; omega
theorem repV_splice {v m n k : Nat} (h : m + k ≤ n) : splice (repV v m n) m (List.replicate k (.int .u64 (v : Int))) = repV v (m + k) n := by
  unfold splice repV
  have e1 : (List.replicate m (Value.int .u64 (v : Int)) ++ List.replicate (n - m) (Value.int .u64 0)).take m = List.replicate m (Value.int .u64 (v : Int)) := by
    rw [List.take_append_of_le_length (by simp), List.take_of_length_le (by simp)]
  have e2 : (List.replicate m (Value.int .u64 (v : Int)) ++ List.replicate (n - m) (Value.int .u64 0)).drop (m + (List.replicate k (Value.int .u64 (v : Int))).length) = List.replicate (n - (m + k)) (Value.int .u64 0) := by
    rw [List.length_replicate, List.drop_append, List.drop_eq_nil_of_le (by simp), List.nil_append, List.length_replicate, List.drop_replicate]
    congr 1; omega
  rw [e1, e2, ← List.append_assoc, List.replicate_append_replicate]

set_option maxRecDepth 1000000 in
set_option maxHeartbeats 4000000 in
theorem repeat_any (v n g : Nat) (h1 : 1 ≤ n) (h2 : n ≤ 100) (w : World) (hg : g < w.heap.size) (c0 : w.cell? ⟨g, 0, none⟩ = some (.int .u64 (v : Int))) :
    Calls Tryd.prog 23 #[.slice (some ⟨g, 0, none⟩) 1 1, .int .i64 n] w (RV fun u w' => ∃ A, u = .slice A n n ∧ Has w' w'.heap.size A (u64s (List.replicate n v)) ∧ Below w.heap.size w w') := by
  have en : IntKind.u64.wrap (n : Int) = (n : Int) := IntWalk.u64_in _ (by omega)
  have en2 : IntKind.i64.wrap (n : Int) = (n : Int) := IntWalk.i64_in _ (by omega)
  obtain ⟨i0, i1, i2, i3, i4⟩ := info_parts infoU64
  obtain ⟨w2, hrun, hown, hgrow⟩ := run_make_full (P := Tryd.prog) w w.heap.size 40 41 i0 (.int .u64 0) 1 Tryd.underlying40 i1 i2 i3 .i64 .i64 n (by rw [i4]; omega) (by unfold maxLen; omega) (Nat.le_refl _)
  have hb2 : Below w.heap.size w w2 := (Below.refl _ _).grown hgrow (Nat.le_refl _) (fun k e => by cases e)
  have hro : w2.heap[w.heap.size]? = some (.cells (repV v 0 n).toArray 41 (0, 0)) := by
    rcases hown.2 with ⟨e, _⟩ | ⟨q, cap, cur, e, _, hgg, _, _, hcs, htk⟩
    · injection e with e _ _; cases e
    · injection e with e _ ec
      injection e with e
      injection e with e
      subst e ec
      rw [hgg]
      congr 2
      have hxs : (madeCells (Value.int .u64 0).cells n).toList = repV v 0 n := by
        show (madeCells #[Value.int .u64 0] n).toList = _
        rw [toList_madeCells_one]
        simp [repV]
      rw [List.take_of_length_le (by rw [Array.length_toList, hcs]; exact Nat.le_refl _), Nat.mul_one, hxs] at htk
      rw [← htk]
  have c2 : w2.cell? ⟨g, 0, none⟩ = some (.int .u64 (v : Int)) := (hb2.cell (p := ⟨g, 0, none⟩) hg).trans c0
  have HR := hrun
  clear hown hgrow c0
  go_enter Tryd.func23, Tryd.ntmps23
  go_wp2_with fail
  refine (mul_any 1 n (by omega) (by omega) _).mono ?_
  rintro e w1 ⟨rfl, hw⟩
  rw [hw, Nat.one_mul]
  clear hw w1
  obtain ⟨G, hG⟩ : ∃ G, w.heap.size = G := ⟨_, rfl⟩
  have hGB := Lib.hid hG
  have hnm := Lib.hid (show (1 : Nat) = Nat.min 1 n by show 1 = min 1 n; omega)
  have hn1 : (n : Int) ≤ 9223372036854775807 := by omega
  have Hcell := Lib.hid c2
  clear c2
  rw [hG] at hrun hro hg hb2
  clear hG HR
  have hcp := run_copy_row (P := Tryd.prog) w2 40 40 3 41 G 0 n n ⟨g, 0, none⟩ 1 1 (repV v 0 n).toArray 41 [.int .u64 (v : Int)] Tryd.underlying40 (by kernel_rfl) hro hnm.out (fun j u hu => by
    rcases j with _ | j
    · simp at hu; subst hu; exact Hcell.out
    · simp at hu) (by rw [List.size_toArray, repV_len (Nat.zero_le _)]; simp; omega) (by intro u hu; simp at hu; subst hu; rfl)
  obtain ⟨w3, hw3⟩ : ∃ w3, w2.setRow G ((repV v 0 n).toArray.toList.take 0 ++ [Value.int .u64 (v : Int)] ++ (repV v 0 n).toArray.toList.drop (0 + [Value.int .u64 (v : Int)].length)).toArray = w3 := ⟨_, rfl⟩
  have HG3 : Hid (w3.heap[G]? = some (.cells (splice (repV v 0 n) 0 [.int .u64 (v : Int)]).toArray 41 (0, 0))) := Lib.hid (by rw [← hw3, setRow_heap w2 G _ _ _ _ hro]; rfl)
  have hb3 : Below G w w3 := by rw [← hw3]; exact below_setRow hb2 (Nat.le_refl _) _
  rw [hw3] at hcp
  have hcp : (Builtin.copy_ #[40, 40] 3 #[.slice (some ⟨G, 0, none⟩) n n, .slice (some ⟨g, 0, none⟩) 1 1]).run Tryd.prog w2 = .ok (.int .i64 1) w3 := hcp
  clear hw3
  go_wp2_with fail
  have HG3 : Hid (w3.heap[G]? = some (.cells (repV v 1 n).toArray 41 (0, 0))) := Lib.hid (by rw [HG3.out, show [Value.int .u64 (v : Int)] = List.replicate 1 (Value.int .u64 (v : Int)) from rfl, repV_splice (by omega)])
  go_loopw [8] (fun i wr => ∃ m : Nat, 1 ≤ m ∧ m ≤ n ∧ i = .int .i64 (m : Nat) ∧ Hid (wr.heap[G]? = some (.cells (repV v m n).toArray 41 (0, 0))) ∧ Below G w wr) (fun i _ => n - (intOf i).toNat)
  case atStart => exact ⟨1, by omega, h1, rfl, HG3, hb3⟩
  case round =>
    clear hro hb2
    obtain ⟨m, hm1, hmn, rfl, HG, hbr⟩ := hrel
    by_cases hlt : (m : Int) < (n : Int)
    · obtain ⟨k, hk⟩ : ∃ k, Nat.min m (n - m) = k := ⟨_, rfl⟩
      have hk1 : 1 ≤ k := by rw [← hk]; show 1 ≤ min m (n - m); omega
      have hk2 : m + k ≤ n := by rw [← hk]; show m + min m (n - m) ≤ n; omega
      have hk3 : k ≤ m := by rw [← hk]; show min m (n - m) ≤ m; omega
      have HK := Lib.hid hk; clear hk
      have q1 : (m : Int) ≤ (n : Int) := by omega
      have q2 : ¬ n = m := by omega
      have hrep : ∀ j u, (List.replicate k (Value.int .u64 (v : Int)))[j]? = some u → wr.drew.cell? ((⟨G, 0, none⟩ : Addr).add j) = some u := fun j u hu => by
        have hj : j < k := by
          rcases Nat.lt_or_ge j k with h | h
          · exact h
          · rw [List.getElem?_eq_none (by simpa using h)] at hu; cases hu
        rw [List.getElem?_replicate, if_pos hj] at hu
        injection hu with hu
        have hadd : (⟨G, 0, none⟩ : Addr).add j = ⟨G, j, none⟩ := by unfold Addr.add; split <;> simp_all
        rw [hadd, cell_of_row wr.drew G j _ _ (0, 0) HG.out, ← hu]
        simp only [repV, List.getElem?_toArray]
        rw [List.getElem?_append_left (by simp; omega), List.getElem?_replicate, if_pos (by omega)]
      have hcp2 := run_copy_row (P := Tryd.prog) wr.drew 40 40 3 41 G m (n - m) (n - m) ⟨G, 0, none⟩ m n (repV v m n).toArray 41 (List.replicate k (.int .u64 (v : Int))) Tryd.underlying40 (by kernel_rfl) HG.out (by rw [List.length_replicate, ← HK.out]) hrep (by rw [List.size_toArray, repV_len hmn, List.length_replicate]; exact hk2) (by intro u hu; rw [List.eq_of_mem_replicate hu]; rfl)
      obtain ⟨w4, hw4⟩ : ∃ w4, wr.drew.setRow G ((repV v m n).toArray.toList.take m ++ List.replicate k (Value.int .u64 (v : Int)) ++ (repV v m n).toArray.toList.drop (m + (List.replicate k (Value.int .u64 (v : Int))).length)).toArray = w4 := ⟨_, rfl⟩
      have HG4 : Hid (w4.heap[G]? = some (.cells (repV v (m + k) n).toArray 41 (0, 0))) := Lib.hid (by
        rw [← hw4, setRow_heap wr.drew G _ _ _ _ HG.out, ← repV_splice hk2]
        simp [splice])
      have hb4 : Below G w w4 := by rw [← hw4]; exact below_setRow (below_drewN hbr 1) (Nat.le_refl _) _
      rw [hw4, List.length_replicate] at hcp2
      have hcp2 : (Builtin.copy_ #[40, 40] 3 #[.slice (some ⟨G, m, none⟩) (n - m) (n - m), .slice (some ⟨G, 0, none⟩) m n]).run Tryd.prog wr.drew = .ok (.int .i64 (k : Int)) w4 := hcp2
      clear hw4 hrep hcp hrun
      have em : IntKind.i64.wrap ((m : Int) + (k : Int)) = ((m + k : Nat) : Int) := by rw [← Int.natCast_add]; exact IntWalk.i64_in _ (by omega)
      go_wp2_with fail
      go_region_held3 (fun _ => True) (trivial) (fail)
      go_roundw
      case rel => (repeat apply Exists.intro); refine ⟨?_, rfl⟩; exact ⟨m + k, by omega, hk2, rfl, HG4, hb4⟩
      case measure => simp [intOf]; omega
    · obtain rfl : m = n := by omega
      have hres : Has wr wr.heap.size (some ⟨G, 0, none⟩) (u64s (List.replicate m v)) := fun _ => by
        refine ⟨_, rfl, (Array.getElem?_eq_some_iff.1 HG.out).1, fun j u hu => ?_⟩
        have hadd : (⟨G, 0, none⟩ : Addr).add j = ⟨G, j, none⟩ := by unfold Addr.add; split <;> simp_all
        rw [hadd, cell_of_row wr G j _ _ (0, 0) HG.out]
        rw [List.getElem?_toArray]
        simp only [repV, Nat.sub_self, List.replicate_zero, List.append_nil]
        simpa [u64s, u64v] using hu
      go_wp2_with fail
      go_ret
      exact RV.mk ⟨_, rfl, hres, by rw [hGB.out]; exact hbr⟩
end Go.Proofs.YtkcfhfplppdnnaaDoor
