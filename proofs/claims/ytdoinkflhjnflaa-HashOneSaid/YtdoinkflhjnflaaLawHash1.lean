/- The walk of the law HashOne: it returns true. Conditions: the arguments fit their kinds. -/
import Derived.Test.YtdoinkflhjnflaaLawHash
import Derived.Test.YtdoinkflhjnflaaCloneU8
namespace Go.Proofs.Ytdoinkflhjnflaa
open Go.RowKit

theorem u8s_set (l : List Nat) (k b : Nat) : (u8s l).set k (.int .u8 (b : Int)) = u8s (l.set k b) := by
  simp [u8s, List.map_set, u8v]
theorem at_set_same {l : List Nat} {k b : Nat} (h : k < l.length) : at_ (l.set k b) k = b := by
  rw [at_eq (by simpa using h)]; simp
theorem at_set_other {l : List Nat} {k i b : Nat} (h : i ≠ k) : at_ (l.set k b) i = at_ l i := by
  simp [at_, List.getD, Ne.symm h]

set_option maxRecDepth 1000000 in
set_option maxHeartbeats 2000000 in
theorem hashOne_true (w : World) (s : Nat) (hs : s < 18446744073709551616) (A : Option Addr) (c : Nat) (l : List Nat) (hb : Bytes l) (hlc : l.length ≤ c) (hc : c ≤ maxLen) (_ : A = none → c = 0) (h : Has w w.heap.size A (u8s l)) (hr : l.length ≤ 140737488351232)
    (p : Int) (hp : -9223372036854775808 ≤ p ∧ p ≤ 9223372036854775807) (b : Nat) (hbb : b < 256) :
    Calls Try.prog 10 #[.int .u64 s, .slice A l.length c, .int .i64 p, .int .u8 b] w (R1 (.bool true) (Below w.heap.size w)) := by
  have hl : l.length ≤ maxLen := by omega
  by_cases p0 : p < 0
  · go_enter Try.func10, Try.ntmps10
    go_wp2_with fail
    refine (hashes_true _).mono ?_
    rintro e w1 ⟨rfl, n1, rfl⟩
    go_wp2_with fail
    go_ret
    exact R1.mk rfl (below_drewN (Below.refl _ _) _)
  by_cases p1 : (l.length : Int) ≤ p
  · go_enter Try.func10, Try.ntmps10
    go_wp2_with fail
    refine (hashes_true _).mono ?_
    rintro e w1 ⟨rfl, n1, rfl⟩
    go_wp2_with fail
    go_ret
    exact R1.mk rfl (below_drewN (Below.refl _ _) _)
  obtain ⟨k, rfl⟩ := Int.eq_ofNat_of_zero_le (show 0 ≤ p by omega)
  have hk : k < l.length := by omega
  have q1 : (k : Int) < (l.length : Int) := by omega
  have q0 : (0 : Int) ≤ (k : Int) := by omega
  clear p0 p1
  obtain ⟨ad, rfl, _, hcell⟩ := h.at (u8s_at hk)
  by_cases e : at_ l k = b
  · have f1 : (((at_ l k : Nat) : Int) == (b : Int)) = true := by rw [beq_iff_eq]; omega
    clear e
    go_enter Try.func10, Try.ntmps10
    go_wp2_with fail
    refine (hashes_true _).mono ?_
    rintro e w1 ⟨rfl, n1, rfl⟩
    go_wp2_with fail
    go_ret
    exact R1.mk rfl (below_drewN (Below.refl _ _) _)
  have f1 : (((at_ l k : Nat) : Int) == (b : Int)) = false := by rw [beq_eq_false_iff_ne]; omega
  have f2 : ((ofN s l : Int) != (ofN s (l.set k b) : Int)) = true := by
    rw [bne_iff_ne]
    intro h2
    have h3 := ofUp_one (s := s) (l := l) (m := l.set k b) (p := k) (by rw [at_set_same hk]; exact e) (hb.at k) (by rw [at_set_same hk]; exact hbb) (fun i hi => (at_set_other hi).symm) hk
    unfold ofN at h2
    rw [List.length_set] at h2
    exact h3 (by omega)
  have hb' : Bytes (l.set k b) := fun x hx => (List.mem_or_eq_of_mem_set hx).elim (hb x) (fun e => e ▸ hbb)
  have hl' : Hid ((l.set k b).length = l.length) := Lib.hid (by simp)
  go_enter Try.func10, Try.ntmps10
  go_wp2_with fail
  refine (hashes_true _).mono ?_
  rintro e w1 ⟨rfl, n1, rfl⟩
  go_wp2_with fail
  refine (cloneU8_any (some ad) l.length c (u8s l) (by rw [u8s_len, Nat.mul_one]) (u8s_one l) (fun e => by cases e) (by omega) _ (by exact h)).mono ?_
  rintro e w3 ⟨v, rfl, A3, c3, rfl, hown3, hb3⟩
  have hb3 := bnext (below_drewN (Below.refl w.heap.size w) n1) hb3
  obtain ⟨g, cap, ev, hg, hgs⟩ := hown3.form (by omega)
  injection ev with e1 e2 e3
  subst e1 e3
  have hcell3 : w3.cell? ⟨g, k, none⟩ = some (.int .u8 ((at_ l k : Nat) : Int)) := (hown3.cellAt k (by omega)).trans (u8s_at hk)
  have hfr3 := hown3.frozenAt k
  obtain ⟨hown4, hgr4⟩ := hown3.stored k (.int .u8 (b : Int))
  rw [u8s_set] at hown4
  go_wp2_with fail
  have hb4 := hb3.setCell (p := ⟨g, k, none⟩) (by simpa using hg) (.int .u8 (b : Int))
  refine (of_any s hs _ c l hl hb _ (h.next hb4)).mono ?_
  rintro e w5 ⟨rfl, n5, rfl⟩
  go_wp2_with fail
  refine (of_any' s hs _ _ c3 (l.set k b) hl'.out (by rw [hl'.out]; exact hl) hb' _ (by exact Has.of_own hown4)).mono ?_
  rintro e w6 ⟨rfl, n6, rfl⟩
  go_wp2_with fail
  go_ret
  exact R1.mk rfl (below_drewN hb4 _)
end Go.Proofs.Ytdoinkflhjnflaa
