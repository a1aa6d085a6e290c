/- What sameBytes tells. Conditions: rows of rows of bytes. -/
import Derived.Test.YtkcfhfplppdnnaaRecs
import Derived.Test.YtkcfhfplppdnnaaBytes
namespace Go.Proofs.Ytkcfhfplppdnnaa
open Go.RowKit

theorem recs_ext {l m : List (List Nat)} (hl : l.length = m.length) (h : ∀ i, i < l.length → at_ l i = at_ m i) : l = m := by
  apply List.ext_getElem hl
  intro i h1 h2
  have := h i h1
  rwa [at_eq h1, at_eq h2] at this

set_option maxRecDepth 1000000 in
set_option maxHeartbeats 2000000 in
theorem equalFn_any (A B : Option Addr) (n m c d : Nat) (rs ks : List (List Nat)) (vs us : List Value) (hn : rs.length = n) (hm : ks.length = m) (hl : n ≤ maxLen) (hk : m ≤ maxLen) (hrb : ∀ r ∈ rs, Bytes r) (hkb : ∀ r ∈ ks, Bytes r) (w : World) (h : Has w w.heap.size A vs) (hr : RecsAt w vs rs) (h' : Has w w.heap.size B us) (hr' : RecsAt w us ks) :
    Calls Try.prog 59 #[.slice A n c, .slice B m d, Value.func (Fn.func 21) #[] #[]] w (R1 (.bool (decide (rs = ks))) (Drawn w)) := by
  unfold maxLen at hl hk
  by_cases hnm : n = m
  · subst hnm
    have hr := Lib.hid hr
    have hr' := Lib.hid hr'
    go_enter Try.func59, Try.ntmps59
    go_wp2_with fail
    go_loopw [17] (fun i wr => ∃ j : Nat, j ≤ n ∧ i = .int .i64 (j : Nat) ∧ Hid (∀ q, q < j → at_ rs q = at_ ks q) ∧ Drawn w wr) (fun i _ => n + 5 - (intOf i).toNat)
    case atStart => exact ⟨0, by omega, rfl, Lib.hid (fun q hq => by omega), Drawn.refl _⟩
    case round =>
      obtain ⟨j, hj, rfl, heq, nd, rfl⟩ := hrel
      by_cases hlt : (j : Int) < (n : Int)
      · obtain ⟨u, hu, A3, c3, rfl, h31, h32, h33, h34⟩ := hr.out.get (show j < rs.length by omega)
        obtain ⟨u2, hu2, A4, c4, rfl, h41, h42, h43, h44⟩ := hr'.out.get (show j < ks.length by omega)
        obtain ⟨ad, rfl, _, c0⟩ := h.at hu
        obtain ⟨bd, rfl, _, c1⟩ := h'.at hu2
        have hb1 := hrb _ (at_mem (show j < rs.length by omega))
        have hb2 := hkb _ (at_mem (show j < ks.length by omega))
        obtain ⟨R, hR⟩ : ∃ R, at_ rs j = R := ⟨_, rfl⟩
        obtain ⟨K, hK⟩ : ∃ K, at_ ks j = K := ⟨_, rfl⟩
        rw [hR] at h34 hb1 c0
        rw [hK] at h44 hb2 c1
        have HR := Lib.hid hR
        have HK := Lib.hid hK
        clear hR hK hu hu2 h31 h41
        go_wp2_with fail
        refine (bytesEqual_any A3 A4 _ _ c3 c4 R K hb1 hb2 rfl rfl _ (by exact h34) (by exact h44)).mono ?_
        rintro e w1 ⟨rfl, n1, rfl⟩
        by_cases e : R = K
        · rw [decide_eq_true e]
          have E := Lib.hid e; clear e
          go_wp2_with fail
          go_roundw
          case rel => exact ⟨j + 1, by omega, by go_num, Lib.hid (fun q hq => by rcases Nat.lt_or_ge q j with h1 | h1; exact heq.out q h1; rw [show q = j by omega, HR.out, HK.out]; exact E.out), _, rfl⟩
          case measure => simp [intOf]; omega
        · rw [decide_eq_false e]
          have E := Lib.hid e; clear e
          go_wp2_with fail
          go_ret
          exact R1.mk (bool_eq (by rw [eq_comm, decide_eq_false_iff_not]; intro h1; exact E.out (by rw [← HR.out, ← HK.out, h1]))) ⟨_, rfl⟩
      · go_wp2_with fail
        go_ret
        exact R1.mk (bool_eq (by rw [eq_comm, decide_eq_true_iff]; exact recs_ext (by omega) (fun i hi => heq.out i (by omega)))) ⟨_, rfl⟩
  · have f0 : ((n : Int) != (m : Int)) = true := by rw [bne_iff_ne]; omega
    have E := Lib.hid hnm; clear hnm
    go_enter Try.func59, Try.ntmps59
    go_wp2_with fail
    go_ret
    exact R1.mk (bool_eq (by rw [eq_comm, decide_eq_false_iff_not]; intro h1; exact E.out (by rw [← hn, ← hm, h1]))) (Drawn.refl _)

set_option maxRecDepth 1000000 in
theorem sameBytes_any (A B : Option Addr) (n m c d : Nat) (rs ks : List (List Nat)) (vs us : List Value) (hn : rs.length = n) (hm : ks.length = m) (hl : n ≤ maxLen) (hk : m ≤ maxLen) (hrb : ∀ r ∈ rs, Bytes r) (hkb : ∀ r ∈ ks, Bytes r) (w : World) (h : Has w w.heap.size A vs) (hr : RecsAt w vs rs) (h' : Has w w.heap.size B us) (hr' : RecsAt w us ks) :
    Calls Try.prog 39 #[.slice A n c, .slice B m d] w (R1 (.bool (decide (rs = ks))) (Drawn w)) := by
  go_enter Try.func39, Try.ntmps39
  go_wp2_with fail
  refine (equalFn_any A B n m c d rs ks vs us hn hm hl hk hrb hkb _ (by exact h) (by exact hr) (by exact h') (by exact hr')).mono ?_
  rintro e w1 ⟨rfl, n1, rfl⟩
  go_wp2_with fail
  go_ret
  exact R1.mk rfl ⟨_, rfl⟩
end Go.Proofs.Ytkcfhfplppdnnaa
