/- The walk of the law LogOne: it returns true. Conditions: the argument fits its kind and holds at most 2 to the 40th bytes. -/
import Derived.Test.YtkcfhfplppdnnaaCut
import Derived.Test.YtkcfhfplppdnnaaLogs
import Derived.Test.YtkcfhfplppdnnaaHasPre
namespace Go.Proofs.Ytkcfhfplppdnnaa
open Go.RowKit

theorem RecsAt.get {w : World} {vs : List Value} {rs : List (List Nat)} (h : RecsAt w vs rs) : ∀ {k : Nat}, k < rs.length → ∃ v, vs[k]? = some v ∧ RecAt w v (at_ rs k) := by
  induction h with
  | nil => intro k hk; simp at hk
  | @cons v r vs rs h1 _ ih =>
    intro k hk
    cases k with
    | zero => exact ⟨v, rfl, h1⟩
    | succ k =>
      obtain ⟨u, e, h2⟩ := ih (k := k) (by simpa using hk)
      exact ⟨u, by simpa using e, by rw [at_eq (by simpa using hk)] at h2; rw [at_eq hk]; exact h2⟩
def flat (rs : List (List Nat)) : List Nat := (rs.map frameL).flatten
theorem flat_step {rs : List (List Nat)} {k : Nat} (h : k < rs.length) : flat (rs.take (k + 1)) = flat (rs.take k) ++ frameL (at_ rs k) := by
  unfold flat
  rw [List.take_add_one, List.getElem?_eq_getElem h, at_eq h, List.map_append, List.flatten_append]
  congr 1
  simp
theorem frameL_pos (r : List Nat) : 9 ≤ (frameL r).length := by
  have := putL_pos r.length
  unfold frameL
  rw [List.length_append, List.length_append, be8_len]
  omega
theorem flat_ge (rs : List (List Nat)) : rs.length ≤ (flat rs).length := by
  induction rs with
  | nil => simp [flat]
  | cons r rs ih =>
    have := frameL_pos r
    unfold flat at ih ⊢
    rw [List.map_cons, List.flatten_cons, List.length_append, List.length_cons]
    omega
theorem flat_le (rs : List (List Nat)) (k : Nat) : (flat (rs.take k)).length ≤ (flat rs).length := by
  have e : rs = rs.take k ++ rs.drop k := (List.take_append_drop k rs).symm
  have e2 : flat rs = flat (rs.take k) ++ flat (rs.drop k) := by
    unfold flat
    rw [← List.flatten_append, ← List.map_append, List.take_append_drop]
  rw [e2, List.length_append]
  omega
theorem frameL_bytes {r : List Nat} (h : Bytes r) : Bytes (frameL r) := by
  unfold frameL
  intro x hx
  rcases List.mem_append.1 hx with hx | hx
  · rcases List.mem_append.1 hx with hx | hx
    · exact putL_bytes _ x hx
    · exact h x hx
  · exact be8_bytes _ x hx

set_option maxRecDepth 1000000 in
set_option maxHeartbeats 2000000 in
theorem logOne_true (w : World) (A : Option Addr) (c : Nat) (b : List Nat) (hb : Bytes b) (hlc : b.length ≤ c) (hc : c ≤ maxLen) (hnil : A = none → c = 0) (h : Has w w.heap.size A (u8s b)) (hr : b.length ≤ 1099511627776) :
    Calls Try.prog 10 #[.slice A b.length c] w (R1 (.bool true) (Below w.heap.size w)) := by
  obtain ⟨⟨rs, n⟩, hcut⟩ : ∃ r, cutN b = r := ⟨_, rfl⟩
  obtain ⟨n', e1, e2, e3, e4⟩ := cutGo_ok b b.length 0 (by omega)
  rw [show cutGo b b.length 0 = cutN b from rfl, hcut] at e1 e3 e4
  simp only [Nat.zero_add] at e1 e2
  subst e1
  rw [List.drop_zero] at e3
  have hfl : Hid (flat rs = b.take n) := Lib.hid e3
  have hfn : (flat rs).length = n := by rw [hfl.out, List.length_take]; omega
  have hrl : rs.length ≤ 1099511627776 := by have := flat_ge rs; omega
  have Hcut := Lib.hid hcut; clear hcut e3
  have Hfn := Lib.hid hfn
  have hrb : ∀ r ∈ rs, Bytes r := cut_bytes hb Hcut.out
  have hrb := Lib.hid hrb
  have e4 := Lib.hid e4
  have HN := Lib.hid hnil; clear hnil
  have hle : ∀ k, (flat (rs.take k)).length ≤ n := fun k => by have := flat_le rs k; omega
  have hle := Lib.hid hle
  clear hfn
  go_enter Try.func10, Try.ntmps10
  go_wp2_with fail
  refine (logs_true _).mono ?_
  rintro e w1 ⟨rfl, hb1⟩
  go_wp2_with fail
  refine (cut_any A _ c b (rs, n) Hcut.out rfl hlc hc hr hb HN.out _ (by exact h.next hb1)).mono ?_
  rintro e w2 ⟨v, rfl, A2, c2, vs, rfl, ho2, hrec2, hb2'⟩
  have hb2 := bnext hb1 hb2'
  have hv2 := Lib.hid (Has.of_own ho2); clear ho2
  have hrec2 := Lib.hid hrec2
  go_wp2_with fail
  go_loopw [5, 19] (fun v i wr => ∃ (k : Nat) (O : Option Addr) (e : Nat), k ≤ rs.length ∧ i = .int .i64 (k : Nat) ∧ v = .slice O (flat (rs.take k)).length e ∧ wr.ownsRow w2.heap.size 5 1 (.slice O (flat (rs.take k)).length e) (flat (rs.take k)).length (u8s (flat (rs.take k))) ∧ Below w2.heap.size w2 wr) (fun _ i _ => rs.length + 5 - (intOf i).toNat)
  case atStart => exact ⟨0, none, 0, by omega, rfl, rfl, ⟨rfl, .inl ⟨rfl, rfl⟩⟩, Below.refl _ _⟩
  case round =>
    obtain ⟨k, O, e, hk, rfl, rfl, hown, hbr⟩ := hrel
    have hbs := hbr.size
    by_cases hlt : (k : Int) < (rs.length : Int)
    · obtain ⟨u, hu, A3, c3, rfl, h31, h32, h33, h34⟩ := hrec2.out.get (show k < rs.length by omega)
      obtain ⟨ad, rfl, _, c0⟩ := (hv2.out.below hbr).at hu
      obtain ⟨R, hR⟩ : ∃ R, at_ rs k = R := ⟨_, rfl⟩
      have hRm : R ∈ rs := by rw [← hR]; exact at_mem (by omega)
      have hst := Lib.hid (flat_step (show k < rs.length by omega))
      rw [hR] at c0 hst h31 h34
      have hRl := e4.out R hRm
      have hRb := hrb.out R hRm
      have hfr := Lib.hid (show frameN R = (frameL R, 0) by unfold frameN; rw [if_neg (by omega)])
      have h34 := Lib.hid (h34.next hbr)
      have hle1 := hle.out k
      have hle2 := hle.out (k + 1)
      rw [hst.out, List.length_append] at hle2
      obtain ⟨M, hM⟩ : ∃ M, flat (rs.take k) = M := ⟨_, rfl⟩
      rw [hM] at hown hst hle1 hle2
      rw [hM]
      have hown := Lib.hid hown
      clear hR hM hu
      go_wp2_with fail
      refine (frame_any A3 _ c3 R rfl (by unfold maxLen; omega) hRb _ (by exact h34.out)).mono ?_
      rw [hfr.out]
      rintro e' w3 ⟨v, rfl, A4, c4, rfl, ho4, hb3⟩
      have hr4 := Lib.hid (Has.of_own ho4); clear ho4
      have hown3 := own_next hown.out hb3
      have hu1 := Lib.hid (u8s_one (frameL R))
      have hul := Lib.hid (show (u8s (frameL R)).length = (frameL R).length * 1 by rw [u8s_length]; omega)
      go_wp2_with (at_builtin; refine wpList_spread rfl _ _ _ rfl elU8 rfl hown3 rfl (by exact hr4.out) ?_ ?k1 ?k2 ?k3 ?k4 ?k5; intro A5 c5 w4 ho5 hgrow hb4)
      case k1 => exact hul.out
      case k2 => exact hu1.out
      case k3 => omega
      case k4 => unfold maxLen; omega
      case k5 => have := hb3.size; omega
      have ho5 := Lib.hid ho5
      go_roundw
      case rel => exact ⟨k + 1, A5, c5, by omega, by go_num, by rw [hst.out, List.length_append], by rw [hst.out, List.length_append, u8s_appd]; exact ho5.out, (hbr.trans (hb3.mono hbs)).trans hb4⟩
      case measure => simp [intOf]; omega
    · obtain rfl : k = rs.length := by omega
      rw [List.take_length] at hown
      rw [List.take_length]
      rw [Hfn.out] at hown ⊢
      have hm := Lib.hid (Has.of_own hown); clear hown
      have hbw := bnext hb2 hbr
      have hw3 := Lib.hid (h.next hbw)
      have hfb : Bytes (flat rs) := by rw [hfl.out]; exact fun y hy => hb y (List.mem_of_mem_take hy)
      have hfb := Lib.hid hfb
      go_wp2_with fail
      refine (hasPre_any A O _ n c e b (flat rs) hb hfb.out rfl Hfn.out hlc _ (by exact hw3.out) (by exact hm.out)).mono ?_
      rintro e' w4 ⟨rfl, n4, rfl⟩
      rw [show (decide (b.take (flat rs).length = flat rs)) = true by rw [decide_eq_true_iff, Hfn.out, hfl.out]]
      go_wp2_with fail
      go_ret
      exact R1.mk (bool_eq (by simp)) (below_drewN hbw _)
end Go.Proofs.Ytkcfhfplppdnnaa
