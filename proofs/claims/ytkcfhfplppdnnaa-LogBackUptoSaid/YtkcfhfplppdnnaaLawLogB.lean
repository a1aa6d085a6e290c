/- The walk of the law LogBack: it returns true. Conditions: the arguments fit their kinds, the records are at most 2 to the 20th. -/
import Derived.Test.YtkcfhfplppdnnaaCut
import Derived.Test.YtkcfhfplppdnnaaLogs
import Derived.Test.YtkcfhfplppdnnaaLogLaw2
import Derived.Test.YtkcfhfplppdnnaaSameBytes
namespace Go.Proofs.Ytkcfhfplppdnnaa
open Go.RowKit

theorem RecsAt.takeB {w : World} {vs : List Value} {rs : List (List Nat)} (h : RecsAt w vs rs) : ∀ k, RecsAt w (vs.take k) (rs.take k) := by
  induction h with
  | nil => intro k; simp; exact .nil
  | cons h1 _ ih =>
    intro k
    cases k with
    | zero => exact .nil
    | succ k => rw [List.take_succ_cons, List.take_succ_cons]; exact .cons h1 (ih k)
theorem elInt : Elem Try.prog 68 3 1 8 := Elem.mk' (z := .int .i64 0) Try.underlying68 (by kernel_rfl) rfl (by decide)
/-- the length of the first k frames -/
def upto (rs : List (List Nat)) (k : Nat) : Nat := (flatF (rs.take k)).length
theorem flat0 (rs : List (List Nat)) : flatF (rs.take 0) = [] := by simp [flatF]
theorem upto0 (rs : List (List Nat)) : upto rs 0 = 0 := by rw [upto, flat0]; rfl
def endsV (rs : List (List Nat)) (k : Nat) : List Value := (List.range k).map fun j => Value.int .i64 (upto rs (j + 1) : Nat)
theorem endsV_succ (rs : List (List Nat)) (k : Nat) : endsV rs (k + 1) = endsV rs k ++ (#[Value.int .i64 (upto rs (k + 1) : Nat)] : Array Value).toList := by
  unfold endsV
  rw [List.range_succ, List.map_append]
  rfl
theorem endsV_get {rs : List (List Nat)} {k j : Nat} (h : j < k) : (endsV rs k)[j]? = some (.int .i64 (upto rs (j + 1) : Nat)) := by
  unfold endsV
  rw [List.getElem?_map, List.getElem?_range h]
  rfl
theorem flatF_step {rs : List (List Nat)} {k : Nat} (h : k < rs.length) : flatF (rs.take (k + 1)) = flatF (rs.take k) ++ frameL (at_ rs k) := by
  rw [take_at h, flatF_app]
  congr 1
  simp [flatF]
theorem frameL_le {r : List Nat} (h : r.length ≤ 2000) : (frameL r).length ≤ 2018 := by
  have := putL_len10 (show r.length < 18446744073709551616 by omega)
  unfold frameL
  rw [List.length_append, List.length_append, be8_len]
  omega
theorem frameL_bytesB {r : List Nat} (h : Bytes r) : Bytes (frameL r) := by
  unfold frameL
  intro x hx
  rcases List.mem_append.1 hx with hx | hx
  · rcases List.mem_append.1 hx with hx | hx
    · exact putL_bytes _ x hx
    · exact h x hx
  · exact be8_bytes _ x hx
theorem flatF_le {ts : List (List Nat)} (h : ∀ r ∈ ts, r.length ≤ 2000) : (flatF ts).length ≤ 2018 * ts.length := by
  induction ts with
  | nil => simp [flatF]
  | cons r ts ih =>
    have h1 := frameL_le (h r (by simp))
    have h2 := ih (fun x hx => h x (by simp [hx]))
    rw [show flatF (r :: ts) = frameL r ++ flatF ts from rfl, List.length_append, List.length_cons]
    omega
theorem flatF_bytesB {ts : List (List Nat)} (h : ∀ r ∈ ts, Bytes r) : Bytes (flatF ts) := by
  induction ts with
  | nil => intro x hx; simp [flatF] at hx
  | cons r ts ih =>
    intro x hx
    rw [show flatF (r :: ts) = frameL r ++ flatF ts from rfl] at hx
    rcases List.mem_append.1 hx with hx | hx
    · exact frameL_bytesB (h r (by simp)) x hx
    · exact ih (fun y hy => h y (by simp [hy])) x hx

set_option maxRecDepth 1000000 in
set_option maxHeartbeats 4000000 in
theorem logBack_true (w : World) (A : Option Addr) (c : Nat) (rs : List (List Nat)) (vs : List Value) (hrb : ∀ r ∈ rs, Bytes r) (hlc : rs.length ≤ c) (_ : c ≤ maxLen) (_ : A = none → c = 0) (h : Has w w.heap.size A vs) (hrec : RecsAt w vs rs) (hr : rs.length ≤ 1048576)
    (keep : Int) (hkeep : -9223372036854775808 ≤ keep ∧ keep ≤ 9223372036854775807) :
    Calls Try.prog 11 #[.slice A rs.length c, .int .i64 keep] w (R1 (.bool true) (Below w.heap.size w)) := by
  have hrb := Lib.hid hrb
  have hrec := Lib.hid hrec
  go_enter Try.func11, Try.ntmps11
  go_wp2_with fail
  refine (logs_true _).mono ?_
  rintro e w1 ⟨rfl, hb1⟩
  go_wp2_with fail
  go_loopw [5, 6, 19] (fun v x i wr => ∃ (k : Nat) (O : Option Addr) (e : Nat) (E : Option Addr) (f : Nat), k ≤ rs.length ∧ i = .int .i64 (k : Nat) ∧ v = .slice O (upto rs k) e ∧ x = .slice E k f ∧ Hid (∀ r ∈ rs.take k, r.length ≤ 2000) ∧ Hid (wr.ownsRow w1.heap.size 5 1 (.slice O (upto rs k) e) (upto rs k) (u8s (flatF (rs.take k)))) ∧ Hid (wr.ownsRow w1.heap.size 3 1 (.slice E k f) k (endsV rs k)) ∧ Below w1.heap.size w1 wr) (fun _ _ i _ => rs.length + 5 - (intOf i).toNat)
  case atStart => exact ⟨0, none, 0, none, 0, by omega, rfl, by rw [upto0], rfl, Lib.hid (by simp), Lib.hid (by rw [upto0, flat0]; exact ⟨rfl, .inl ⟨rfl, rfl⟩⟩), Lib.hid ⟨rfl, .inl ⟨rfl, rfl⟩⟩, Below.refl _ _⟩
  case round =>
    obtain ⟨k, O, e, E, f, hk, rfl, rfl, rfl, hsh, hown, howe, hbr⟩ := hrel
    have hbs := hbr.size
    have hub : upto rs k ≤ 2018 * k := by
      have h1 := flatF_le hsh.out
      rw [List.length_take, Nat.min_eq_left hk] at h1
      exact h1
    by_cases hlt : (k : Int) < (rs.length : Int)
    · obtain ⟨u, hu, A3, c3, rfl, h31, h32, h33, h34⟩ := hrec.out.get (show k < rs.length by omega)
      obtain ⟨ad, rfl, _, c0⟩ := ((h.next hb1).below hbr).at hu
      obtain ⟨R, hR⟩ : ∃ R, at_ rs k = R := ⟨_, rfl⟩
      have hRm : R ∈ rs := by rw [← hR]; exact at_mem (by omega)
      have hst := Lib.hid (flatF_step (show k < rs.length by omega))
      have hta := Lib.hid (take_at (show k < rs.length by omega))
      rw [hR] at c0 hst h31 h34 hta
      have hRb := hrb.out R hRm
      have hRl : R.length ≤ maxLen := Nat.le_trans h31 h32
      have h34 := Lib.hid (h34.next (bnext hb1 hbr))
      clear hR hu h33
      by_cases h2 : (2000 : Int) < (R.length : Int)
      · have hfr := Lib.hid (show frameN R = ([], 2) by unfold frameN; rw [if_pos (by omega)])
        go_wp2_with fail
        refine (frame_any A3 _ c3 R rfl hRl hRb _ (by exact h34.out)).mono ?_
        rw [hfr.out]
        rintro e' w3 ⟨v, rfl, A4, c4, rfl, ho4, hb3⟩
        clear ho4
        go_wp2_with fail
        go_ret
        exact R1.mk rfl (bnext (bnext hb1 hbr) hb3)
      · have hfr := Lib.hid (show frameN R = (frameL R, 0) by unfold frameN; rw [if_neg (by omega)])
        have hfl := frameL_le (show R.length ≤ 2000 by omega)
        have hsh2 := Lib.hid (show ∀ r ∈ rs.take (k + 1), r.length ≤ 2000 by
          rw [hta.out]; intro r hr; rcases List.mem_append.1 hr with hr | hr
          · exact hsh.out r hr
          · simp at hr; subst hr; omega)
        have hul2 : upto rs (k + 1) = upto rs k + (frameL R).length := by unfold upto; rw [hst.out, List.length_append]
        have Hul := Lib.hid hul2; clear hul2
        have h2 := Lib.hid h2
        go_wp2_with fail
        refine (frame_any A3 _ c3 R rfl hRl hRb _ (by exact h34.out)).mono ?_
        rw [hfr.out]
        rintro e' w3 ⟨v, rfl, A4, c4, rfl, ho4, hb3⟩
        have hr4 := Lib.hid (Has.of_own ho4); clear ho4
        have hown3 := own_next hown.out hb3
        have howe3 := own_next howe.out hb3
        have hu1 := Lib.hid (u8s_one (frameL R))
        have hul := Lib.hid (show (u8s (frameL R)).length = (frameL R).length * 1 by rw [u8s_length]; omega)
        have hb3s := hb3.size
        go_wp2_with (at_builtin; first | (refine wpList_spread rfl _ _ _ rfl elU8 rfl hown3 rfl (by exact hr4.out) ?_ hul.out hu1.out (by omega) (by unfold maxLen; omega) (by omega); intro A5 c5 w4 ho5 hgrow hb4; have howe4 := own_keep howe3 (show w3.grownBy w4 (Value.slice O (upto rs k) e).ownBlock from hgrow) (own_apart howe3 hown3 (by decide)); have ho5 := Lib.hid ho5; have hs4 := hb4.size; have hb4' : Below w1.heap.size w1 w4 := (hbr.trans (hb3.mono hbs)).trans hb4; clear hgrow) | (refine wpList_append1 rfl _ _ _ rfl elInt rfl howe4 rfl rfl rfl ?_ ?k1 ?k2 ?k3 ?k4; intro A6 c6 w6 ho6 hgrow hb6))
        case k1 => first | rfl | (intro u hu; simp at hu; subst hu; rfl)
        case k2 => omega
        case k3 => unfold maxLen; omega
        case k4 => omega
        have hgrow : w4.grownBy w6 (Value.slice E k f).ownBlock := hgrow
        have ho7 := Lib.hid (own_keep ho5.out hgrow (own_apart ho5.out howe4 (by decide)))
        have ho6 := Lib.hid ho6
        go_roundw
        case rel => exact ⟨k + 1, A5, c5, A6, c6, by omega, by go_num, by rw [Hul.out], rfl, hsh2, Lib.hid (by rw [Hul.out, hst.out, u8s_appd]; exact ho7.out), Lib.hid (by rw [endsV_succ, Hul.out]; exact ho6.out), hb4'.trans hb6⟩
        case measure => simp [intOf]; omega
    · obtain rfl : k = rs.length := by omega
      have etl : rs.take rs.length = rs := List.take_length
      rw [etl] at hsh
      have eu : upto rs rs.length = (flatF rs).length := by unfold upto; rw [etl]
      rw [etl] at hown
      obtain ⟨n, hn⟩ : ∃ n, upto rs rs.length = n := ⟨_, rfl⟩
      rw [hn] at eu hown hub
      rw [hn]
      have Eu := Lib.hid eu; clear eu
      have hkk : ∃ q : Nat, q ≤ n ∧ ((keep < 0 ∧ q = n) ∨ (¬ keep < 0 ∧ (n : Int) < keep ∧ q = n) ∨ (¬ keep < 0 ∧ ¬ (n : Int) < keep ∧ keep = q)) := by
        by_cases h1 : keep < 0
        · exact ⟨n, Nat.le_refl _, .inl ⟨h1, rfl⟩⟩
        · by_cases h2 : (n : Int) < keep
          · exact ⟨n, Nat.le_refl _, .inr (.inl ⟨h1, h2, rfl⟩)⟩
          · exact ⟨keep.toNat, by omega, .inr (.inr ⟨h1, h2, by omega⟩)⟩
      obtain ⟨q, hq, hc⟩ := hkk
      obtain ⟨m, hm1, hm2, hm3, hm4, hm5⟩ := cut_torn hsh.out (show q ≤ (flatF rs).length by rw [← Eu.out]; exact hq)
      have hm3 := Lib.hid hm3
      have hm4 := Lib.hid hm4
      clear hm5
      have hFb := Lib.hid (flatF_bytesB hrb.out)
      have hOh := Lib.hid (Has.of_own hown.out)
      have hEh := Lib.hid (Has.of_own howe.out)
      obtain ⟨q1, q2⟩ := own_len hown.out
      obtain ⟨q3, q4⟩ := own_len howe.out
      have hOn : O = none → e = 0 := by
        obtain ⟨A', c', e1, _, _, _, h2⟩ := own_form hown.out
        injection e1 with e1 _ e2
        subst e1 e2
        exact h2
      have hOn := Lib.hid hOn
      have hN := Lib.hid hn; clear hn
      have hFl := Lib.hid (show (flatF rs).length ≤ 2200000000 by rw [← Eu.out]; omega)
      have hqF := Lib.hid (show ((flatF rs).take q).length = q by rw [List.length_take, ← Eu.out]; omega)
      have htm := Lib.hid (show (rs.take m).length = m by rw [List.length_take]; omega)
      have hmn : upto rs m ≤ q := hm2
      have hmb := Lib.hid (show ∀ r ∈ rs.take m, Bytes r from fun r hr => hrb.out r (List.mem_of_mem_take hr))
      clear hm2
      clear hown howe etl
      have hb2 := bnext hb1 hbr
      have hV := Lib.hid (h.next hb2)
      have hR2 := Lib.hid (hrec.out.next hb2)
      clear h hrec
      have hc1 : m ≤ c := by omega
      rcases hc with ⟨h1, hqn⟩ | ⟨h1, h2, hqn⟩ | ⟨h1, h2, hqn⟩
      all_goals subst hqn
      all_goals
        go_wp2_with fail
        go_loopw [11, 12] (fun a b wq => ∃ (j n2 : Nat), j ≤ rs.length ∧ upto rs j ≤ q ∧ a = .int .i64 (j : Nat) ∧ b = .int .i64 (upto rs j : Nat) ∧ wq = wr.drewN n2) (fun a _ _ => rs.length + 5 - (intOf a).toNat)
        case atStart => exact ⟨0, 0, by omega, by rw [upto0]; omega, rfl, by rw [upto0]; rfl, rfl⟩
        case round =>
          obtain ⟨j, n2, hj, hjq, rfl, rfl, rfl⟩ := hrel
          by_cases hlt2 : (j : Int) < (rs.length : Int)
          · have hget := endsV_get (rs := rs) (k := rs.length) (show j < rs.length by omega)
            obtain ⟨ed, rfl, _, c1⟩ := hEh.out.at hget
            by_cases hle : ((upto rs (j + 1) : Nat) : Int) ≤ (q : Int)
            · go_wp2_with fail
              go_roundw
              case rel => exact ⟨j + 1, _, by omega, by omega, by go_num, rfl, rfl⟩
              case measure => simp [intOf]; omega
            · have hjm : j = m := by
                have h1 := hm3.out j (by omega) hjq
                rcases Nat.lt_or_ge j m with h2 | h2
                · exfalso
                  have h3 : upto rs (j + 1) ≤ upto rs m := flatF_mono rs (show j + 1 ≤ m by omega)
                  omega
                · omega
              clear hm3
              subst hjm
              obtain ⟨T, hT⟩ : ∃ T, rs.take j = T := ⟨_, rfl⟩
              obtain ⟨N, hN2⟩ : ∃ N, upto rs j = N := ⟨_, rfl⟩
              have hN3 : (flatF (rs.take j)).length = N := hN2
              rw [hN3, hT] at hm4
              rw [hT] at htm hmb
              rw [hN2]
              have hR3 := Lib.hid (show RecsAt wr (vs.take j) T by rw [← hT]; exact hR2.out.takeB j)
              have hV3 := Lib.hid (hV.out.take j)
              clear hN2 hN3 hT hjq
              go_wp2_with fail
              refine (cut_any O q e ((flatF rs).take q) (T, N) hm4.out hqF.out (by omega) q2 (by rw [hqF.out]; omega) (fun y hy => hFb.out y (List.mem_of_mem_take hy)) hOn.out _ (by exact takeU8 hOh.out _)).mono ?_
              rintro e' w5 ⟨v, rfl, A5, c5, ws, rfl, ho5, hrec5, hb5⟩
              have hb5' : Below wr.heap.size wr w5 := bnext (below_drewN (Below.refl wr.heap.size wr) n2) hb5
              have h5 := Lib.hid (Has.of_own ho5)
              have hr5 := Lib.hid hrec5.at
              have hV5 := Lib.hid (hV3.out.next hb5')
              have hR5 := Lib.hid (hR3.out.next hb5')
              clear ho5 hrec5
              go_wp2_with fail
              refine (sameBytes_any A5 A _ _ c5 c T T ws (vs.take j) rfl htm.out (by rw [htm.out]; unfold maxLen; omega) (by unfold maxLen; omega) hmb.out hmb.out _ (by exact h5.out) (by exact hr5.out) (by exact hV5.out) (by exact hR5.out)).mono ?_
              rintro e' w6 ⟨rfl, n6, rfl⟩
              rw [decide_eq_true (rfl : T = T)]
              go_wp2_with fail
              go_ret
              exact R1.mk rfl (below_drewN (bnext hb2 hb5') _)
          · have hjm : j = m := by
              have h1 := hm3.out j (by omega) hjq
              rcases Nat.lt_or_ge j m with h2 | h2
              · exfalso
                have h3 : upto rs (j + 1) ≤ upto rs m := flatF_mono rs (show j + 1 ≤ m by omega)
                omega
              · omega
            clear hm3
            subst hjm
            obtain ⟨T, hT⟩ : ∃ T, rs.take j = T := ⟨_, rfl⟩
            obtain ⟨N, hN2⟩ : ∃ N, upto rs j = N := ⟨_, rfl⟩
            have hN3 : (flatF (rs.take j)).length = N := hN2
            rw [hN3, hT] at hm4
            rw [hT] at htm hmb
            rw [hN2]
            have hR3 := Lib.hid (show RecsAt wr (vs.take j) T by rw [← hT]; exact hR2.out.takeB j)
            have hV3 := Lib.hid (hV.out.take j)
            clear hN2 hN3 hT hjq
            go_wp2_with fail
            refine (cut_any O q e ((flatF rs).take q) (T, N) hm4.out hqF.out (by omega) q2 (by rw [hqF.out]; omega) (fun y hy => hFb.out y (List.mem_of_mem_take hy)) hOn.out _ (by exact takeU8 hOh.out _)).mono ?_
            rintro e' w5 ⟨v, rfl, A5, c5, ws, rfl, ho5, hrec5, hb5⟩
            have hb5' : Below wr.heap.size wr w5 := bnext (below_drewN (Below.refl wr.heap.size wr) n2) hb5
            have h5 := Lib.hid (Has.of_own ho5)
            have hr5 := Lib.hid hrec5.at
            have hV5 := Lib.hid (hV3.out.next hb5')
            have hR5 := Lib.hid (hR3.out.next hb5')
            clear ho5 hrec5
            go_wp2_with fail
            refine (sameBytes_any A5 A _ _ c5 c T T ws (vs.take j) rfl htm.out (by rw [htm.out]; unfold maxLen; omega) (by unfold maxLen; omega) hmb.out hmb.out _ (by exact h5.out) (by exact hr5.out) (by exact hV5.out) (by exact hR5.out)).mono ?_
            rintro e' w6 ⟨rfl, n6, rfl⟩
            rw [decide_eq_true (rfl : T = T)]
            go_wp2_with fail
            go_ret
            exact R1.mk rfl (below_drewN (bnext hb2 hb5') _)
end Go.Proofs.Ytkcfhfplppdnnaa
