/- What Frame of package log makes. Conditions: the record's bytes are bytes. -/
import Derived.Test.YtkcfhfplppdnnaaOf
import Derived.Test.YtkcfhfplppdnnaaBits
namespace Go.Proofs.Ytkcfhfplppdnnaa
open Go.RowKit

def be8 (h : Nat) : List Nat := (List.range 8).map fun j => h / 2 ^ (56 - 8 * j) % 256
theorem be8_len (h : Nat) : (be8 h).length = 8 := by simp [be8]
theorem be8_bytes (h : Nat) : Bytes (be8 h) := by
  intro b hb
  simp only [be8, List.mem_map] at hb
  obtain ⟨i, _, rfl⟩ := hb
  exact Nat.mod_lt _ (by decide)
theorem be8_step (h : Nat) {j : Nat} (hj : j < 8) : (be8 h).take (j + 1) = (be8 h).take j ++ [h / 2 ^ (56 - 8 * j) % 256] := by
  rw [List.take_add_one, List.getElem?_eq_getElem (by rw [be8_len]; exact hj)]
  simp [be8]
def frameL (rec : List Nat) : List Nat := putL rec.length ++ rec ++ be8 (ofN rec.length rec)
def frameN (rec : List Nat) : List Nat × Int := if 2000 < rec.length then ([], 2) else (frameL rec, 0)
/-- bytes and an error, the bytes a row of the call's own -/
def BytesP (r : List Nat × Int) (w : World) (v : Value) (w' : World) : Prop :=
  ∃ A c, v = .tuple #[.slice A r.1.length c, .int .i64 r.2] ∧ w'.ownsRow w.heap.size 5 1 (.slice A r.1.length c) r.1.length (u8s r.1) ∧ Below w.heap.size w w'
theorem u8s_appd (l k : List Nat) : u8s (l ++ k) = u8s l ++ u8s k := by simp [u8s]
theorem u8s_length (l : List Nat) : (u8s l).length = l.length := by simp [u8s]
theorem u8_app1 (l : List Nat) (x : Nat) : u8s (l ++ [x]) = u8s l ++ (#[.int .u8 (x : Nat)] : Array Value).toList := by simp [u8s, u8v]
theorem be_val (h k : Nat) : IntKind.u8.wrap ((h : Int) / 2 ^ k) = ((h / 2 ^ k % 256 : Nat) : Int) := by
  have e : (h : Int) / 2 ^ k = ((h / 2 ^ k : Nat) : Int) := by rw [Int.natCast_ediv, Int.natCast_pow]; rfl
  rw [e, IntKind.wrap_u8]; omega

set_option maxRecDepth 1000000 in
set_option maxHeartbeats 2000000 in
theorem frame_any (A : Option Addr) (n c : Nat) (l : List Nat) (hn : l.length = n) (hl : l.length ≤ maxLen) (hb : Bytes l) (w : World) (h : Has w w.heap.size A (u8s l)) :
    Calls Try.prog 19 #[.slice A n c] w (RV (BytesP (frameN l) w)) := by
  subst hn
  by_cases h2 : (2000 : Int) < (l.length : Int)
  · have E := Lib.hid (show frameN l = ([], 2) by unfold frameN; rw [if_pos (by omega)])
    rw [E.out]
    go_enter Try.func19, Try.ntmps19
    go_wp2_with fail
    go_ret2
    exact RV.mk ⟨none, 0, rfl, ⟨rfl, .inl ⟨rfl, rfl⟩⟩, Below.refl _ _⟩
  · have E := Lib.hid (show frameN l = (frameL l, 0) by unfold frameN; rw [if_neg (by omega)])
    rw [E.out]
    have hle : l.length ≤ 2000 := by omega
    have hp10 := putL_len10 (show l.length < 18446744073709551616 by omega)
    have hu1 := Lib.hid (u8s_one l)
    have hul := Lib.hid (show (u8s l).length = l.length * 1 by rw [u8s_length]; omega)
    go_enter Try.func19, Try.ntmps19
    go_wp2_with fail
    refine (put_any l.length (by omega) _).mono ?_
    rintro e w1 ⟨v, rfl, A1, c1, rfl, ho1, hb1⟩
    have hr1 := Lib.hid (h.next hb1)
    have hbs1 := hb1.size
    go_wp2_with (at_builtin; refine wpList_spread rfl _ _ _ rfl elU8 rfl ho1 rfl (by exact hr1.out) ?_ ?k1 ?k2 ?k3 ?k4 ?k5; intro A2 c2 w2 ho2 hgrow hb2)
    case k1 => exact hul.out
    case k2 => exact hu1.out
    case k3 => omega
    case k4 => unfold maxLen; omega
    case k5 => exact hbs1
    have hbw2 := hb1.trans hb2
    have hr2 := h.next hbw2
    have ho2 := Lib.hid ho2
    refine (of_any' l.length (by omega) A _ c l rfl hl hb _ (by exact hr2)).mono ?_
    rintro e w3 ⟨rfl, n3, rfl⟩
    obtain ⟨H, hH⟩ : ∃ H, ofN l.length l = H := ⟨_, rfl⟩
    obtain ⟨F, hF⟩ : ∃ F, putL l.length ++ l = F := ⟨_, rfl⟩
    have HE := Lib.hid (show frameL l = F ++ be8 H by unfold frameL; rw [hH, hF])
    have hP : (putL l.length).length + l.length = F.length := by rw [← hF, List.length_append]
    have hFl : F.length ≤ 2010 := by omega
    rw [hP, ← u8s_appd, hF] at ho2
    rw [hP, hH]
    clear hP hF hH hp10 hr1 hu1 hul ho1
    go_wp2_with fail
    have hbw3 : Below w.heap.size w (w2.drewN n3) := below_drewN hbw2 n3
    have ho3 := own_drewN ho2.out n3
    clear ho2 hbw2 hb2 hgrow
    generalize w2.drewN n3 = wo at hbw3 ho3 ⊢
    go_loopw [5, 7] (fun v i wr => ∃ (j : Nat) (O : Option Addr) (e : Nat), j ≤ 8 ∧ i = .int .i64 (56 - 8 * (j : Int)) ∧ v = .slice O (F.length + j) e ∧ wr.ownsRow w.heap.size 5 1 (.slice O (F.length + j) e) (F.length + j) (u8s (F ++ (be8 H).take j)) ∧ Below w.heap.size w wr) (fun _ i _ => (intOf i + 16).toNat)
    case atStart => exact ⟨0, A2, c2, by omega, rfl, rfl, by simpa using ho3, hbw3⟩
    case round =>
      obtain ⟨j, O, e, hj, rfl, rfl, hown, hbr⟩ := hrel
      have hbs := hbr.size
      rcases (show j < 8 ∨ j = 8 by omega) with hj8 | rfl
      · obtain ⟨k, hk⟩ : ∃ k : Nat, 56 - 8 * j = k := ⟨_, rfl⟩
        have hst := Lib.hid (be8_step H hj8)
        rw [hk] at hst
        have ek : (56 - 8 * (j : Int)) = (k : Int) := by omega
        rw [ek]
        have hv := be_val H k
        clear hk
        go_wp2_with (at_builtin; refine wpList_append1 rfl _ _ _ rfl elU8 rfl hown rfl rfl rfl ?_ ?k1 ?k2 ?k3 ?k4; intro A3 c3 w4 hown4 hgrow hb4)
        case k1 => first | rfl | (intro u hu; simp at hu; subst hu; rfl)
        case k2 => omega
        case k3 => unfold maxLen; omega
        case k4 => omega
        have hown4 := Lib.hid hown4
        go_roundw
        case rel => exact ⟨j + 1, A3, c3, by omega, int_eq (by omega), rfl, by rw [hst.out, ← List.append_assoc, u8_app1]; exact hown4.out, hbr.trans hb4⟩
        case measure => simp [intOf]; omega
      · have e8 : (be8 H).take 8 = be8 H := List.take_of_length_le (by rw [be8_len]; omega)
        rw [e8] at hown
        have hown := Lib.hid hown
        go_wp2_with fail
        go_ret2
        rw [HE.out]
        refine RV.mk ⟨O, e, ?_, ?_, hbr⟩
        · show Value.tuple #[.slice O (F.length + 8) e, .int .i64 0] = Value.tuple #[.slice O (F ++ be8 H).length e, .int .i64 0]
          rw [List.length_append, be8_len]
        · show wr.ownsRow w.heap.size 5 1 (.slice O (F ++ be8 H).length e) (F ++ be8 H).length (u8s (F ++ be8 H))
          rw [List.length_append, be8_len]; exact hown.out
end Go.Proofs.Ytkcfhfplppdnnaa
