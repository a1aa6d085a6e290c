/- The walk of the law LogSync: it returns true. Conditions: the arguments fit their kinds. -/
import Derived.Test.YtkcfhfplppdnnaaDisk2
import Derived.Test.YtkcfhfplppdnnaaLawLogF
namespace Go.Proofs.Ytkcfhfplppdnnaa
open Go.RowKit

theorem flat_bytes {ts : List (List Nat)} (h : ∀ r ∈ ts, Bytes r) : Bytes (flatF ts) := by
  intro x hx
  unfold flatF at hx
  simp only [List.mem_flatten, List.mem_map] at hx
  obtain ⟨l, ⟨r, hr, rfl⟩, hx⟩ := hx
  exact frameL_bytes' (h r hr) x hx
theorem appN_or (b rec : List Nat) : (appN b rec = 0 ∧ rec.length ≤ 2000 ∧ b.length + (frameL rec).length ≤ 30000) ∨ appN b rec ≠ 0 := by
  unfold appN
  by_cases h1 : 2000 < rec.length
  · right; rw [if_pos h1]; decide
  · by_cases h2 : 30000 < b.length + (frameL rec).length
    · right; rw [if_neg h1, if_pos h2]; decide
    · left; rw [if_neg h1, if_neg h2]; exact ⟨rfl, by omega, by omega⟩
theorem sl_map {D : Option Addr} {n c : Nat} : (Value.slice D n c).ownBlock = D.map Addr.block := by cases D <;> rfl

set_option maxRecDepth 1000000 in
set_option maxHeartbeats 4000000 in
theorem logSync_true (w : World) (A : Option Addr) (c : Nat) (rs : List (List Nat)) (vs : List Value) (hrb : ∀ r ∈ rs, Bytes r) (_ : rs.length ≤ c) (_ : c ≤ maxLen) (_ : A = none → c = 0) (h : Has w w.heap.size A vs) (hrec : RecsAt w vs rs) (hr : rs.length ≤ 5864062014634)
    (n : Int) (hnb : -9223372036854775808 ≤ n ∧ n ≤ 9223372036854775807) :
    Calls Try.prog 13 #[.slice A rs.length c, .int .i64 n] w (R1 (.bool true) (Below w.heap.size w)) := by
  rcases (show (12 : Int) < (rs.length : Int) ∨ ((rs.length : Int) ≤ 12 ∧ n < 0) ∨ ((rs.length : Int) ≤ 12 ∧ 0 ≤ n ∧ 5 < n) ∨ ((rs.length : Int) ≤ 12 ∧ 0 ≤ n ∧ n ≤ 5) by omega) with h1 | ⟨h1, h2⟩ | ⟨h1, h2, h3⟩ | ⟨h1, h2, h3⟩
  all_goals try (
    go_enter Try.func13, Try.ntmps13
    go_wp2_with fail
    refine (logs_true _).mono ?_
    rintro e w1 ⟨rfl, hb1⟩
    go_wp2_with fail
    go_ret
    exact R1.mk rfl hb1)
  obtain ⟨n, rfl⟩ := Int.eq_ofNat_of_zero_le h2
  have hrb := Lib.hid hrb
  have hrec := Lib.hid hrec
  go_enter Try.func13, Try.ntmps13
  go_wp2_with fail
  refine (logs_true _).mono ?_
  rintro e w1 ⟨rfl, hb1⟩
  go_wp2_with fail
  refine (dnew_any _).mono ?_
  rintro e w2 ⟨rfl, rfl⟩
  have hD0 := Lib.hid (disk_new w1)
  have hb2 : Below w.heap.size w (w1.alloc (.cells #[.slice none 0 0, .int .i64 0] 78)) := hb1.alloc hb1.size _
  have hgb : w.heap.size ≤ w1.heap.size := hb1.size
  obtain ⟨g, hg⟩ : ∃ g, w1.heap.size = g := ⟨_, rfl⟩
  rw [hg] at hD0 hgb
  rw [hg]
  generalize w1.alloc (.cells #[.slice none 0 0, .int .i64 0] 78) = w2 at hD0 hb2 ⊢
  clear hg hb1
  go_wp2_with fail
  go_loopw [25] (fun i wr => ∃ (k : Nat) (D : Option Addr) (dc : Nat) (ts : List (List Nat)), k ≤ rs.length ∧ (flatF ts).length ≤ 30000 ∧ Hid (∀ r ∈ ts, Bytes r ∧ r.length ≤ 2000) ∧ i = .int .i64 (k : Nat) ∧ Hid (DiskAt wr g g D dc (flatF ts) 0) ∧ Below w.heap.size w wr) (fun i _ => rs.length + 5 - (intOf i).toNat)
  case atStart => exact ⟨0, none, 0, [], by omega, by simp [flatF], Lib.hid (by simp), rfl, hD0, hb2⟩
  case round =>
    obtain ⟨k, D, dc, ts, hk, hM, hts, rfl, hD, hbr⟩ := hrel
    have hbs := hbr.size
    have hgl : g < wr.heap.size := hD.out.1.lt
    by_cases hlt : (k : Int) < (rs.length : Int)
    · obtain ⟨u, hu, A3, c3, rfl, h31, h32, h33, h34⟩ := hrec.out.get (show k < rs.length by omega)
      obtain ⟨ad, rfl, _, c0⟩ := (h.below hbr).at hu
      obtain ⟨R, hR⟩ : ∃ R, at_ rs k = R := ⟨_, rfl⟩
      have hRm : R ∈ rs := by rw [← hR]; exact at_mem (by omega)
      have hRb := hrb.out R hRm
      rw [hR] at c0 h31 h34
      have hRl : R.length ≤ maxLen := Nat.le_trans h31 h32
      have h34 := Lib.hid (h34.next hbr)
      clear hR hu hRm
      rcases appN_or (flatF ts) R with ⟨hz, hR2, hsum⟩ | hz
      · have hz := Lib.hid hz
        have hRb2 := Lib.hid hRb
        go_wp2_with fail
        refine (dapp_yes g g D dc (flatF ts) 0 A3 _ c3 R rfl hRl hRb hz.out _ (by omega) (by exact hD.out) (by exact h34.out)).mono ?_
        rintro e' w4 ⟨rfl, D', dc', hD4, hnew, hmod⟩
        have hDb := own_block hD.out.2
        have hbel4 : Below w.heap.size w w4 := hbr.trans (hmod.below hbs hgb (fun q hq => by have := (hDb q (map_ob hq)).1; omega))
        have e5 : flatF (ts ++ [R]) = flatF ts ++ frameL R := by simp [flatF]
        have E5 := Lib.hid e5; clear e5
        have hD4 := Lib.hid hD4
        clear hnew hmod
        go_wp2_with fail
        go_roundw
        case rel => exact ⟨k + 1, D', dc', ts ++ [R], by omega, by rw [E5.out, List.length_append]; omega, Lib.hid (by intro r hr; rcases List.mem_append.1 hr with hr | hr; exact hts.out r hr; simp at hr; subst hr; exact ⟨hRb2.out, hR2⟩), by go_num, Lib.hid (by rw [E5.out]; exact hD4.out), hbel4⟩
        case measure => simp [intOf]; omega
      · obtain ⟨z, hzz⟩ : ∃ z, appN (flatF ts) R = z := ⟨_, rfl⟩
        rw [hzz] at hz
        have hzz := Lib.hid hzz
        have hz := Lib.hid hz
        go_wp2_with fail
        refine (dapp_no g g D dc (flatF ts) 0 hM A3 _ c3 R rfl hRl hRb z hzz.out hz.out _ (by exact hD.out) (by exact h34.out)).mono ?_
        rintro e' w4 ⟨rfl, hb4⟩
        go_wp2_with fail
        go_roundw
        case rel => exact ⟨k + 1, D, dc, ts, by omega, hM, hts, by go_num, Lib.hid ⟨hD.out.1.next hb4, own_next hD.out.2 hb4⟩, bnext hbr hb4⟩
        case measure => simp [intOf]; omega
    · obtain ⟨b, hb⟩ : ∃ b, flatF ts = b := ⟨_, rfl⟩
      have hbb : Bytes b := by rw [← hb]; exact flat_bytes (fun r hr => (hts.out r hr).1)
      have hcut : cutN b = (ts, b.length) := by rw [← hb]; exact cut_flat (fun r hr => (hts.out r hr).2)
      rw [hb] at hM
      have hD := hD.out
      rw [hb] at hD
      clear hb hts
      have hbb := Lib.hid hbb
      have hcut := Lib.hid hcut
      have hD := Lib.hid hD
      go_wp2_with fail
      refine (dsync_any g g D dc b 0 _ (by exact hD.out)).mono ?_
      rintro e' w3 ⟨rfl, rfl⟩
      have hD3 := disk_sync hD.out
      have hb3 : Below w.heap.size w (wr.setCell ⟨g, 1, none⟩ (.int .i64 b.length)) := hbr.setCell hgb _
      generalize wr.setCell ⟨g, 1, none⟩ (.int .i64 b.length) = w3 at hD3 hb3 ⊢
      clear hD
      have hD3 := Lib.hid hD3
      go_wp2_with fail
      refine (dbytes_any g g D dc b _ (by omega) _ (by exact hD3.out)).mono ?_
      rintro e' w4 ⟨v, rfl, A4, c4, rfl, ho4, hb4⟩
      have ho4 := Lib.hid ho4
      have hD4 : DiskAt w4 g g D dc b b.length := ⟨hD3.out.1.next hb4, own_next hD3.out.2 hb4⟩
      have hD4 := Lib.hid hD4
      have hbw4 := bnext hb3 hb4
      have hg3 : g < w3.heap.size := hD3.out.1.lt
      go_wp2_with fail
      go_loopw [38] (fun i wq => ∃ (k : Nat), k ≤ n ∧ i = .int .i64 (k : Nat) ∧ Hid (DiskAt wq g g D dc b b.length) ∧ Hid (wq.ownsRow w3.heap.size 5 1 (.slice A4 b.length c4) b.length (u8s b)) ∧ Below w.heap.size w wq) (fun i _ => n + 5 - (intOf i).toNat)
      case atStart => exact ⟨0, by omega, rfl, hD4, ho4, hbw4⟩
      case round =>
        obtain ⟨k, hk, rfl, hDq, hoq, hbq⟩ := hrel
        have hqs := hbq.size
        by_cases hlt : (k : Int) < (n : Int)
        · have htk : cutN (b.take (b.length + 0)) = (ts, b.length) := by rw [Nat.add_zero, List.take_length]; exact hcut.out
          have hlt1 : (b.length : Int) - (b.length : Int) < 1 := by omega
          go_wp2_with fail
          refine (dcrash_yes g g D dc b b.length (Nat.le_refl _) hbb.out (by omega) 0 (by omega) b.length ts htk (Nat.le_refl _) _ (by exact hDq.out)).mono ?_
          rintro e' w5 ⟨rfl, hD5, hm5⟩
          rw [List.take_length] at hD5
          have hD5 := Lib.hid hD5
          have ho5 := Lib.hid (own_mod2 hoq.out hm5 (fun q hq => ⟨by have := (own_block hoq.out q hq).1; omega, by intro e; cases e⟩))
          have hb5 : Below w.heap.size w w5 := hbq.trans (hm5.below hqs hgb (fun q hq => by cases hq))
          go_wp2_with fail
          refine (dcrash_no g g D dc b b.length (Nat.le_refl _) (by omega) 1 (by omega) (.inr hlt1) _ (by exact hD5.out)).mono ?_
          rintro e' w6 ⟨rfl, n6, rfl⟩
          go_wp2_with fail
          go_roundw
          case rel => exact ⟨k + 1, by omega, by go_num, Lib.hid ⟨hD5.out.1.drewN _, own_drewN hD5.out.2 _⟩, Lib.hid (own_drewN ho5.out _), below_drewN hb5 _⟩
          case measure => simp [intOf]; omega
        · have hm := Lib.hid (Has.of_own hoq.out)
          go_wp2_with fail
          refine (dbytes_any g g D dc b _ (by omega) _ (by exact hDq.out)).mono ?_
          rintro e' w5 ⟨v, rfl, A6, c6, rfl, ho6, hb6⟩
          have h6 := Lib.hid (Has.of_own ho6); clear ho6
          have hm3 := Lib.hid (hm.out.next hb6)
          go_wp2_with fail
          refine (bytesEqual_any A6 A4 _ _ c6 c4 b b hbb.out hbb.out rfl rfl _ (by exact h6.out) (by exact hm3.out)).mono ?_
          rintro e' w7 ⟨rfl, n7, rfl⟩
          rw [decide_eq_true (rfl : b = b)]
          go_wp2_with fail
          go_ret
          exact R1.mk rfl (below_drewN (bnext hbq hb6) _)
end Go.Proofs.Ytkcfhfplppdnnaa
