/- The walk of the law LogFull: it returns true. Conditions: the argument fits its kind. -/
import Derived.Test.YtkcfhfplppdnnaaDisk
import Derived.Test.YtkcfhfplppdnnaaCut
import Derived.Test.YtkcfhfplppdnnaaLogs
namespace Go.Proofs.Ytkcfhfplppdnnaa
open Go.RowKit

set_option maxRecDepth 1000000 in
set_option maxHeartbeats 400000 in
theorem dnew_any (w : World) : Calls Try.prog 18 #[] w (R1 (.pointer (some ⟨w.heap.size, 0, none⟩)) (fun w' => w' = w.alloc (.cells #[.slice none 0 0, .int .i64 0] 78))) := by
  go_enter Try.func18, Try.ntmps18
  go_wp2
  go_ret
  exact R1.mk rfl rfl
theorem disk_new (w : World) : DiskAt (w.alloc (.cells #[.slice none 0 0, .int .i64 0] 78)) w.heap.size w.heap.size none 0 [] 0 := ⟨Blk.new _ _ _, ⟨rfl, .inl ⟨rfl, rfl⟩⟩⟩

set_option maxRecDepth 1000000 in
set_option maxHeartbeats 400000 in
theorem dbytes_any (base g : Nat) (A : Option Addr) (c : Nat) (b : List Nat) (s : Int) (hb : b.length ≤ 1000000) (w : World) (hD : DiskAt w base g A c b s) :
    Calls Try.prog 22 #[.pointer (some ⟨g, 0, none⟩)] w (RV fun v w' => ∃ A' c', v = .slice A' b.length c' ∧ w'.ownsRow w.heap.size 5 1 (.slice A' b.length c') b.length (u8s b) ∧ Below w.heap.size w w') := by
  have k0 : w.cell? ⟨g, 0, none⟩ = some (.slice A b.length c) := hD.1.cell 0
  have hA : A = none → b.length = 0 ∧ c = 0 := by
    intro hA
    obtain ⟨A', c', e, _, _, h1, h2⟩ := own_form hD.2
    injection e with e1 _ e2
    subst e1 e2
    exact ⟨by rcases h1 with h1 | h1; exact h1; exact absurd hA h1, h2 hA⟩
  have hA := Lib.hid hA
  have hu := Lib.hid (u8s_one b)
  have hH := Lib.hid (Has.of_own hD.2)
  go_enter Try.func22, Try.ntmps22
  go_wp2_with fail
  refine (cloneU8_any A b.length c (u8s b) (by rw [u8s_length]; omega) hu.out hA.out (by omega) _ (by exact hH.out)).mono ?_
  rintro e w1 ⟨v, rfl, A1, c1, rfl, ho1, hb1⟩
  have ho1 := Lib.hid ho1
  go_wp2_with fail
  go_ret
  exact RV.mk ⟨A1, c1, rfl, ho1.out, hb1⟩

theorem frameL_bytes' {r : List Nat} (h : Bytes r) : Bytes (frameL r) := by
  unfold frameL
  intro x hx
  rcases List.mem_append.1 hx with hx | hx
  · rcases List.mem_append.1 hx with hx | hx
    · exact putL_bytes _ x hx
    · exact h x hx
  · exact be8_bytes _ x hx
def ApartB (A O : Option Addr) : Prop := ∀ k, A.map Addr.block = some k → O.map Addr.block = some k → False

set_option maxRecDepth 1000000 in
set_option maxHeartbeats 4000000 in
theorem logFull_true (w : World) (A : Option Addr) (c : Nat) (rs : List (List Nat)) (vs : List Value) (hrb : ∀ r ∈ rs, Bytes r) (hlc : rs.length ≤ c) (hc : c ≤ maxLen) (_ : A = none → c = 0) (h : Has w w.heap.size A vs) (hrec : RecsAt w vs rs) (hr : rs.length ≤ 5864062014634) :
    Calls Try.prog 4 #[.slice A rs.length c] w (R1 (.bool true) (Below w.heap.size w)) := by
  have hrb := Lib.hid hrb
  have hrec := Lib.hid hrec
  go_enter Try.func4, Try.ntmps4
  go_wp2_with fail
  refine (logs_true _).mono ?_
  rintro e w1 ⟨rfl, hb1⟩
  go_wp2_with fail
  refine (dnew_any _).mono ?_
  rintro e w2 ⟨rfl, rfl⟩
  have hD0 := Lib.hid (disk_new w1)
  have hb2 : Below w.heap.size w (w1.alloc (.cells #[.slice none 0 0, .int .i64 0] 78)) := hb1.alloc hb1.size _
  have hgb : w.heap.size ≤ w1.heap.size := hb1.size
  obtain ⟨g, hg⟩ : ∃ g, w1.heap.size = g := ⟨_, rfl⟩
  rw [hg] at hD0 hgb
  rw [hg]
  generalize w1.alloc (.cells #[.slice none 0 0, .int .i64 0] 78) = w2 at hD0 hb2 ⊢
  clear hg hb1
  go_wp2_with fail
  go_loopw [4, 15] (fun v i wr => ∃ (k : Nat) (O : Option Addr) (e : Nat) (D : Option Addr) (dc : Nat) (M : List Nat), k ≤ rs.length ∧ M.length ≤ 30000 ∧ Hid (Bytes M) ∧ i = .int .i64 (k : Nat) ∧ v = .slice O M.length e ∧ Hid (DiskAt wr g g D dc M 0) ∧ Hid (wr.ownsRow g 5 1 (.slice O M.length e) M.length (u8s M)) ∧ Hid (ApartB D O) ∧ Below w.heap.size w wr) (fun _ i _ => rs.length + 5 - (intOf i).toNat)
  case atStart => exact ⟨0, none, 0, none, 0, [], by omega, by simp, Lib.hid (by intro x hx; simp at hx), rfl, rfl, hD0, Lib.hid ⟨rfl, .inl ⟨rfl, rfl⟩⟩, Lib.hid (by intro k hk; cases hk), hb2⟩
  case round =>
    obtain ⟨k, O, e, D, dc, M, hk, hM, hMb, rfl, rfl, hD, hown, hap, hbr⟩ := hrel
    have hbs := hbr.size
    have hgl : g < wr.heap.size := hD.out.1.lt
    by_cases hlt : (k : Int) < (rs.length : Int)
    · obtain ⟨u, hu, A3, c3, rfl, h31, h32, h33, h34⟩ := hrec.out.get (show k < rs.length by omega)
      obtain ⟨ad, rfl, _, c0⟩ := (h.below hbr).at hu
      obtain ⟨R, hR⟩ : ∃ R, at_ rs k = R := ⟨_, rfl⟩
      have hRm : R ∈ rs := by rw [← hR]; exact at_mem (by omega)
      have hRb := hrb.out R hRm
      rw [hR] at c0 h31 h34
      have hRl : R.length ≤ maxLen := Nat.le_trans h31 h32
      have h34 := Lib.hid (h34.next hbr)
      clear hR hu hRm
      have hcase : (2000 < R.length) ∨ (R.length ≤ 2000 ∧ 30000 < M.length + (frameL R).length) ∨ (R.length ≤ 2000 ∧ M.length + (frameL R).length ≤ 30000) := by omega
      rcases hcase with h1 | ⟨h1, h2⟩ | ⟨h1, h2⟩
      · have hz := Lib.hid (show appN M R = 2 by unfold appN; rw [if_pos h1])
        have hf := Lib.hid (show frameN R = ([], 2) by unfold frameN; rw [if_pos h1])
        clear h1
        go_wp2_with fail
        refine (frame_any A3 _ c3 R rfl hRl hRb _ (by exact h34.out)).mono ?_
        rw [hf.out]
        rintro e' w3 ⟨v, rfl, A4, c4, rfl, ho4, hb3⟩
        clear ho4
        have hD3 : DiskAt w3 g g D dc M 0 := ⟨hD.out.1.next hb3, own_next hD.out.2 hb3⟩
        have h35 := Lib.hid (h34.out.next hb3)
        go_wp2_with fail
        refine (dapp_no g g D dc M 0 hM A3 _ c3 R rfl hRl hRb 2 hz.out (by decide) _ (by exact hD3) (by exact h35.out)).mono ?_
        rintro e' w4 ⟨rfl, hb4⟩
        have hb34 := bnext hb3 hb4
        go_wp2_with fail
        go_roundw
        case rel => exact ⟨k + 1, O, e, D, dc, M, by omega, hM, hMb, by go_num, rfl, Lib.hid ⟨hD.out.1.next hb34, own_next hD.out.2 hb34⟩, Lib.hid (own_next hown.out hb34), hap, bnext hbr hb34⟩
        case measure => simp [intOf]; omega
      · have hz := Lib.hid (show appN M R = 9 by unfold appN; rw [if_neg (by omega), if_pos h2])
        have hf := Lib.hid (show frameN R = (frameL R, 0) by unfold frameN; rw [if_neg (by omega)])
        have hfl : (frameL R).length ≤ 2018 := by
          have := putL_len10 (show R.length < 18446744073709551616 by omega)
          unfold frameL; rw [List.length_append, List.length_append, be8_len]; omega
        have h2' : (30000 : Int) < (M.length : Int) + ((frameL R).length : Int) := by omega
        clear h1 h2
        go_wp2_with fail
        refine (frame_any A3 _ c3 R rfl hRl hRb _ (by exact h34.out)).mono ?_
        rw [hf.out]
        rintro e' w3 ⟨v, rfl, A4, c4, rfl, ho4, hb3⟩
        clear ho4
        have hD3 : DiskAt w3 g g D dc M 0 := ⟨hD.out.1.next hb3, own_next hD.out.2 hb3⟩
        have h35 := Lib.hid (h34.out.next hb3)
        go_wp2_with fail
        refine (dapp_no g g D dc M 0 hM A3 _ c3 R rfl hRl hRb 9 hz.out (by decide) _ (by exact hD3) (by exact h35.out)).mono ?_
        rintro e' w4 ⟨rfl, hb4⟩
        have hb34 := bnext hb3 hb4
        go_wp2_with fail
        go_roundw
        case rel => exact ⟨k + 1, O, e, D, dc, M, by omega, hM, hMb, by go_num, rfl, Lib.hid ⟨hD.out.1.next hb34, own_next hD.out.2 hb34⟩, Lib.hid (own_next hown.out hb34), hap, bnext hbr hb34⟩
        case measure => simp [intOf]; omega
      · have hz := Lib.hid (show appN M R = 0 by unfold appN; rw [if_neg (by omega), if_neg (by omega)])
        have hf := Lib.hid (show frameN R = (frameL R, 0) by unfold frameN; rw [if_neg (by omega)])
        have h2' : (M.length : Int) + ((frameL R).length : Int) ≤ 30000 := by omega
        clear h1
        go_wp2_with fail
        refine (frame_any A3 _ c3 R rfl hRl hRb _ (by exact h34.out)).mono ?_
        rw [hf.out]
        rintro e' w3 ⟨v, rfl, A4, c4, rfl, ho4, hb3⟩
        have hD3 : DiskAt w3 g g D dc M 0 := ⟨hD.out.1.next hb3, own_next hD.out.2 hb3⟩
        have h35 := Lib.hid (h34.out.next hb3)
        have hown3 := own_next hown.out hb3
        have ho4 := Lib.hid ho4
        have hgw3 : g ≤ w3.heap.size := by have := hb3.size; omega
        go_wp2_with fail
        refine (dapp_yes g g D dc M 0 A3 _ c3 R rfl hRl hRb hz.out _ hgw3 (by exact hD3) (by exact h35.out)).mono ?_
        rintro e' w4 ⟨rfl, D', dc', hD4, hnew, hmod⟩
        have hDb := own_block hD.out.2
        have hOb := own_block hown.out
        have hFb := own_block ho4.out
        have hown4 := own_mod2 hown3 hmod (fun q hq => ⟨fun hqg => own_row_ne2 hD3.1 hown3 (by decide) (by rw [hq, hqg]), fun hqd => hap.out q hqd.symm (ob_map hq)⟩)
        have hF4 := own_mod2 ho4.out hmod (fun q hq => by
          have h1 := (hFb q hq).1
          exact ⟨by omega, fun hqd => by have := (hDb q (map_ob hqd.symm)).2; omega⟩)
        have hF4 := Lib.hid (Has.of_own hF4)
        have hap4 : ApartB D' O := by
          intro q hq ho
          rcases hnew q hq with h3 | h3
          · exact hap.out q h3 ho
          · have := (hOb q (map_ob ho)).2
            have := hb3.size
            omega
        have hap4 := Lib.hid hap4
        have hw34 := hb3.size
        have hw4 := hmod.size
        have hbel4 : Below w.heap.size w w4 := (bnext hbr hb3).trans (hmod.below (by omega) hgb (fun q hq => by have := (hDb q (map_ob hq)).1; omega))
        have hD4 := Lib.hid hD4
        clear hnew hmod
        have hu1 := Lib.hid (u8s_one (frameL R))
        have hul := Lib.hid (show (u8s (frameL R)).length = (frameL R).length * 1 by rw [u8s_length]; omega)
        go_wp2_with (at_builtin; refine wpList_spread2 rfl _ _ _ rfl elU8 rfl hown4 rfl (by exact hF4.out) ?_ ?k1 ?k2 ?k3 ?k4 ?k5; intro A5 c5 w5 ho5 hgrow hb5 hblk)
        case k1 => exact hul.out
        case k2 => exact hu1.out
        case k3 => omega
        case k4 => unfold maxLen; omega
        case k5 => omega
        have hgrow : w4.grownBy w5 (Value.slice O M.length e).ownBlock := hgrow
        have hblk : (Value.slice A5 (M.length + (frameL R).length) c5).ownBlock = (Value.slice O M.length e).ownBlock ∨ (Value.slice A5 (M.length + (frameL R).length) c5).ownBlock = some w4.heap.size := hblk
        have hD5 : DiskAt w5 g g D' dc' (M ++ frameL R) 0 := ⟨hD4.out.1.grown hgrow (own_row_ne2 hD4.out.1 hown4 (by decide)), own_keep hD4.out.2 hgrow (fun q hq hq2 => hap4.out q (ob_map hq) (ob_map hq2.symm))⟩
        have hap5 : ApartB D' A5 := by
          intro q hq ho
          have ho' := map_ob (n := M.length + (frameL R).length) (c := c5) ho
          rcases hblk with h3 | h3
          · rw [h3] at ho'
            exact hap4.out q hq (ob_map ho')
          · rw [h3] at ho'
            injection ho' with ho'
            have := (own_block hD4.out.2 q (map_ob hq)).2
            omega
        have ho5 := Lib.hid ho5
        go_roundw
        case rel => exact ⟨k + 1, A5, c5, D', dc', M ++ frameL R, by omega, by rw [List.length_append]; omega, Lib.hid (by intro x hx; rcases List.mem_append.1 hx with hx | hx; exact hMb.out x hx; exact frameL_bytes' hRb x hx), by go_num, by rw [List.length_append], Lib.hid hD5, Lib.hid (by rw [List.length_append, u8s_appd]; exact ho5.out), Lib.hid hap5, hbel4.trans (hb5.mono hgb)⟩
        case measure => simp [intOf]; omega
    · have hm := Lib.hid (Has.of_own hown.out)
      go_wp2_with fail
      refine (dbytes_any g g D dc M 0 (by omega) _ (by exact hD.out)).mono ?_
      rintro e' w3 ⟨v, rfl, A4, c4, rfl, ho4, hb3⟩
      have h4 := Lib.hid (Has.of_own ho4); clear ho4
      have hm3 := Lib.hid (hm.out.next hb3)
      go_wp2_with fail
      refine (bytesEqual_any A4 O _ _ c4 e M M hMb.out hMb.out rfl rfl _ (by exact h4.out) (by exact hm3.out)).mono ?_
      rintro e' w4 ⟨rfl, n4, rfl⟩
      rw [decide_eq_true (rfl : M = M)]
      go_wp2_with fail
      go_ret
      exact R1.mk rfl (below_drewN (bnext hbr hb3) _)
end Go.Proofs.Ytkcfhfplppdnnaa
