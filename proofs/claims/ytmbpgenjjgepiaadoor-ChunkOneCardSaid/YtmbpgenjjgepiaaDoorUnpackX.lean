
/- What Unpack of package xor answers. Conditions: the bits are at most 2 to the 50th; the table of de Bruijn lies in its cells. -/
import Derived.Test.YtmbpgenjjgepiaaDoorTurnX
import Derived.Test.YtmbpgenjjgepiaaDoorEqU8
namespace Go.Proofs.YtmbpgenjjgepiaaDoor
open Go.RowKit

theorem elU64 : Elem Tryd.prog 38 41 1 8 := Elem.mk' (z := .int .u64 0) Tryd.underlying38 (by kernel_rfl) rfl (by decide)
theorem u64s_app1 (l : List Nat) (x : Nat) : u64s (l ++ [x]) = u64s l ++ (#[.int .u64 (x : Int)] : Array Value).toList := by simp [u64s, u64v]
theorem xpack_any' (A : Option Addr) (n c : Nat) (l : List Nat) (r : (List Nat × Int) × Int) (hr : packXN l = r) (hn : l.length = n) (hl : l.length ≤ maxLen) (hi : U64all l) (w : World) (h : Has w w.heap.size A (u64s l)) (ht : DebAt w) (hw0 : 1 < w.heap.size) :
    Calls Tryd.prog 14 #[.slice A n c] w (RV (BitsP r w)) := by
  subst hr hn
  exact xpack_any A c l hl hi w h ht hw0
def U64P (r : List Nat × Int) (w : World) (v : Value) (w' : World) : Prop :=
  ∃ A c, v = .tuple #[.slice A r.1.length c, .int .i64 r.2] ∧ w'.ownsRow w.heap.size 41 1 (.slice A r.1.length c) r.1.length (u64s r.1) ∧ Below w.heap.size w w'
set_option maxRecDepth 1000000 in
set_option maxHeartbeats 1000000 in
theorem xunpack_bad (A : Option Addr) (c : Nat) (l : List Nat) (N : Int) (hN : N ≤ 9223372036854775807) (hl : l.length ≤ 140737488355328) (hz : chkB l N ≠ 0) (w : World) (h : Has w w.heap.size A (u8s l)) :
    Calls Tryd.prog 18 #[.agg #[.slice A l.length c, .int .i64 N]] w (RV (U64P ([], 4) w)) := by
  have e4 : Hid (chkB l N = 4) := Lib.hid (by unfold chkB at hz ⊢; split at hz; exact absurd rfl hz; rw [if_neg (by assumption)])
  clear hz
  go_enter Tryd.func18, Tryd.ntmps18
  go_wp2_with fail
  refine (bcheck_any A c l N hN hl _ (by exact Has.allocA h _)).mono ?_
  rw [e4.out]
  rintro e w1 ⟨rfl, hb1⟩
  go_wp2_with fail
  go_ret2
  exact RV.mk ⟨none, 0, rfl, ⟨rfl, .inl ⟨rfl, rfl⟩⟩, ((Below.refl w.heap.size w).alloc (Nat.le_refl _) _).trans (hb1.mono (by simp))⟩

set_option maxRecDepth 1000000 in
set_option maxHeartbeats 4000000 in
theorem xunpack_any (A : Option Addr) (c : Nat) (bs : List Bool) (r : List Nat × Int) (hr : unxN bs = r) (hl : bs.length ≤ 1125899906842624) (w : World) (h : Has w w.heap.size A (u8s (packB bs))) (ht : DebAt w) (hw0 : 1 < w.heap.size) :
    Calls Tryd.prog 18 #[.agg #[.slice A (packB bs).length c, .int .i64 bs.length]] w (RV (U64P r w)) := by
  have hlp : (packB bs).length ≤ 140737488355328 := by rw [packB_len]; omega
  have e0 := Lib.hid (show chkB (packB bs) bs.length = 0 by unfold chkB; rw [if_pos ⟨by omega, by simpa using packB_ok bs⟩])
  have Hr := Lib.hid hr; clear hr
  obtain ⟨⟨many, p0, sh0⟩, hm0⟩ : ∃ r, tk bs (0, false) 16 = r := ⟨_, rfl⟩
  have hmany : many < 65536 := by have := tk_lt' (bs := bs) (s := (0, false)) (n := 16); rw [hm0] at this; exact this
  have hs0 : p0 ≤ bs.length := by have := tk_le (bs := bs) (s := (0, false)) (n := 16); rw [hm0] at this; exact this
  have hD0 := Lib.hid (show unxD bs = ([] ++ (unxR bs (many - 0) (decide (0 ≠ 0)) (p0, sh0) 0 (false, 0, 0)).1, (unxR bs (many - 0) (decide (0 ≠ 0)) (p0, sh0) 0 (false, 0, 0)).2) by unfold unxD; rw [hm0]; rfl)
  have Hm0 := Lib.hid hm0; clear hm0
  go_enter Tryd.func18, Tryd.ntmps18
  go_wp2_with fail
  refine (bcheck_any A c (packB bs) bs.length (by omega) hlp _ (by exact Has.allocA h _)).mono ?_
  rw [e0.out]
  rintro e w1 ⟨rfl, hb1⟩
  have kx1 : Blk w1 w.heap.size 43 #[.slice A (packB bs).length c, .int .i64 bs.length] := (Blk.new w _ _).next hb1
  have x0 : w1.cell? ⟨w.heap.size, 0, none⟩ = some (.slice A (packB bs).length c) := kx1.cell 0
  have x1 : w1.cell? ⟨w.heap.size, 1, none⟩ = some (.int .i64 bs.length) := kx1.cell 1
  have hbw : Below w.heap.size w w1 := ((Below.refl w.heap.size w).alloc (Nat.le_refl _) _).trans (hb1.mono (by simp))
  go_wp2_with fail
  obtain ⟨g, hg⟩ : ∃ g, w1.heap.size = g := ⟨_, rfl⟩
  have hR1 : RdAt (w1.alloc (.cells #[.slice A (packB bs).length c, .int .i64 bs.length, .int .i64 0, .bool false] 74)) w1.heap.size A c bs (0, false) := Blk.new _ _ _
  have hR2 : RdAt ((w1.alloc (.cells #[.slice A (packB bs).length c, .int .i64 bs.length, .int .i64 0, .bool false] 74)).alloc (.cells #[.bool false, .int .i64 0, .int .i64 0] 65)) w1.heap.size A c bs (0, false) := Blk.alloc hR1 _
  have hQ2 : Blk ((w1.alloc (.cells #[.slice A (packB bs).length c, .int .i64 bs.length, .int .i64 0, .bool false] 74)).alloc (.cells #[.bool false, .int .i64 0, .int .i64 0] 65)) (w1.heap.size + 1) 65 #[.bool false, .int .i64 0, .int .i64 0] := by
    have := Blk.new (w1.alloc (.cells #[.slice A (packB bs).length c, .int .i64 bs.length, .int .i64 0, .bool false] 74)) 65 #[.bool false, .int .i64 0, .int .i64 0]
    rwa [show (w1.alloc (.cells #[.slice A (packB bs).length c, .int .i64 bs.length, .int .i64 0, .bool false] 74)).heap.size = w1.heap.size + 1 by simp] at this
  have hgw : w.heap.size < w1.heap.size := kx1.lt
  have hb2 : Below w.heap.size w ((w1.alloc (.cells #[.slice A (packB bs).length c, .int .i64 bs.length, .int .i64 0, .bool false] 74)).alloc (.cells #[.bool false, .int .i64 0, .int .i64 0] 65)) := (hbw.alloc hbw.size _).alloc (hbw.alloc hbw.size _).size _
  have kx2 := (kx1.alloc (.cells #[.slice A (packB bs).length c, .int .i64 bs.length, .int .i64 0, .bool false] 74)).alloc (.cells #[.bool false, .int .i64 0, .int .i64 0] 65)
  rw [hg] at hR2 hgw hQ2
  rw [hg]
  clear hg kx1 x0 x1 hbw hb1 hR1
  generalize (w1.alloc (.cells #[.slice A (packB bs).length c, .int .i64 bs.length, .int .i64 0, .bool false] 74)).alloc (.cells #[.bool false, .int .i64 0, .int .i64 0] 65) = w2 at hR2 hQ2 hb2 kx2 ⊢
  have hH2 : Has w2 g A (u8s (packB bs)) := (h.below hb2).more (Nat.le_of_lt hgw)
  refine (tk_any A c bs (0, false) 16 _ rfl (many, (p0, sh0)) Hm0.out (by omega) g (by simp) hl _ (by exact hH2) (by exact hR2)).mono ?_
  rintro e w3 ⟨v, rfl, rfl, hR3, hon3⟩
  have hb3 : Below g w2 w3 := hon3.below (Nat.le_of_lt (Blk.lt hR2)) (Nat.le_refl _)
  have hR3 := Lib.hid hR3
  have hQ3 := Lib.hid (Blk.only hQ2 hon3 (by omega))
  have e1 : IntKind.i64.wrap (many : Int) = many := IntWalk.i64_in _ (by omega)
  clear hH2 hR2 hon3 hQ2
  obtain ⟨q, hq⟩ : ∃ q, g + 1 = q := ⟨_, rfl⟩
  rw [hq] at hQ3 ⊢
  have hgq : g < q := by omega
  go_wp2_with fail
  go_loopw [6, 7, 10] (fun v la i wr => ∃ (k : Nat) (ls : List Nat) (O : Option Addr) (e : Nat) (last : Nat) (W : WinZ) (p : Nat) (sh : Bool), k ≤ many ∧ i = .int .i64 (k : Nat) ∧ v = .slice O k e ∧ la = .int .u64 (last : Nat) ∧ p ≤ bs.length ∧ Hid (last < 18446744073709551616) ∧ Hid (WinZok W) ∧ Hid (ls.length = k) ∧ Hid (unxD bs = (ls ++ (unxR bs (many - k) (decide (k ≠ 0)) (p, sh) last W).1, (unxR bs (many - k) (decide (k ≠ 0)) (p, sh) last W).2)) ∧ Hid (U64all ls) ∧ Hid (wr.ownsRow (q + 1) 41 1 (.slice O k e) k (u64s ls)) ∧ Hid (RdAt wr g A c bs (p, sh)) ∧ Hid (Blk wr q 65 (winCZ W)) ∧ Below g w2 wr) (fun _ _ i _ => many + 5 - (intOf i).toNat)
  case atStart => exact ⟨0, [], none, 0, 0, (false, 0, 0), p0, sh0, by omega, rfl, rfl, rfl, hs0, Lib.hid (by decide), Lib.hid ⟨by decide, by decide, by decide⟩, Lib.hid rfl, hD0, Lib.hid (by intro x hx; simp at hx), Lib.hid ⟨rfl, .inl ⟨rfl, rfl⟩⟩, hR3, hQ3, hb3⟩
  case round =>
    obtain ⟨k, ls, O, e, last, W, p, sh, hk, rfl, rfl, rfl, hp, hla, hWo, hkl, hD, hI, hown, hR, hQ, hbr⟩ := hrel
    have hgl : g < wr.heap.size := Blk.lt hR.out
    have c3 : wr.cell? ⟨g, 3, none⟩ = some (.bool sh) := Blk.cell hR.out 3
    have hbx : Below w.heap.size w wr := hb2.trans (hbr.mono (Nat.le_of_lt hgw))
    have hHr := Lib.hid ((h.below hbx).more (Nat.le_of_lt hgw))
    have HTr := Lib.hid (ht.below hw0 hbx)
    by_cases hgo : (k : Int) < (many : Int) ∧ sh = false
    · obtain ⟨hlt, rfl⟩ := hgo
      obtain ⟨d, hd⟩ : ∃ d, many - k = d + 1 := ⟨many - k - 1, by omega⟩
      have Hd := Lib.hid hd; clear hd
      by_cases hk0 : k = 0
      · subst hk0
        obtain ⟨⟨v1, p1, sh1⟩, hv1⟩ : ∃ r, tk bs (p, false) 64 = r := ⟨_, rfl⟩
        have hp1 : p1 ≤ bs.length := by have := tk_le (bs := bs) (s := (p, false)) (n := 64); rw [hv1] at this; exact this
        have hv64 : v1 < 18446744073709551616 := by have := tk_lt (bs := bs) (s := (p, false)) (n := 64) (by omega); rw [hv1] at this; exact this
        have hD1 := Lib.hid (show unxD bs = ((ls ++ [v1]) ++ (unxR bs (many - 1) (decide (1 ≠ 0)) (p1, sh1) v1 W).1, (unxR bs (many - 1) (decide (1 ≠ 0)) (p1, sh1) v1 W).2) by
          rw [hD.out, Hd.out, show decide ((0 : Nat) ≠ 0) = false from rfl, unxR, if_neg (by simp), if_neg (by simp), hv1, show many - 1 = d by have := Hd.out; omega]; simp)
        have hI1 := Lib.hid (show U64all (ls ++ [v1]) by intro x hx; rcases List.mem_append.1 hx with hx | hx; exact hI.out x hx; simp at hx; subst hx; exact hv64)
        have Hv1 := Lib.hid hv1; clear hv1
        have hv64 := Lib.hid hv64
        go_wp2_with fail
        refine (tk_any A c bs (p, false) 64 _ rfl (v1, (p1, sh1)) Hv1.out (by omega) g hp hl _ (by exact hHr.out) (by exact hR.out)).mono ?_
        rintro e' w4 ⟨v, rfl, rfl, hR4, hon4⟩
        have hown4 := own_only hown.out (by omega) hon4
        have hs4 : q < w4.heap.size := Nat.lt_of_lt_of_le (Blk.lt hQ.out) hon4.size
        have hQ4 := Lib.hid (Blk.only hQ.out hon4 (by omega))
        have hb4 : Below g w2 w4 := hbr.trans (hon4.below (Nat.le_of_lt hgl) (Nat.le_refl _))
        have hR4 := Lib.hid hR4
        go_wp2_with (at_builtin; refine wpList_append1 rfl _ _ _ rfl elU64 rfl hown4 rfl rfl rfl ?_ ?k1 ?k2 ?k3 ?k4; intro A5 c5 w5 hown5 hgrow hb5)
        case k1 => first | rfl | (intro u hu; simp at hu; subst hu; rfl)
        case k2 => omega
        case k3 => unfold maxLen; omega
        case k4 => omega
        have hR5 := Lib.hid (RdAt.grown hR4.out hown4 (by omega) (show w4.grownBy w5 (Value.slice O 0 e).ownBlock from hgrow))
        have hQ5 := Lib.hid (Blk.grown hQ4.out (show w4.grownBy w5 (Value.slice O 0 e).ownBlock from hgrow) (fun e => by have := (own_blockU hown4 q e.symm).1; omega))
        have hown5 := Lib.hid hown5
        go_roundw
        case rel => exact ⟨1, ls ++ [v1], A5, c5, v1, W, p1, sh1, by omega, by go_num, rfl, rfl, hp1, hv64, hWo, Lib.hid (by rw [List.length_append, hkl.out]; rfl), hD1, hI1, Lib.hid (by rw [u64s_app1]; exact hown5.out), hR5, hQ5, hb4.trans (hb5.mono (by omega))⟩
        case measure => simp [intOf] <;> omega
      · have fk : ((k : Int) == 0) = false := by rw [beq_eq_false_iff_ne]; omega
        obtain ⟨⟨cg, ⟨p1, sh1⟩, W1⟩, hc1⟩ : ∃ r, turnD bs (p, false) W = r := ⟨_, rfl⟩
        have hp1 : p1 ≤ bs.length := by have := turnD_le (bs := bs) (s := (p, false)) (W := W); rw [hc1] at this; exact this
        have hcg : cg < 18446744073709551616 := by have := turnD_lt (bs := bs) (s := (p, false)) (W := W); rw [hc1] at this; exact this
        have hW1 := Lib.hid (show WinZok W1 by have := turnD_ok (bs := bs) (s := (p, false)) hWo.out; rw [hc1] at this; exact this)
        have eX := bits_xor_u64_nat last cg hla.out hcg
        have hl1 := Lib.hid (xor_lt hla.out hcg)
        have hD1 : unxD bs = ((ls ++ [last ^^^ cg]) ++ (unxR bs (many - (k + 1)) (decide (k + 1 ≠ 0)) (p1, sh1) (last ^^^ cg) W1).1, (unxR bs (many - (k + 1)) (decide (k + 1 ≠ 0)) (p1, sh1) (last ^^^ cg) W1).2) := by
          rw [hD.out, Hd.out, show decide (k ≠ 0) = true from decide_eq_true hk0, unxR, if_neg (by simp), if_pos rfl, hc1, show many - (k + 1) = d by have := Hd.out; omega]; simp
        have hI1 := Lib.hid (show U64all (ls ++ [last ^^^ cg]) by intro x hx; rcases List.mem_append.1 hx with hx | hx; exact hI.out x hx; simp at hx; subst hx; exact hl1.out)
        obtain ⟨nx, hnx⟩ : ∃ nx, last ^^^ cg = nx := ⟨_, rfl⟩
        rw [hnx] at eX hl1 hD1 hI1
        have hD1 := Lib.hid hD1
        have Hc1 := Lib.hid hc1; clear hc1 hnx
        have Hk0 := Lib.hid hk0; clear hk0
        go_wp2_with fail
        refine (turn_any A c bs (p, false) W (cg, ((p1, sh1), W1)) Hc1.out g q hgq hp hl hWo.out _ (by exact hHr.out) (by exact hR.out) (by exact hQ.out)).mono ?_
        rintro e' w4 ⟨v, rfl, rfl, hR4, hQ4, hon4⟩
        have hown4 := own_onlyB hown.out (by omega) (by omega) hon4
        have hs4 : q < w4.heap.size := Nat.lt_of_lt_of_le (Blk.lt hQ.out) hon4.size
        have hb4 : Below g w2 w4 := hbr.trans (hon4.below (Nat.le_of_lt hgl) (Nat.le_refl _) (by omega))
        have hR4 := Lib.hid hR4
        have hQ4 := Lib.hid hQ4
        go_wp2_with (at_builtin; refine wpList_append1 rfl _ _ _ rfl elU64 rfl hown4 rfl rfl rfl ?_ ?k1 ?k2 ?k3 ?k4; intro A5 c5 w5 hown5 hgrow hb5)
        case k1 => first | rfl | (intro u hu; simp at hu; subst hu; rfl)
        case k2 => omega
        case k3 => unfold maxLen; omega
        case k4 => omega
        have hR5 := Lib.hid (RdAt.grown hR4.out hown4 (by omega) (show w4.grownBy w5 (Value.slice O k e).ownBlock from hgrow))
        have hQ5 := Lib.hid (Blk.grown hQ4.out (show w4.grownBy w5 (Value.slice O k e).ownBlock from hgrow) (fun e => by have := (own_blockU hown4 q e.symm).1; omega))
        have hown5 := Lib.hid hown5
        go_roundw
        case rel => exact ⟨k + 1, ls ++ [nx], A5, c5, nx, W1, p1, sh1, by omega, by go_num, rfl, rfl, hp1, hl1, hW1, Lib.hid (by rw [List.length_append, hkl.out]; rfl), hD1, hI1, Lib.hid (by rw [u64s_app1]; exact hown5.out), hR5, hQ5, hb4.trans (hb5.mono (by omega))⟩
        case measure => simp [intOf]; omega
    · have hDE : unxD bs = (ls, (p, sh)) := by
        rw [hD.out]
        rcases (show k = many ∨ k < many by omega) with e1 | e1
        · rw [e1, Nat.sub_self]; simp [unxR]
        · have e2 : sh = true := by cases sh; exact absurd ⟨by omega, rfl⟩ hgo; rfl
          obtain ⟨d, hd⟩ : ∃ d, many - k = d + 1 := ⟨many - k - 1, by omega⟩
          rw [hd, e2, unxR, if_pos rfl]; simp
      have HDE := Lib.hid hDE; clear hDE
      obtain ⟨⟨⟨pb, M⟩, z⟩, hP⟩ : ∃ r, packXN ls = r := ⟨_, rfl⟩
      have hpm : pb.length ≤ 10000 := by have := packXN_small ls; rw [hP] at this; exact this
      have HP := Lib.hid hP; clear hP
      have hm := Lib.hid (Has.of_own hown.out)
      have hkm : k ≤ 65536 := by omega
      rcases (show ((k : Int) < (many : Int) ∧ sh = true) ∨ (¬ (k : Int) < (many : Int) ∧ sh = true) ∨ (¬ (k : Int) < (many : Int) ∧ sh = false) by
        cases sh
        · exact .inr (.inr ⟨fun h => hgo ⟨h, rfl⟩, rfl⟩)
        · by_cases h1 : (k : Int) < (many : Int)
          · exact .inl ⟨h1, rfl⟩
          · exact .inr (.inl ⟨h1, rfl⟩)) with ⟨hlt, rfl⟩ | ⟨hlt, rfl⟩ | ⟨hlt, rfl⟩
      all_goals clear hgo
      all_goals go_wp2_with fail
      all_goals refine (xpack_any' O k e ls ((pb, M), z) HP.out hkl.out (by rw [hkl.out]; unfold maxLen; omega) hI.out _ (by exact hm.out) (by exact HTr.out) (by omega)).mono ?_
      rotate_left 2
      · rintro e' w5 ⟨v, rfl, A5, c5, rfl, ho5, hb5⟩
        have hbx5 := bnext hbx hb5
        have hown5 := Lib.hid (own_less (own_next hown.out hb5) (show w.heap.size ≤ q + 1 by omega))
        have hR5 : Blk w5 g 74 _ := Blk.next hR.out hb5
        have kx5 : Blk w5 w.heap.size 43 _ := (kx2.below hbr hgw).next hb5
        have y3 : (w5.alloc (.cells #[.slice A5 pb.length c5, .int .i64 M] 43)).cell? ⟨g, 3, none⟩ = some (.bool false) := (Blk.alloc hR5 _).cell 3
        have y0 : (w5.alloc (.cells #[.slice A5 pb.length c5, .int .i64 M] 43)).cell? ⟨w.heap.size, 0, none⟩ = some (.slice A (packB bs).length c) := (Blk.alloc kx5 _).cell 0
        have y1 : (w5.alloc (.cells #[.slice A5 pb.length c5, .int .i64 M] 43)).cell? ⟨w.heap.size, 1, none⟩ = some (.int .i64 bs.length) := (Blk.alloc kx5 _).cell 1
        have hb6 : Below w.heap.size w (w5.alloc (.cells #[.slice A5 pb.length c5, .int .i64 M] 43)) := hbx5.alloc hbx5.size _
        clear hR5 kx5
        have hm6 := Lib.hid (Has.allocA (Has.of_own ho5) (.cells #[.slice A5 pb.length c5, .int .i64 M] 43))
        have hA6 := Lib.hid (Has.allocA (h.next hbx5) (.cells #[.slice A5 pb.length c5, .int .i64 M] 43))
        have ho6 := Lib.hid (hown5.out.alloc (.cells #[.slice A5 pb.length c5, .int .i64 M] 43))
        clear ho5
        by_cases hz : z = 0
        · subst hz
          by_cases hM : M = (bs.length : Int)
          · by_cases hbq : pb = packB bs
            · have hres := Lib.hid (Hr.out.symm.trans (unxN_ok HDE.out HP.out rfl hM hbq))
              have Hbq := Lib.hid hbq; clear hbq
              subst hM
              go_wp2_with fail
              refine (equalU8_any A5 A _ _ c5 c pb (packB bs) rfl rfl (by unfold maxLen; omega) (by unfold maxLen; omega) _ (by exact hm6.out) (by exact hA6.out)).mono ?_
              rintro e' w7 ⟨rfl, n7, rfl⟩
              rw [decide_eq_true Hbq.out]
              go_wp2_with fail
              go_ret2
              rw [hres.out]
              refine RV.mk ⟨O, e, ?_, ?_, below_drewN hb6 _⟩
              · show Value.tuple #[.slice O k e, .int .i64 0] = Value.tuple #[.slice O ls.length e, .int .i64 0]
                rw [hkl.out]
              · show World.ownsRow _ w.heap.size 41 1 (.slice O ls.length e) ls.length (u64s ls)
                rw [hkl.out]; exact own_drewN ho6.out _
            · have hres := Lib.hid (Hr.out.symm.trans (unxN_dif HDE.out HP.out rfl hbq))
              have Hbq := Lib.hid hbq; clear hbq
              subst hM
              go_wp2_with fail
              refine (equalU8_any A5 A _ _ c5 c pb (packB bs) rfl rfl (by unfold maxLen; omega) (by unfold maxLen; omega) _ (by exact hm6.out) (by exact hA6.out)).mono ?_
              rintro e' w7 ⟨rfl, n7, rfl⟩
              rw [decide_eq_false Hbq.out]
              go_wp2_with fail
              go_ret2
              rw [hres.out]
              exact RV.mk ⟨none, 0, rfl, ⟨rfl, .inl ⟨rfl, rfl⟩⟩, below_drewN hb6 _⟩
          · have hres := Lib.hid (Hr.out.symm.trans (unxN_len HDE.out HP.out rfl hM))
            have fM : (M != (bs.length : Int)) = true := by rw [bne_iff_ne]; exact hM
            go_wp2_with fail
            go_ret2
            rw [hres.out]
            exact RV.mk ⟨none, 0, rfl, ⟨rfl, .inl ⟨rfl, rfl⟩⟩, hb6⟩
        · have hres := Lib.hid (Hr.out.symm.trans (unxN_err HDE.out HP.out hz))
          have fz : (z != 0) = true := by rw [bne_iff_ne]; exact hz
          go_wp2_with fail
          go_ret2
          rw [hres.out]
          exact RV.mk ⟨none, 0, rfl, ⟨rfl, .inl ⟨rfl, rfl⟩⟩, hb6⟩
      all_goals
        rintro e' w5 ⟨v, rfl, A5, c5, rfl, ho5, hb5⟩
        have hbx5 := bnext hbx hb5
        have hown5 := Lib.hid (own_less (own_next hown.out hb5) (show w.heap.size ≤ q + 1 by omega))
        have hR5 : Blk w5 g 74 _ := Blk.next hR.out hb5
        have kx5 : Blk w5 w.heap.size 43 _ := (kx2.below hbr hgw).next hb5
        have y3 : (w5.alloc (.cells #[.slice A5 pb.length c5, .int .i64 M] 43)).cell? ⟨g, 3, none⟩ = some (.bool true) := (Blk.alloc hR5 _).cell 3
        have y0 : (w5.alloc (.cells #[.slice A5 pb.length c5, .int .i64 M] 43)).cell? ⟨w.heap.size, 0, none⟩ = some (.slice A (packB bs).length c) := (Blk.alloc kx5 _).cell 0
        have y1 : (w5.alloc (.cells #[.slice A5 pb.length c5, .int .i64 M] 43)).cell? ⟨w.heap.size, 1, none⟩ = some (.int .i64 bs.length) := (Blk.alloc kx5 _).cell 1
        have hb6 : Below w.heap.size w (w5.alloc (.cells #[.slice A5 pb.length c5, .int .i64 M] 43)) := hbx5.alloc hbx5.size _
        clear hR5 kx5
        have hres := Lib.hid (Hr.out.symm.trans (unxN_short HDE.out))
        go_wp2_with fail
        go_ret2
        rw [hres.out]
        exact RV.mk ⟨none, 0, rfl, ⟨rfl, .inl ⟨rfl, rfl⟩⟩, hb6⟩
end Go.Proofs.YtmbpgenjjgepiaaDoor
