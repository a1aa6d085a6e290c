
/- What Unpack of package delta answers. Conditions: the bits are at most 2 to the 50th; the table of widths lies in its cells. -/
import Derived.Test.YtmbpgenjjgepiaaDoorUnpackLaw
import Derived.Test.YtmbpgenjjgepiaaDoorDeltaM
import Derived.Test.YtmbpgenjjgepiaaDoorEqU8
namespace Go.Proofs.YtmbpgenjjgepiaaDoor
open Go.RowKit

def I64P (r : List Int × Int) (w : World) (v : Value) (w' : World) : Prop :=
  ∃ A c, v = .tuple #[.slice A r.1.length c, .int .i64 r.2] ∧ w'.ownsRow w.heap.size 2 1 (.slice A r.1.length c) r.1.length (i64s r.1) ∧ Below w.heap.size w w'
theorem unpN_short {bs : List Bool} {ls : List Int} {p : Nat} (h : unpD bs = (ls, (p, true))) : unpN bs = ([], 4) := by
  unfold unpN; rw [h, if_pos (.inl rfl)]
theorem unpN_err {bs : List Bool} {ls : List Int} {s : Nat × Bool} (h : unpD bs = (ls, s)) {b : List Nat} {M z : Int} (hP : packN ls = ((b, M), z)) (hz : z ≠ 0) : unpN bs = ([], 4) := by
  unfold unpN; rw [h, if_pos (.inr (.inl (by rw [hP]; exact hz)))]
theorem packN_ok {ls : List Int} {b : List Nat} {M z : Int} (hP : packN ls = ((b, M), z)) (hz : z = 0) : b = packB (packT ls) ∧ M = (packT ls).length := by
  unfold packN at hP
  split at hP
  · injection hP with _ h2; omega
  · injection hP with h1 _
    injection h1 with h1 h2
    exact ⟨h1.symm, h2.symm⟩
theorem packN_small (ls : List Int) : (packN ls).1.1.length ≤ 10000 := by
  unfold packN
  split
  · simp
  · have h1 := packF_len ls
    show (packB (packT ls)).length ≤ 10000
    rw [packB_len]
    unfold packT
    rw [List.length_append, toB_len]
    omega
theorem unpN_len {bs : List Bool} {ls : List Int} {s : Nat × Bool} (h : unpD bs = (ls, s)) {b : List Nat} {M z : Int} (hP : packN ls = ((b, M), z)) (hz : z = 0) (hM : M ≠ bs.length) : unpN bs = ([], 4) := by
  unfold unpN; rw [h, if_pos (.inr (.inr (fun e => hM (by rw [(packN_ok hP hz).2]; simp only [] at e; rw [e]))))]
theorem unpN_dif {bs : List Bool} {ls : List Int} {s : Nat × Bool} (h : unpD bs = (ls, s)) {b : List Nat} {M z : Int} (hP : packN ls = ((b, M), z)) (hz : z = 0) (hb : b ≠ packB bs) : unpN bs = ([], 4) := by
  unfold unpN; rw [h, if_pos (.inr (.inr (fun e => hb (by rw [(packN_ok hP hz).1]; simp only [] at e; rw [e]))))]
theorem unpN_ok {bs : List Bool} {ls : List Int} {p : Nat} (h : unpD bs = (ls, (p, false))) {b : List Nat} {M z : Int} (hP : packN ls = ((b, M), z)) (hz : z = 0) (hM : M = bs.length) (hb : b = packB bs) : unpN bs = (ls, 0) := by
  obtain ⟨h1, h2⟩ := packN_ok hP hz
  have e : packT ls = bs := packB_inj (by rw [hM] at h2; omega) (by rw [← h1, hb])
  unfold unpN
  rw [h, if_neg]
  simp only []
  rw [hP, e]
  simp [hz]

set_option maxRecDepth 1000000 in
set_option maxHeartbeats 1000000 in
theorem unpack_bad (A : Option Addr) (c : Nat) (l : List Nat) (N : Int) (hN : N ≤ 9223372036854775807) (hl : l.length ≤ 140737488355328) (hz : chkB l N ≠ 0) (w : World) (h : Has w w.heap.size A (u8s l)) :
    Calls Tryd.prog 17 #[.agg #[.slice A l.length c, .int .i64 N]] w (RV (I64P ([], 4) w)) := by
  have e4 : Hid (chkB l N = 4) := Lib.hid (by unfold chkB at hz ⊢; split at hz; exact absurd rfl hz; rw [if_neg (by assumption)])
  clear hz
  go_enter Tryd.func17, Tryd.ntmps17
  go_wp2_with fail
  refine (bcheck_any A c l N hN hl _ (by exact Has.allocA h _)).mono ?_
  rw [e4.out]
  rintro e w1 ⟨rfl, hb1⟩
  go_wp2_with fail
  go_ret2
  exact RV.mk ⟨none, 0, rfl, ⟨rfl, .inl ⟨rfl, rfl⟩⟩, ((Below.refl w.heap.size w).alloc (Nat.le_refl _) _).trans (hb1.mono (by simp))⟩

set_option maxRecDepth 1000000 in
set_option maxHeartbeats 4000000 in
theorem unpack_any (A : Option Addr) (c : Nat) (bs : List Bool) (r : List Int × Int) (hr : unpN bs = r) (hl : bs.length ≤ 1125899906842624) (w : World) (h : Has w w.heap.size A (u8s (packB bs))) (ht : TabAt w) (hw0 : 0 < w.heap.size) :
    Calls Tryd.prog 17 #[.agg #[.slice A (packB bs).length c, .int .i64 bs.length]] w (RV (I64P r w)) := by
  have hlp : (packB bs).length ≤ 140737488355328 := by rw [packB_len]; omega
  have e0 := Lib.hid (show chkB (packB bs) bs.length = 0 by unfold chkB; rw [if_pos ⟨by omega, by simpa using packB_ok bs⟩])
  have Hr := Lib.hid hr; clear hr
  obtain ⟨⟨many, p0, sh0⟩, hm0⟩ : ∃ r, tk bs (0, false) 16 = r := ⟨_, rfl⟩
  have hmany : many < 65536 := by have := tk_lt' (bs := bs) (s := (0, false)) (n := 16); rw [hm0] at this; exact this
  have hs0 : p0 ≤ bs.length := by have := tk_le (bs := bs) (s := (0, false)) (n := 16); rw [hm0] at this; exact this
  have hD0 := Lib.hid (show unpD bs = ([] ++ (unpR bs (many - 0) (decide (0 ≠ 0)) (p0, sh0) 0 0).1, (unpR bs (many - 0) (decide (0 ≠ 0)) (p0, sh0) 0 0).2) by unfold unpD; rw [hm0]; rfl)
  have Hm0 := Lib.hid hm0; clear hm0
  go_enter Tryd.func17, Tryd.ntmps17
  go_wp2_with fail
  refine (bcheck_any A c (packB bs) bs.length (by omega) hlp _ (by exact Has.allocA h _)).mono ?_
  rw [e0.out]
  rintro e w1 ⟨rfl, hb1⟩
  have kx1 : Blk w1 w.heap.size 43 #[.slice A (packB bs).length c, .int .i64 bs.length] := (Blk.new w _ _).next hb1
  have x0 : w1.cell? ⟨w.heap.size, 0, none⟩ = some (.slice A (packB bs).length c) := kx1.cell 0
  have x1 : w1.cell? ⟨w.heap.size, 1, none⟩ = some (.int .i64 bs.length) := kx1.cell 1
  have hbw : Below w.heap.size w w1 := ((Below.refl w.heap.size w).alloc (Nat.le_refl _) _).trans (hb1.mono (by simp))
  go_wp2_with fail
  obtain ⟨g, hg⟩ : ∃ g, w1.heap.size = g := ⟨_, rfl⟩
  have hR2 : RdAt (w1.alloc (.cells #[.slice A (packB bs).length c, .int .i64 bs.length, .int .i64 0, .bool false] 74)) w1.heap.size A c bs (0, false) := Blk.new _ _ _
  have hgw : w.heap.size < w1.heap.size := kx1.lt
  have hb2 : Below w.heap.size w (w1.alloc (.cells #[.slice A (packB bs).length c, .int .i64 bs.length, .int .i64 0, .bool false] 74)) := hbw.alloc hbw.size _
  have kx2 := kx1.alloc (.cells #[.slice A (packB bs).length c, .int .i64 bs.length, .int .i64 0, .bool false] 74)
  rw [hg] at hR2 hgw
  rw [hg]
  clear hg kx1 x0 x1 hbw hb1
  generalize w1.alloc (.cells #[.slice A (packB bs).length c, .int .i64 bs.length, .int .i64 0, .bool false] 74) = w2 at hR2 hb2 kx2 ⊢
  have hH2 : Has w2 g A (u8s (packB bs)) := (h.below hb2).more (Nat.le_of_lt hgw)
  refine (tk_any A c bs (0, false) 16 _ rfl (many, (p0, sh0)) Hm0.out (by omega) g (by simp) hl _ (by exact hH2) (by exact hR2)).mono ?_
  rintro e w3 ⟨v, rfl, rfl, hR3, hon3⟩
  have hb3 : Below g w2 w3 := hon3.below (Nat.le_of_lt (Blk.lt hR2)) (Nat.le_refl _)
  have hR3 := Lib.hid hR3
  have e1 : IntKind.i64.wrap (many : Int) = many := IntWalk.i64_in _ (by omega)
  clear hH2 hR2 hon3
  go_wp2_with fail
  go_loopw [6, 7, 8, 10] (fun v la st i wr => ∃ (k : Nat) (ls : List Int) (O : Option Addr) (e : Nat) (last step : Int) (p : Nat) (sh : Bool), k ≤ many ∧ i = .int .i64 (k : Nat) ∧ v = .slice O k e ∧ la = .int .i64 last ∧ st = .int .i64 step ∧ p ≤ bs.length ∧ Hid (ls.length = k) ∧ Hid (unpD bs = (ls ++ (unpR bs (many - k) (decide (k ≠ 0)) (p, sh) last step).1, (unpR bs (many - k) (decide (k ≠ 0)) (p, sh) last step).2)) ∧ Hid (I64s ls) ∧ Hid (wr.ownsRow (g + 1) 2 1 (.slice O k e) k (i64s ls)) ∧ Hid (RdAt wr g A c bs (p, sh)) ∧ Below g w2 wr) (fun _ _ _ i _ => many + 5 - (intOf i).toNat)
  case atStart => exact ⟨0, [], none, 0, 0, 0, p0, sh0, by omega, rfl, rfl, rfl, rfl, hs0, Lib.hid rfl, hD0, Lib.hid (by intro x hx; simp at hx), Lib.hid ⟨rfl, .inl ⟨rfl, rfl⟩⟩, hR3, hb3⟩
  case round =>
    obtain ⟨k, ls, O, e, last, step, p, sh, hk, rfl, rfl, rfl, rfl, hp, hkl, hD, hI, hown, hR, hbr⟩ := hrel
    have hgl : g < wr.heap.size := Blk.lt hR.out
    have c3 : wr.cell? ⟨g, 3, none⟩ = some (.bool sh) := Blk.cell hR.out 3
    have hbx : Below w.heap.size w wr := hb2.trans (hbr.mono (Nat.le_of_lt hgw))
    have hHr := Lib.hid ((h.below hbx).more (Nat.le_of_lt hgw))
    have HTr := Lib.hid (ht.below hw0 hbx)
    by_cases hgo : (k : Int) < (many : Int) ∧ sh = false
    · obtain ⟨hlt, rfl⟩ := hgo
      obtain ⟨d, hd⟩ : ∃ d, many - k = d + 1 := ⟨many - k - 1, by omega⟩
      have Hd := Lib.hid hd; clear hd
      by_cases hk0 : k = 0
      · subst hk0
        obtain ⟨⟨v1, p1, sh1⟩, hv1⟩ : ∃ r, tk bs (p, false) 64 = r := ⟨_, rfl⟩
        have hp1 : p1 ≤ bs.length := by have := tk_le (bs := bs) (s := (p, false)) (n := 64); rw [hv1] at this; exact this
        have hD1 := Lib.hid (show unpD bs = ((ls ++ [wrap64 v1]) ++ (unpR bs (many - 1) (decide (1 ≠ 0)) (p1, sh1) (wrap64 v1) step).1, (unpR bs (many - 1) (decide (1 ≠ 0)) (p1, sh1) (wrap64 v1) step).2) by
          rw [hD.out, Hd.out, show decide ((0 : Nat) ≠ 0) = false from rfl, unpR, if_neg (by simp), if_neg (by simp), hv1, show many - 1 = d by have := Hd.out; omega]; simp)
        have hI1 := Lib.hid (show I64s (ls ++ [wrap64 v1]) by intro x hx; rcases List.mem_append.1 hx with hx | hx; exact hI.out x hx; simp at hx; subst hx; unfold wrap64; omega)
        have Hv1 := Lib.hid hv1; clear hv1
        go_wp2_with fail
        refine (tk_any A c bs (p, false) 64 _ rfl (v1, (p1, sh1)) Hv1.out (by omega) g hp hl _ (by exact hHr.out) (by exact hR.out)).mono ?_
        rintro e' w4 ⟨v, rfl, rfl, hR4, hon4⟩
        have hown4 := own_only hown.out (Nat.lt_succ_self g) hon4
        have hs4 : g < w4.heap.size := Blk.lt hR4
        have hb4 : Below g w2 w4 := hbr.trans (hon4.below (Nat.le_of_lt hgl) (Nat.le_refl _))
        have hR4 := Lib.hid hR4
        go_wp2_with (at_builtin; refine wpList_append1 rfl _ _ _ rfl elI64 rfl hown4 rfl rfl rfl ?_ ?k1 ?k2 ?k3 ?k4; intro A5 c5 w5 hown5 hgrow hb5)
        case k1 => first | rfl | (intro u hu; simp at hu; subst hu; rfl)
        case k2 => omega
        case k3 => unfold maxLen; omega
        case k4 => omega
        have hR5 := Lib.hid (RdAt.grown hR4.out hown4 (Nat.lt_succ_self g) (show w4.grownBy w5 (Value.slice O 0 e).ownBlock from hgrow))
        have hown5 := Lib.hid hown5
        go_roundw
        case rel => exact ⟨1, ls ++ [wrap64 v1], A5, c5, wrap64 v1, step, p1, sh1, by omega, by go_num, rfl, rfl, rfl, hp1, Lib.hid (by rw [List.length_append, hkl.out]; rfl), hD1, hI1, Lib.hid (by rw [i64s_app1]; exact hown5.out), hR5, hb4.trans (hb5.mono (Nat.le_succ g))⟩
        case measure => simp [intOf] <;> omega
      · have fk : ((k : Int) == 0) = false := by rw [beq_eq_false_iff_ne]; omega
        obtain ⟨⟨cg, p1, sh1⟩, hc1⟩ : ∃ r, chgD bs (p, false) = r := ⟨_, rfl⟩
        have hp1 : p1 ≤ bs.length := by have := chgD_le (bs := bs) (s := (p, false)) hp; rw [hc1] at this; exact this
        have hD1 := Lib.hid (show unpD bs = ((ls ++ [wrap64 (last + wrap64 (step + cg))]) ++ (unpR bs (many - (k + 1)) (decide (k + 1 ≠ 0)) (p1, sh1) (wrap64 (last + wrap64 (step + cg))) (wrap64 (step + cg))).1, (unpR bs (many - (k + 1)) (decide (k + 1 ≠ 0)) (p1, sh1) (wrap64 (last + wrap64 (step + cg))) (wrap64 (step + cg))).2) by
          rw [hD.out, Hd.out, show decide (k ≠ 0) = true from decide_eq_true hk0, unpR, if_neg (by simp), if_pos rfl, hc1, show many - (k + 1) = d by have := Hd.out; omega]; simp)
        have hI1 := Lib.hid (show I64s (ls ++ [wrap64 (last + wrap64 (step + cg))]) by intro x hx; rcases List.mem_append.1 hx with hx | hx; exact hI.out x hx; simp at hx; subst hx; unfold wrap64; omega)
        have Hc1 := Lib.hid hc1; clear hc1
        have Hk0 := Lib.hid hk0; clear hk0
        go_wp2_with fail
        refine (change_any A c bs (p, false) (cg, (p1, sh1)) Hc1.out g (by omega) hp hl _ (by exact hHr.out) (by exact hR.out) (by exact HTr.out)).mono ?_
        rintro e' w4 ⟨v, rfl, rfl, hR4, hon4⟩
        have hown4 := own_only hown.out (Nat.lt_succ_self g) hon4
        have hs4 : g < w4.heap.size := Blk.lt hR4
        have hb4 : Below g w2 w4 := hbr.trans (hon4.below (Nat.le_of_lt hgl) (Nat.le_refl _))
        have hR4 := Lib.hid hR4
        go_wp2_with (at_builtin; refine wpList_append1 rfl _ _ _ rfl elI64 rfl hown4 rfl rfl rfl ?_ ?k1 ?k2 ?k3 ?k4; intro A5 c5 w5 hown5 hgrow hb5)
        case k1 => first | rfl | (intro u hu; simp at hu; subst hu; rfl)
        case k2 => omega
        case k3 => unfold maxLen; omega
        case k4 => omega
        have hR5 := Lib.hid (RdAt.grown hR4.out hown4 (Nat.lt_succ_self g) (show w4.grownBy w5 (Value.slice O k e).ownBlock from hgrow))
        have hown5 := Lib.hid hown5
        go_roundw
        case rel => exact ⟨k + 1, ls ++ [wrap64 (last + wrap64 (step + cg))], A5, c5, wrap64 (last + wrap64 (step + cg)), wrap64 (step + cg), p1, sh1, by omega, by go_num, rfl, rfl, rfl, hp1, Lib.hid (by rw [List.length_append, hkl.out]; rfl), hD1, hI1, Lib.hid (by rw [i64s_app1]; exact hown5.out), hR5, hb4.trans (hb5.mono (Nat.le_succ g))⟩
        case measure => simp [intOf]; omega
    · have hDE : unpD bs = (ls, (p, sh)) := by
        rw [hD.out]
        rcases (show k = many ∨ k < many by omega) with e1 | e1
        · rw [e1, Nat.sub_self]; simp [unpR]
        · have e2 : sh = true := by cases sh; exact absurd ⟨by omega, rfl⟩ hgo; rfl
          obtain ⟨d, hd⟩ : ∃ d, many - k = d + 1 := ⟨many - k - 1, by omega⟩
          rw [hd, e2, unpR, if_pos rfl]; simp
      have HDE := Lib.hid hDE; clear hDE
      obtain ⟨⟨⟨pb, M⟩, z⟩, hP⟩ : ∃ r, packN ls = r := ⟨_, rfl⟩
      have hpm : pb.length ≤ 10000 := by have := packN_small ls; rw [hP] at this; exact this
      have HP := Lib.hid hP; clear hP
      have hm := Lib.hid (Has.of_own hown.out)
      have hkm : k ≤ 65536 := by omega
      rcases (show ((k : Int) < (many : Int) ∧ sh = true) ∨ (¬ (k : Int) < (many : Int) ∧ sh = true) ∨ (¬ (k : Int) < (many : Int) ∧ sh = false) by
        cases sh
        · exact .inr (.inr ⟨fun h => hgo ⟨h, rfl⟩, rfl⟩)
        · by_cases h1 : (k : Int) < (many : Int)
          · exact .inl ⟨h1, rfl⟩
          · exact .inr (.inl ⟨h1, rfl⟩)) with ⟨hlt, rfl⟩ | ⟨hlt, rfl⟩ | ⟨hlt, rfl⟩
      all_goals clear hgo
      all_goals go_wp2_with fail
      all_goals refine (dpack_any' O k e ls ((pb, M), z) HP.out hkl.out (by rw [hkl.out]; unfold maxLen; omega) hI.out _ (by exact hm.out) (by exact HTr.out) (by omega)).mono ?_
      rotate_left 2
      · rintro e' w5 ⟨v, rfl, A5, c5, rfl, ho5, hb5⟩
        have hbx5 := bnext hbx hb5
        have hown5 := Lib.hid (own_less (own_next hown.out hb5) (show w.heap.size ≤ g + 1 by omega))
        have hR5 : Blk w5 g 74 _ := Blk.next hR.out hb5
        have kx5 : Blk w5 w.heap.size 43 _ := (kx2.below hbr hgw).next hb5
        have y3 : (w5.alloc (.cells #[.slice A5 pb.length c5, .int .i64 M] 43)).cell? ⟨g, 3, none⟩ = some (.bool false) := (Blk.alloc hR5 _).cell 3
        have y0 : (w5.alloc (.cells #[.slice A5 pb.length c5, .int .i64 M] 43)).cell? ⟨w.heap.size, 0, none⟩ = some (.slice A (packB bs).length c) := (Blk.alloc kx5 _).cell 0
        have y1 : (w5.alloc (.cells #[.slice A5 pb.length c5, .int .i64 M] 43)).cell? ⟨w.heap.size, 1, none⟩ = some (.int .i64 bs.length) := (Blk.alloc kx5 _).cell 1
        have hb6 : Below w.heap.size w (w5.alloc (.cells #[.slice A5 pb.length c5, .int .i64 M] 43)) := hbx5.alloc hbx5.size _
        clear hR5 kx5
        have hm6 := Lib.hid (Has.allocA (Has.of_own ho5) (.cells #[.slice A5 pb.length c5, .int .i64 M] 43))
        have hA6 := Lib.hid (Has.allocA (h.next hbx5) (.cells #[.slice A5 pb.length c5, .int .i64 M] 43))
        have ho6 := Lib.hid (hown5.out.alloc (.cells #[.slice A5 pb.length c5, .int .i64 M] 43))
        clear ho5
        by_cases hz : z = 0
        · subst hz
          by_cases hM : M = (bs.length : Int)
          · by_cases hbq : pb = packB bs
            · have hres := Lib.hid (Hr.out.symm.trans (unpN_ok HDE.out HP.out rfl hM hbq))
              have Hbq := Lib.hid hbq; clear hbq
              subst hM
              go_wp2_with fail
              refine (equalU8_any A5 A _ _ c5 c pb (packB bs) rfl rfl (by unfold maxLen; omega) (by unfold maxLen; omega) _ (by exact hm6.out) (by exact hA6.out)).mono ?_
              rintro e' w7 ⟨rfl, n7, rfl⟩
              rw [decide_eq_true Hbq.out]
              go_wp2_with fail
              go_ret2
              rw [hres.out]
              refine RV.mk ⟨O, e, ?_, ?_, below_drewN hb6 _⟩
              · show Value.tuple #[.slice O k e, .int .i64 0] = Value.tuple #[.slice O ls.length e, .int .i64 0]
                rw [hkl.out]
              · show World.ownsRow _ w.heap.size 2 1 (.slice O ls.length e) ls.length (i64s ls)
                rw [hkl.out]; exact own_drewN ho6.out _
            · have hres := Lib.hid (Hr.out.symm.trans (unpN_dif HDE.out HP.out rfl hbq))
              have Hbq := Lib.hid hbq; clear hbq
              subst hM
              go_wp2_with fail
              refine (equalU8_any A5 A _ _ c5 c pb (packB bs) rfl rfl (by unfold maxLen; omega) (by unfold maxLen; omega) _ (by exact hm6.out) (by exact hA6.out)).mono ?_
              rintro e' w7 ⟨rfl, n7, rfl⟩
              rw [decide_eq_false Hbq.out]
              go_wp2_with fail
              go_ret2
              rw [hres.out]
              exact RV.mk ⟨none, 0, rfl, ⟨rfl, .inl ⟨rfl, rfl⟩⟩, below_drewN hb6 _⟩
          · have hres := Lib.hid (Hr.out.symm.trans (unpN_len HDE.out HP.out rfl hM))
            have fM : (M != (bs.length : Int)) = true := by rw [bne_iff_ne]; exact hM
            go_wp2_with fail
            go_ret2
            rw [hres.out]
            exact RV.mk ⟨none, 0, rfl, ⟨rfl, .inl ⟨rfl, rfl⟩⟩, hb6⟩
        · have hres := Lib.hid (Hr.out.symm.trans (unpN_err HDE.out HP.out hz))
          have fz : (z != 0) = true := by rw [bne_iff_ne]; exact hz
          go_wp2_with fail
          go_ret2
          rw [hres.out]
          exact RV.mk ⟨none, 0, rfl, ⟨rfl, .inl ⟨rfl, rfl⟩⟩, hb6⟩
      all_goals
        rintro e' w5 ⟨v, rfl, A5, c5, rfl, ho5, hb5⟩
        have hbx5 := bnext hbx hb5
        have hown5 := Lib.hid (own_less (own_next hown.out hb5) (show w.heap.size ≤ g + 1 by omega))
        have hR5 : Blk w5 g 74 _ := Blk.next hR.out hb5
        have kx5 : Blk w5 w.heap.size 43 _ := (kx2.below hbr hgw).next hb5
        have y3 : (w5.alloc (.cells #[.slice A5 pb.length c5, .int .i64 M] 43)).cell? ⟨g, 3, none⟩ = some (.bool true) := (Blk.alloc hR5 _).cell 3
        have y0 : (w5.alloc (.cells #[.slice A5 pb.length c5, .int .i64 M] 43)).cell? ⟨w.heap.size, 0, none⟩ = some (.slice A (packB bs).length c) := (Blk.alloc kx5 _).cell 0
        have y1 : (w5.alloc (.cells #[.slice A5 pb.length c5, .int .i64 M] 43)).cell? ⟨w.heap.size, 1, none⟩ = some (.int .i64 bs.length) := (Blk.alloc kx5 _).cell 1
        have hb6 : Below w.heap.size w (w5.alloc (.cells #[.slice A5 pb.length c5, .int .i64 M] 43)) := hbx5.alloc hbx5.size _
        clear hR5 kx5
        have hres := Lib.hid (Hr.out.symm.trans (unpN_short HDE.out))
        go_wp2_with fail
        go_ret2
        rw [hres.out]
        exact RV.mk ⟨none, 0, rfl, ⟨rfl, .inl ⟨rfl, rfl⟩⟩, hb6⟩
end Go.Proofs.YtmbpgenjjgepiaaDoor
